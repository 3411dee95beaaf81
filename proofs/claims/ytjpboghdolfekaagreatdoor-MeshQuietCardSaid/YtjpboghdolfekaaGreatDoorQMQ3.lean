import Derived.Test.YtjpboghdolfekaaGreatDoorQMQ2
import Derived.Lib.MakeNoZero
import Derived.RangeFuncRecord
import Derived.RangeFuncIn
import GoSem.Extern.SlicesOverlaps
set_option linter.unusedSimpArgs false
set_option linter.unusedVariables false
set_option linter.defProp false
namespace Go.SL
open Go
namespace Sha
def Kn(x:jD)(n:Nat):jD:=x <<< (32-n) ||| x >>> n
def ks:List jD:=[
 0x428a2f98,0x71374491,0xb5c0fbcf,0xe9b5dba5,0x3956c25b,0x59f111f1,0x923f82a4,0xab1c5ed5,
 0xd807aa98,0x12835b01,0x243185be,0x550c7dc3,0x72be5d74,0x80deb1fe,0x9bdc06a7,0xc19bf174,
 0xe49b69c1,0xefbe4786,0x0fc19dc6,0x240ca1cc,0x2de92c6f,0x4a7484aa,0x5cb0a9dc,0x76f988da,
 0x983e5152,0xa831c66d,0xb00327c8,0xbf597fc7,0xc6e00bf3,0xd5a79147,0x06ca6351,0x14292967,
 0x27b70a85,0x2e1b2138,0x4d2c6dfc,0x53380d13,0x650a7354,0x766a0abb,0x81c2c92e,0x92722c85,
 0xa2bfe8a1,0xa81a664b,0xc24b8b70,0xc76c51a3,0xd192e819,0xd6990624,0xf40e3585,0x106aa070,
 0x19a4c116,0x1e376c08,0x2748774c,0x34b0bcb5,0x391c0cb3,0x4ed8aa4a,0x5b9cca4f,0x682e6ff3,
 0x748f82ee,0x78a5636f,0x84c87814,0x8cc70208,0x90befffa,0xa4506ceb,0xbef9a3f7,0xc67178f2]
def s0(x:jD):jD:=Kn x 7 ^^^ Kn x 18 ^^^ x >>> 3
def s1(x:jD):jD:=Kn x 17 ^^^ Kn x 19 ^^^ x >>> 10
def b0(x:jD):jD:=Kn x 2 ^^^ Kn x 13 ^^^ Kn x 22
def b1(x:jD):jD:=Kn x 6 ^^^ Kn x 11 ^^^ Kn x 25
def ch(e f g:jD):jD:=g ^^^ e &&& (f ^^^ g)
def maj(a b c:jD):jD:=a &&& b ||| c &&& (a ||| b)
def word(b:List UInt8)(t:Nat):jD:=wB (b.getD (4*t) 0) <<< 24 ||| wB (b.getD (4*t+1) 0) <<< 16 ||| wB (b.getD (4*t+2) 0) <<< 8 ||| wB (b.getD (4*t+3) 0)
def sched(b:List UInt8):Nat→List jD
 | 0=>[]
 | t+1 =>
  let w:=sched b t
  if t<16 then w++[word b t]else w++[w.getD (t-16) 0+w.getD (t-7) 0+s1 (w.getD (t-2) 0)+s0 (w.getD (t-15) 0)]
theorem fk(b:List UInt8)(t:Nat):(sched b t).length=t:=by
 induction t with
 | zero=>rfl
 | succ t ih=>simp only[sched];split <;> simp[ih]
theorem Ib(b:List UInt8){t u:Nat}(h:t≤u)(i:Nat)(hi:i<t):(sched b u)[i]?=(sched b t)[i]? := by
 induction u with
 | zero=>omega
 | succ u ih =>
  grind [sched,fk]
structure St where
 a:jD
 b:jD
 c:jD
 d:jD
 e:jD
 f:jD
 g:jD
 h:jD
def round(s:St)(k w:jD):St :=
 let x:=s.h+b1 s.e+ch s.e s.f s.g+k+w
 let y:=b0 s.a+maj s.a s.b s.c
 ⟨x+y,s.a,s.b,s.c,s.d+x,s.e,s.f,s.g⟩
def rounds(s:St)(w:List jD):Nat→St
 | 0=>s
 | t+1=>round (rounds s w t) (ks.getD t 0) (w.getD t 0)
def plus(s t:St):St:=⟨s.a+t.a,s.b+t.b,s.c+t.c,s.d+t.d,s.e+t.e,s.f+t.f,s.g+t.g,s.h+t.h⟩
def chunk(s:St)(b:List UInt8):St:=plus s (rounds s (sched b 64) 64)
def start:St:=⟨0x6a09e667,0xbb67ae85,0x3c6ef372,0xa54ff53a,0x510e527f,0x9b05688c,0x1f83d9ab,0x5be0cd19⟩
def chunks(s:St)(b:List UInt8):Nat→St
 | 0=>s
 | n+1=>chunk (chunks s b n) (b.drop (64*n))
def St.l(s:St):List jD:=[s.a,s.b,s.c,s.d,s.e,s.f,s.g,s.h]
def zq(n:Nat):List UInt8:=(List.range 8).map fun i=>UInt8.ofNat (n/2 ^ (56-8*i))
def pad(n:Nat):List UInt8:=128::List.replicate ((119-n%64)%64) 0++zq (8*n)
def out(s:St):List UInt8:=(List.range 32).map fun i=>UInt8.ofNat ((s.l.getD (i/4) 0) >>> (24-8*(i%4))).toNat
def GM(s:St):(out s).length=32:=by simp[out]
def msg(b:List UInt8):List UInt8:=b++pad b.length
end Sha
def ff(b:List UInt8):Dg:=⟨Sha.out (Sha.chunks Sha.start (Sha.msg b) ((Sha.msg b).length/64)),Sha.GM _⟩
def rS(n:Nat):List UInt8:=(List.range 8).map fun i=>UInt8.ofNat (n/2 ^ (8*i))
def fz(tag:UInt8)(ps:List (List UInt8)):List UInt8:=tag::ps.flatMap fun p=>rS p.length++p
def cI(tag:UInt8)(ps:List (List UInt8)):Dg:=ff (fz tag ps)
namespace Sha
def part(b:List UInt8)(t:Nat):Nat→jD
 | 0=>0
 | j+1=>part b t j ||| wB (b.getD (4*t+j) 0) <<< (24-8*j)
def acK(b:List UInt8)(t:Nat):part b t 4=word b t:=by
 simp[part,word]
def lD(b:List UInt8)(i:Nat):List jD:=(List.range 64).map fun t=>part b t (min 4 (i-4*t))
theorem kj(b:List UInt8)(i:Nat):(lD b i).length=64:=by simp[lD]
theorem ko(b:List UInt8)(i t:Nat)(ht:t<64):(lD b i)[t]?=some (part b t (min 4 (i-4*t))):=by
 simp[lD,ht]
theorem Fq(b:List UInt8):lD b 0=List.replicate 64 0:=by
 apply List.ext_getElem?
 grind [ko,part,kj]
theorem Fs(b:List UInt8)(i:Nat)(hi:i<64):(lD b i).set (i/4) (part b (i/4) (i%4) ||| wB (b.getD i 0) <<< (24-8*(i%4)))=lD b (i+1):=by
 apply List.ext_getElem?
 intro t
 rw[List.getElem?_set,kj]
 rcases Nat.lt_or_ge t 64 with h|h
 ·rw[ko b i t h,ko b (i+1) t h]
  by_cases ht:i/4=t
  ·subst ht
   rw[if_pos rfl,if_pos h]
   have e1:min 4 (i+1-4*(i/4))=i%4+1:=by omega
   grind [part]
  grind
 grind [kj,lD]
theorem Ej(b:List UInt8)(t u:Nat)(h:t<u)(hu:t<16):(sched b u)[t]?=some (word b t):=by
 rw[Ib b (t:=t+1) aj t aj]
 grind [sched,fk]
theorem Jt(b:List UInt8):lD b 64=sched b 16++List.replicate 48 0:=by
 apply List.ext_getElem?
 intro t
 rcases Nat.lt_or_ge t 16 with h|h
 ·rw[ko b 64 t aj,List.getElem?_append_left (by rw[fk];exact h),Ej b t 16 h h,show min 4 (64-4*t)=4 from by omega,acK]
 ·rw[List.getElem?_append_right (by rw[fk];exact h),fk]
  rcases Nat.lt_or_ge t 64 with h2|h2
  ·rw[ko b 64 t h2,List.getElem?_replicate,if_pos aj,show min 4 (64-4*t)=0 from by omega];rfl
  grind [kj]
def iO(b:List UInt8)(t:Nat):List jD:=sched b t++List.replicate (64-t) 0
def Ek(b:List UInt8)(t:Nat)(h:t≤64):(iO b t).length=64:=by simp[iO,fk];omega
theorem mT(b:List UInt8)(t i:Nat)(h:i<t):(iO b t)[i]?=some ((sched b t).getD i 0):=by
 grind [iO,fk]
theorem BJ(b:List UInt8)(t:Nat)(h1:16≤t)(h2:t<64):(iO b t).set t ((sched b t).getD (t-16) 0+(sched b t).getD (t-7) 0+s1 ((sched b t).getD (t-2) 0)+s0 ((sched b t).getD (t-15) 0))=iO b (t+1):=by
 unfold iO
 rw[List.set_append_right _ _ (by rw[fk];exact Nat.le_refl _),fk,Nat.sub_self,show 64-t=(64-(t+1))+1 from by omega,List.replicate_succ,List.set_cons_zero]
 grind [sched]
def El(b:List UInt8):iO b 64=sched b 64:=by simp[iO]
end Sha
namespace Sha
theorem BI{b b':List UInt8}(h:∀i,i<64→b.getD i 0=b'.getD i 0)(t:Nat):sched b t=sched b' t:=by
 induction t with
 | zero=>rfl
 | succ t ih =>
  grind [sched,word]
theorem JC(s:St)(b r:List UInt8)(h:64≤b.length):chunk s (b++r)=chunk s b:=by
 grind [chunk,BI]
theorem wK(s:St)(b r:List UInt8):∀q,64*q≤b.length→chunks s (b++r) q=chunks s b q
 | 0,_=>rfl
 | q+1,h=>by
  simp only[chunks]
  rw[wK s b r q aj,List.drop_append_of_le_length aj,JC _ _ _ (by rw[List.length_drop];omega)]
theorem wL(s:St)(b:List UInt8)(p:Nat):∀q,chunks s b (p+q)=chunks (chunks s b p) (b.drop (64*p)) q
 | 0=>rfl
 | q+1=>by
  rw[← Nat.add_assoc]
  simp only[chunks]
  rw[wL s b p q,List.drop_drop,show 64*p+64*q=64*(p+q)from by omega]
theorem H6(b:List UInt8):chunks start (msg b) ((msg b).length/64)=chunks (chunks start b (b.length/64)) (b.drop (64*(b.length/64))++pad b.length) ((b.drop (64*(b.length/64))++pad b.length).length/64):=by
 have h1:64*(b.length/64)≤b.length:=by omega
 have hl:(msg b).length/64=b.length/64+(b.drop (64*(b.length/64))++pad b.length).length/64:=by
  grind [msg]
 grind [wL,msg,wK]
end Sha
end Go.SL
namespace Go.SL
def Ot(b:List UInt8):(ff b).bs=Sha.out (Sha.chunks Sha.start (Sha.msg b) ((Sha.msg b).length/64)):=rfl
theorem Lm{l:List UInt8}{i n:Nat}{x:UInt8}(hl:l.length=n)(h:l[i]?=some x):(bV (l.take i++List.replicate (n-i) (0:UInt8))).set i (u8 x)=bV (l.take (i+1)++List.replicate (n-(i+1)) (0:UInt8)):=by
 have hi:i<n:=by
  grind
 have e1:(l.take i).length=i:=by rw[List.length_take];omega
 show((l.take i++List.replicate (n-i) (0:UInt8)).map u8).set i (u8 x)=_
 rw[← List.map_set,List.set_append_right _ _ aj,e1,Nat.sub_self,show n-i=(n-(i+1))+1 from by omega,List.replicate_succ,List.set_cons_zero,List.take_add_one,h]
 simp[bV]
def jv(l:List UInt8):gU (bV l)=true:=by
 induction l with
 | nil=>rfl
 | cons x l ih =>
  show(Value.oneCell' (u8 x) && gU (bV l))=true
  rw[ih];rfl
theorem ofInt64(x:Int):(BitVec.ofInt IntKind.i64.bits x).toNat=(x%18446744073709551616).toNat:=by
 rw[BitVec.toNat_ofInt];rfl
theorem ry(x:Int):IntKind.i64.wrap ((BitVec.ofInt IntKind.i64.bits x &&& BitVec.ofInt IntKind.i64.bits 1).toNat:Int)=x%2:=by
 grind [ofInt64,cz,fZ]
def k5:Nat→Nat→Pt→Pt
 | _,0,p=>p
 | i,n+1,p => .st i (k5 (i+1) n p)
def nz(n:Nat):Value.int .u8 (IntKind.u8.wrap (n:Int))=u8 (UInt8.ofNat n):=by
 have h:IntKind.u8.wrap (n:Int)=(n:Int)%256:=by simp[IntKind.wrap,IntKind.bits,IntKind.signed]
 rw[h]
 simp only[u8,UInt8.toNat_ofNat']
 congr 1
theorem uz{a c k:Nat}(ha:a<2 ^ k):a ||| c*2 ^ k=a+c*2 ^ k:=by
 have:=Nat.shiftLeft_add_eq_or_of_lt ha c
 rw[Nat.shiftLeft_eq]at this
 grind
theorem uB{a:Nat}(h:a<18446744073709551616):(BitVec.ofInt IntKind.i64.bits (a:Int)).toNat=a:=by
 rw[ofInt64];omega
def qR{a:Nat}(h:a<18446744073709551616):(BitVec.ofInt IntKind.u64.bits (a:Int)).toNat=a:=by
 rw[BitVec.toNat_ofInt]
 show((a:Int)%18446744073709551616).toNat=a
 omega
theorem uA{a:Nat}(h:a<256):(BitVec.ofInt IntKind.u8.bits (a:Int)).toNat=a:=by
 rw[BitVec.toNat_ofInt]
 show((a:Int)%256).toNat=a
 omega
theorem EH{a c k:Nat}(ha:a<2 ^ k)(h:a+c*2 ^ k<9223372036854775808) :
  IntKind.i64.wrap ((BitVec.ofInt IntKind.i64.bits (a:Int) ||| BitVec.ofInt IntKind.i64.bits ((c*2 ^ k:Nat):Int)).toNat:Int)=((a+c*2 ^ k:Nat):Int):=by
 rw[BitVec.toNat_or,uB aj,uB aj,uz ha]
 grind [cz,fZ]
theorem ZV{a c k:Nat}(ha:a<2 ^ k)(h:a+c*2 ^ k<18446744073709551616) :
  IntKind.u64.wrap ((BitVec.ofInt IntKind.u64.bits (a:Int) ||| BitVec.ofInt IntKind.u64.bits ((c*2 ^ k:Nat):Int)).toNat:Int)=((a+c*2 ^ k:Nat):Int):=by
 rw[BitVec.toNat_or,qR aj,qR aj,uz ha]
 grind [cz,fZ]
set_option maxRecDepth 10000 in
theorem LK(x:Nat)(hx:x<256):IntKind.u8.wrap ((BitVec.ofInt IntKind.u8.bits (x:Int) ||| BitVec.ofInt IntKind.u8.bits 128).toNat:Int)=((x%128+128:Nat):Int):=by
 have e2:(BitVec.ofInt IntKind.u8.bits (128:Int)).toNat=128:=by decide
 have h:∀y,y<256→y ||| 128=y%128+128:=by decide
 grind [uA,cz,fZ]
theorem AL(x:Nat)(hx:x<256):IntKind.u8.wrap ((BitVec.ofInt IntKind.u8.bits (x:Int) &&& ~~~ BitVec.ofInt IntKind.u8.bits 128).toNat:Int)=((x%128:Nat):Int):=by
 have e2:(~~~ BitVec.ofInt IntKind.u8.bits (128:Int)).toNat=2 ^ 7-1:=by decide
 rw[BitVec.toNat_and,uA hx,e2,Nat.and_two_pow_sub_one_eq_mod]
 grind [cz,fZ]
theorem rq(x n:Nat)(hx:x<18446744073709551616)(hn:n<64):IntKind.u64.wrap ((BitVec.ofInt IntKind.u64.bits (x:Int) &&& BitVec.ofInt IntKind.u64.bits ((2 ^ n-1:Nat):Int)).toNat:Int)=((x%2 ^ n:Nat):Int):=by
 have hp:2 ^ n<2 ^ 64:=Nat.pow_lt_pow_right aj hn
 have nv:0<2 ^ n:=Nat.pow_pos aj
 rw[BitVec.toNat_and,qR hx,qR aj,Nat.and_two_pow_sub_one_eq_mod]
 have cB:x%2 ^ n<18446744073709551616:=Nat.lt_of_le_of_lt (Nat.mod_le _ _) hx
 grind [cz,fZ]
def Cq(n:Nat):List UInt8:=[UInt8.ofNat n,UInt8.ofNat (n/256),UInt8.ofNat (n/65536),UInt8.ofNat (n/16777216)]
def pj(b:List UInt8):Nat:=(b.getD 0 0).toNat+(b.getD 1 0).toNat*256+(b.getD 2 0).toNat*65536+(b.getD 3 0).toNat*16777216
def Ai(n:Nat):(Cq n).length=4:=rfl
theorem L8(b:List UInt8):pj b<4294967296:=by
 unfold pj
 have h:∀x:UInt8,x.toNat<256:=fun x=>x.toNat_lt
 grind
end Go.SL
namespace Go.SL
open Go
def ak.kA{H H' rest:List HP}{A:HP}(i:Nat)(h:LO i H [] = .mk A rest)(hr:ak rest H'):ak H (A::H') :=
 (ak.perm (by simpa using yN i H [] A rest h)).trans (ak.cons A hr)
def ak.Qo(H:List HP):ak H []:=fun h hs=>⟨fun _=>none,⟨fun b o e=>(by cases e),fun _=>rfl⟩⟩
def ah{H H':List HP}(h:ak H H':=by(repeat'(first|exact ak.refl _|exact ak.Qo _|refine ak.kA 0 rfl ?_|refine ak.kA 1 rfl ?_|refine ak.kA 2 rfl ?_|refine ak.kA 3 rfl ?_|refine ak.kA 4 rfl ?_|refine ak.kA 5 rfl ?_|refine ak.kA 6 rfl ?_|refine ak.kA 7 rfl ?_|refine ak.kA 8 rfl ?_|refine ak.kA 9 rfl ?_|refine ak.kA 10 rfl ?_|refine ak.kA 11 rfl ?_|refine ak.kA 12 rfl ?_|refine ak.kA 13 rfl ?_|refine ak.kA 14 rfl ?_|refine(ak.drop _ _).trans ?_))):ak H H':=h
section
variable{P:Program}{f:FuncId}{n:Nat}{R:Ending→World→Prop}{G:cg}{k:List Item}{L:eC}{H:List HP}{S:World→Prop}{all:Array Oper}{rest:Pl}{d:Tmp}{ty:TypeId}{pos:String}{af:Array Edge}{gd:Option (Nat × Bool)}
def dM{fo:Operand}{args:Array Operand}{uS:Array TypeId}{g:FuncId}{cap:Array Value}{vs:List Value}{Pre Fr:List HP}{Post:Value→List HP→Prop}(hd:Nat.blt d n=true)(hf:ev L fo=some (.func (.func g) #[] cap))(fK:DZ L args.toList [] = .mk vs){AK:List Value}(has:AK=vs++cap.toList)(c:aw P g AK Pre Post)(he:ak H (Pre++Fr))(h:∀v H',Post v H'→J P f n R G S all rest k ((d,v)::L) (H'++Fr))(hS:∀v H' w,Post v H'→Sat G w (H'++Fr)→Sx rest S w) :
  J P f n R G S all (.cons false true ⟨some d,.call { callee := .value fo,args:=args,argTypes:=uS },ty,pos,af,gd⟩ rest) k L H:=by
 intro a w ha hw _
 refine .inl ⟨.inl rfl,.inr ⟨rfl,?_⟩⟩
 have hr:(execOp a.eval ⟨some d,.call { callee := .value fo,args:=args,argTypes:=uS },ty,pos,af,gd⟩).run P w = .ok (.enter g AK.toArray) w:=by
  simp only[execOp,resolve,Sem.run_bind,ha.ev hf,Deferred.ofValue,Sem.run_pure,Result.andThen_ok,invoke]
  rw[jU c.1,lF ha.1 _ _ fK,has]
  congr 2
  simp
 refine rZ (fun c hc=>by cases hc) hr (Calls.mono (c.2 G w Fr (hw.cp he)) ?_)
 rintro e w'⟨v,H',rfl,ef,lA⟩
 exact⟨v,rfl,hS v H' w' ef lA,h v H' ef _ w' (ha.put hd v) lA (hS v H' w' ef lA)⟩
def tqg{p:Prop}(h:p:=by(intro _ _ w hp hw;(first|(obtain rfl:=hp;exact hw.cp ah)|(obtain⟨rfl,rfl⟩:=hp;exact hw.cp ah)|(obtain⟨_,rfl⟩:=hp;exact hw.cp ah)|(obtain⟨_,_,rfl⟩:=hp;exact hw.cp ah)|(obtain⟨_,_,rfl,rfl⟩:=hp;exact hw.cp ah)|(obtain⟨_,_,rfl,_⟩:=hp;exact hw.cp ah)|(obtain⟨_,rfl,rfl⟩:=hp;exact hw.cp ah)|(obtain⟨_,_,_,rfl,_,rfl⟩:=hp;exact hw.cp ah)|(obtain⟨_,_,_,rfl,rfl⟩:=hp;exact hw.cp ah)|(obtain⟨_,_,_,_,_,rfl,rfl⟩:=hp;exact hw.cp ah)|(obtain⟨_,_,_,_,rfl,_,_,rfl⟩:=hp;exact hw.cp ah)|(obtain⟨_,rfl,_,rfl⟩:=hp;exact hw.cp ah)|(obtain⟨_,_,_,_,rfl,rfl⟩:=hp;exact hw.cp ah)))):p:=h
def cP{fo:Operand}{args:Array Operand}{uS:Array TypeId}{g:FuncId}{cap:Array Value}{vs:List Value}{Pre Fr:List HP}{Post:Value→List HP→Prop}{AK:List Value}(c:aw P g AK Pre Post)(h:∀v H',Post v H'→J P f n R G S all rest k ((d,v)::L) (H'++Fr))(hd:Nat.blt d n=true:=by exact rfl)(hf:ev L fo=some (.func (.func g) #[] cap):=by exact rfl)(fK:DZ L args.toList [] = .mk vs:=by exact rfl)(has:AK=vs++cap.toList:=by exact rfl)(he:ak H (Pre++Fr):=by exact ah)(hS:∀v H' w,Post v H'→Sat G w (H'++Fr)→Sx rest S w:=by exact tqg) :
    J P f n R G S all (.cons false true ⟨some d,.call { callee := .value fo,args:=args,argTypes:=uS },ty,pos,af,gd⟩ rest) k L H:=dM hd hf fK has c he h hS
def afY{p:Prop}[Decidable p](t:Nat)(h:J P f n R G S all rest k ((t,.bool true)::L) H)(hb:dp L t=some (.bool (decide p)):=by exact rfl)(hp:p:=by omega):J P f n R G S all rest k L H:=aC t _ hb (congrArg Value.bool (decide_eq_true hp)) h
def afZ{p:Prop}[Decidable p](t:Nat)(h:J P f n R G S all rest k ((t,.bool false)::L) H)(hb:dp L t=some (.bool (decide p)):=by exact rfl)(hp:¬p:=by omega):J P f n R G S all rest k L H:=aC t _ hb (congrArg Value.bool (decide_eq_false hp)) h
def afW{p:Prop}[Decidable p](t:Nat)(h:K P f n R G k ((t,.bool true)::L) H)(hb:dp L t=some (.bool (decide p)):=by exact rfl)(hp:p:=by omega):K P f n R G k L H:=aQ t _ hb (congrArg Value.bool (decide_eq_true hp)) h
def afX{p:Prop}[Decidable p](t:Nat)(h:K P f n R G k ((t,.bool false)::L) H)(hb:dp L t=some (.bool (decide p)):=by exact rfl)(hp:¬p:=by omega):K P f n R G k L H:=aQ t _ hb (congrArg Value.bool (decide_eq_false hp)) h
def aed{k0:List Item}{id:Nat}{ops:Array Oper}(Hs:List HP)(cu:Pt)(h:J P f n R G (fun w=>Sat G w Hs) ops (dI ops cu) k L H)(hk:fU 1000 k0 = .mk (.code (.region id ops true)::k):=by exact rfl)(hm:P.follows .mixedOrders=true:=by exact ae)(Oh:Region.noSelect ops=true:=by exact ae)(hp:(yO ops && (Nat.ble cu.depth ops.size && dH ops true cu (Array.replicate ops.size false)))=true:=by exact ae)(hS:∀w,Sat G w H→Sat G w Hs:=by(intro w hw;exact hw.cp ah)):K P f n R G k0 L H:=aO _ cu hk hm Oh hp hS h
def az{fo:Operand}{args:Array Operand}{uS:Array TypeId}{g:FuncId}{cap:Array Value}{vs:List Value}{Pre Fr:List HP}{Post:Value→List HP→Prop}{AK:List Value}(c:aw P g AK Pre Post)(h:∀v H',Post v H'→J P f n R G S all rest k ((d,v)::L) (H'++Fr))(hd:Nat.blt d n=true:=by exact rfl)(hf:ev L fo=some (.func (.func g) #[] cap):=by exact rfl)(fK:DZ L args.toList [] = .mk vs:=by exact rfl)(has:AK=vs++cap.toList:=by exact rfl)(he:ak H (Pre++Fr):=by exact ah)(hS:∀v H' w,Post v H'→Sat G w (H'++Fr)→Sx rest S w:=by exact fun _ _ _ _ _=>trivial) :
    J P f n R G S all (.cons false true ⟨some d,.call { callee := .value fo,args:=args,argTypes:=uS },ty,pos,af,gd⟩ rest) k L H:=dM hd hf fK has c he h hS
def aF{fo:Operand}{args:Array Operand}{uS:Array TypeId}{g:FuncId}{cap:Array Value}{vs:List Value}{Pre Fr Hx:List HP}{Post:Value→List HP→Prop}{v:Value}{AK:List Value}(c:aw P g AK Pre Post)(h:J P f n R G S all rest k ((d,v)::L) (Hx++Fr))(hd:Nat.blt d n=true:=by exact rfl)(hf:ev L fo=some (.func (.func g) #[] cap):=by exact rfl)(fK:DZ L args.toList [] = .mk vs:=by exact rfl)(has:AK=vs++cap.toList:=by exact rfl)(he:ak H (Pre++Fr):=by exact ah)(hq:∀r H,Post r H→r=v∧H=Hx:=by(intro _ _ q;obtain⟨rfl,rfl⟩:=q;exact⟨rfl,rfl⟩))(hS:∀v' H' w,Post v' H'→Sat G w (H'++Fr)→Sx rest S w:=by exact fun _ _ _ _ _=>trivial) :
    J P f n R G S all (.cons false true ⟨some d,.call { callee := .value fo,args:=args,argTypes:=uS },ty,pos,af,gd⟩ rest) k L H:=dM hd hf fK has c he (fun _ _ q=>by obtain⟨rfl,rfl⟩:=hq _ _ q;exact h) hS
def bP{fo:Operand}{args:Array Operand}{uS:Array TypeId}{g:FuncId}{cap:Array Value}{vs:List Value}{Pre Fr Hx:List HP}{Post:Value→List HP→Prop}{v:Value}{AK:List Value}(c:aw P g AK Pre Post)(h:J P f n R G S all rest k ((d,v)::L) (Hx++Fr))(hd:Nat.blt d n=true:=by exact rfl)(hf:ev L fo=some (.func (.func g) #[] cap):=by exact rfl)(fK:DZ L args.toList [] = .mk vs:=by exact rfl)(has:AK=vs++cap.toList:=by exact rfl)(he:ak H (Pre++Fr):=by exact ah)(hq:∀r H,Post r H→r=v∧H=Hx:=by(intro _ _ q;obtain⟨rfl,rfl⟩:=q;exact⟨rfl,rfl⟩))(hS:∀w,Sat G w (Hx++Fr)→Sx rest S w:=by(intro w hw;exact hw.cp ah)) :
    J P f n R G S all (.cons false true ⟨some d,.call { callee := .value fo,args:=args,argTypes:=uS },ty,pos,af,gd⟩ rest) k L H:=dM hd hf fK has c he (fun _ _ q=>by obtain⟨rfl,rfl⟩:=hq _ _ q;exact h) (fun _ _ w q hw=>by obtain⟨rfl,rfl⟩:=hq _ _ q;exact hS w hw)
def ad{k k0:List Item}{fn:Func}{F:List HP}{Post:Value→List HP→Prop}(hR:Ends R G F Post)(hf:P.funcs[f]?=some fn)(hk:fU 1000 k0 = .mk (.code .ret::k)){vs:List Value}(hr:vk L fn.results.toList [] = .mk vs){Hq:List HP}(hp:Post (dJ vs) Hq)(he:ak H (Hq++F):=by exact ah):K P f n R G k0 L H:=aL hR hf hk vs hr hp he
def aw.ao{fn:Func}{c:Code}{args:List Value}{Pre:List HP}{Post:Value→List HP→Prop}(hf:P.funcs[f]?=some fn)(hn:fn.ntmps=n)(h:∀G F R,Ends R G F Post→K P f n R G [.code c] L (Pre++F))(hc:hG fn=true:=by exact ae)(hb:fn.body=some c:=by exact rfl)(hp:LH 0 args [] = .mk L:=by exact rfl)(hlen:Nat.ble args.length n=true:=by exact rfl):aw P f args Pre Post:=aw.enter hf hc hb hn hp hlen h
def zA{k0 k':List Item}{α:Type}(m:Nat)(I:α→Prop)(Lf:α→eC)(Hf:α→List HP)(hk:fU 1000 (k0.drop m) = .mk k')(tail:∀y,I y→K P f n R G k' (Lf y) (Hf y))(h:(∀y,I y→K P f n R G k' (Lf y) (Hf y))→K P f n R G k0 L H):K P f n R G k0 L H:=h tail
def pJ{k0 k':List Item}{α:Type}{I:α→Prop}{Lf:α→eC}{Hf:α→List HP}(ih:∀y,I y→K P f n R G k' (Lf y) (Hf y))(y:α)(hk:fU 1000 k0 = .mk k')(hI:I y)(hL:∀t v,dp (Lf y) t=some v→dp L t=some v)(hH:ak H (Hf y)):K P f n R G k0 L H:=eU 1000 hk (HC hL (ai hH (ih y hI)))
def gG{k0 k':List Item}(hk:fU 1000 k0 = .mk k')(h:K P f n R G k' L H):K P f n R G k0 L H:=eU 1000 hk h
end
def dv{p:Prop}(h:p:=by(intro w hw;exact hw.cp ah)):p:=h
def tqh{p:Prop}(h:p:=by(intro _ _ w hp hw;obtain⟨rfl,rfl⟩:=hp;exact hw.cp ah)):p:=h
end Go.SL
namespace Go.SL
open Go
section
variable{P:Program}{U:Tr}[hU:eO P U]{f:FuncId}{n:Nat}{R:Ending→World→Prop}{G:cg}{k:List Item}{L:eC}{H:List HP}{S:World→Prop}{all:Array Oper}{rest:Pl}{d:Tmp}{ty:TypeId}{pos:String}{af:Array Edge}{gd:Option (Nat × Bool)}{m:Bool}
theorem il{fo:Operand}{args:Array Operand}{uS:Array TypeId}{g:FuncId}{fi cap:Array Value}{vs:List Value}{Pre Fr:List HP}{Post:Value→List HP→Prop}(hd:Nat.blt d n=true)(hf:ev L fo=some (.func (.func g) fi cap))(fK:DZ L args.toList [] = .mk vs){AK:List Value}(has:AK=fi.toList++vs++cap.toList)(c:aw P g AK Pre Post)(he:ak H (Pre++Fr))(h:∀v H',Post v H'→J P f n R G S all rest k ((d,v)::L) (H'++Fr))(hS:∀v H' w,Post v H'→Sat G w (H'++Fr)→Sx rest S w) :
  J P f n R G S all (.cons false true ⟨some d,.call { callee := .value fo,args:=args,argTypes:=uS },ty,pos,af,gd⟩ rest) k L H:=by
 intro a w ha hw _
 refine .inl ⟨.inl rfl,.inr ⟨rfl,?_⟩⟩
 have hr:(execOp a.eval ⟨some d,.call { callee := .value fo,args:=args,argTypes:=uS },ty,pos,af,gd⟩).run P w = .ok (.enter g AK.toArray) w:=by
  simp only[execOp,resolve,Sem.run_bind,ha.ev hf,Deferred.ofValue,Sem.run_pure,Result.andThen_ok,invoke]
  rw[jU c.1,lF ha.1 _ _ fK,has]
  congr 2
  grind
 refine rZ (fun c hc=>by cases hc) hr (Calls.mono (c.2 G w Fr (hw.cp he)) ?_)
 rintro e w'⟨v,H',rfl,ef,lA⟩
 exact⟨v,rfl,hS v H' w' ef lA,h v H' ef _ w' (ha.put hd v) lA (hS v H' w' ef lA)⟩
def xh{t yt:TypeId}{x y:Operand}{p q:ByteArray}(hd:Nat.blt d n=true)(hx:ev L x=some (.string p))(hy:ev L y=some (.string q))(hr:p.size+q.size≤9223372036854775807)(h:J P f n R G S all rest k ((d,.string (p++q))::L) H):J P f n R G S all (.cons m true ⟨some d,.binOp .add t x y yt,ty,pos,af,gd⟩ rest) k L H :=
  cR hd (fun a ha w=>by
    have h0 : ¬ (((p.size + q.size : Nat) : Int) > IntKind.i64.max) := by have : IntKind.i64.max = 9223372036854775807 := by decide
                                                                          omega
    simp only[execOp,ha.ev hx,ha.ev hy,eqGuard,Sem.run_bind,Sem.run_pure,Result.andThen_ok,binOp_string_add,Op.stringOp]
    rw[if_neg h0]
    rfl) h
theorem A8{g:FuncId}{fn:Func}{args:Array Operand}{uS:Array TypeId}{t elem:TypeId}{bL:Ty}{q:Nat}(hd:Nat.blt d n=true)(hf:P.funcs[g]?=some fn)(hb:fn.body=none)(hn:(fn.name == "runtime.NumGoroutine")=false)(ug:(Extern.findNext fn).isNone=true)(he:Extern.find fn=some (Extern.BytealgMakeNoZero.makeNoZero fn.params #[t]))(ht:U.get t=some bL)(hu:bL.fe = .slice elem)(fK:DZ L args.toList [] = .mk [.int .i64 (q:Int)])(hq:q≤281474976710656)(hS:∀b l w,Sat G w (ag b (cl l elem)::H)→Sx rest S w)(h:∀b c l,q≤c→List.length l=c→J P f n R G S all rest k ((d,.slice (some ⟨b,0,none⟩) q c)::L) (ag b (cl l elem)::H)) :
  J P f n R G S all (.cons false true ⟨some d,.call { callee := .value (.func g),args:=args,argTypes:=uS },ty,pos,af,gd⟩ rest) k L H:=by
 refine lO hd (fun u H1=>∃b c l,(q≤c∧List.length l=c)∧u = .slice (some ⟨b,0,none⟩) q c∧H1=ag b (cl l elem)::H) (fun a w ha hw=>?_) ?_ ?_
 ·have hav:=lF ha _ _ fK
  obtain⟨cs,hr,h1,_⟩:=Lib.run_makeNoZero (P:=P) w fn.params t elem (by rw[← hu];exact iL ht) q hq
  have hw2:Sat G w.drew.drew H:=(hw.draw _).draw _
  refine⟨_,w.drew.drew.alloc (.cells cs elem),_,?_,⟨w.heap.size,cs.size,cs.toList,⟨h1,by simp⟩,rfl,rfl⟩,?_⟩
  ·simp only[execOp,resolve,Sem.run_bind,Act.eval,Deferred.ofValue,Sem.run_pure,Result.andThen_ok,invoke]
   rw[show Array.map (fun x=>a.eval x) args = #[.int .i64 (q:Int)]from hav]
   simp only[Array.empty_append,Array.append_empty]
   rw[vf hf hb hn ug he,hr]
   rfl
  ·have:=hw2.alloc (cl cs.toList elem)
   have e:cl cs.toList elem = .cells cs elem:=by simp[cl]
   rw[e]at this ⊢
   exact this
 ·grind
 grind
theorem J5{t elem:TypeId}{bL te:Ty}{x hi mx:Operand}{a0:Option Addr}{len cap:Nat}{q r:Int}{j2 j3:IntKind}(hd:Nat.blt d n=true)(ht:U.get t=some bL)(hu:bL.fe = .slice elem)(he:U.get elem=some te)(hx:ev L x=some (.slice a0 len cap))(DW:ev L hi=some (.int j2 q))(hmx:ev L mx=some (.int j3 r))(h0:0≤q)(hqr:q≤r)(Og:r≤(cap:Int))(h:J P f n R G S all rest k ((d,.slice (sliceAt a0 r.toNat 0 te.info.size) q.toNat r.toNat)::L) H) :
  J P f n R G S all (.cons m true ⟨some d,.slice t x none (some hi) (some mx),ty,pos,af,gd⟩ rest) k L H:=by
 refine cR hd (fun a ha w=>?_) h
 have hb:(Instr.sliceBounds true len cap none (some (a.eval hi)) (some (a.eval mx))).run P w = .ok (0,q.toNat,r.toNat) w:=by
  unfold Instr.sliceBounds
  have e1:0≤r∧r≤(cap:Int):=⟨aj,Og⟩
  have e2:0≤q∧q≤((r.toNat:Nat):Int):=⟨aj,aj⟩
  have e4:q≤max r 0:=by omega
  simp[ha.ev DW,ha.ev hmx,Instr.sliceBound,asIntOf,e1,e2,e4,h0]
 simp only[execOp,ha.ev hx,Instr.sliceAt,Sem.run_bind,run_underlying ht,Result.andThen_ok,hu,Instr.slice,Option.map_some,Option.map_none,hb,run_sizeOf he,Sem.run_pure,sliceAt]
 grind
end
end Go.SL
namespace Go.SL
open Go
def aZ(l:Nat)(st:LoopState)(pd:Option Code)(f:FuncId)(n:Nat)(L:eC)(ps:Array Tmp)(assign body:Code)(r:Nat):HP:=fun h =>
 ∃tmps:Array Value,(tmps.size=n∧∀t v,dp L t=some v→tmps[t]?=some v)∧ag l (.loop { state:=st,pending:=pd,fn:=f,tmps:=tmps,params:=ps,assign:=assign,body:=body,defers:=r }) h
def bI(P:Program)(l:Nat)(args:List Value)(Pre:List HP)(Post:Value→List HP→Prop):Prop :=
 ∀G w F,Sat G w (Pre++F)→∃fn tmps assign body,(Instr.yield l args.toArray).run P w = .ok (.round l fn tmps assign body) w ∧
  ∀ro,RoundIn (fw ro) 0 P l fn tmps assign body w fun e w'=>∃v H,e = .returned v∧Post v H∧Sat G w' (H++F)
def Lq:List Nat→List Value→eC→eC
 | p::ps,v::vs,L=>Lq ps vs ((p,v)::L)
 | _,_,L=>L
def inB(n:Nat):List Nat→Bool
 | []=>true
 | p::ps=>Nat.blt p n && inB n ps
def Hh{n:Nat}:∀(ps:List Nat) (vs:List Value) (L:eC) (tmps:Array Value),inB n ps=true→tmps.size=n→(∀t v,dp L t=some v→tmps[t]?=some v) →
  Has n (Lq ps vs L) { tmps:=(ps.zip vs).foldl (fun tmps (x:Nat × Value)=>tmps.setIfInBounds x.1 x.2) tmps,defers:=[] }
 | [],vs,L,tmps,_,hs,hg=>⟨hs,trivial,hg⟩
 | p::ps,[],L,tmps,_,hs,hg=>⟨by simpa using hs,trivial,by simpa[Lq]using hg⟩
 | p::ps,v::vs,L,tmps,hb,hs,hg=>by
  simp only[inB,Bool.and_eq_true]at hb
  have h1:Has n L { tmps:=tmps,defers:=[] }:=⟨hs,trivial,hg⟩
  have h2:=h1.put hb.1 v
  exact Hh ps vs _ _ hb.2 h2.1 h2.2.2
def HM(R:Ending→World→Prop)(G:cg)(l:Nat)(F:List HP)(Post:Value→List HP→Prop):Prop :=
 (G.ro=some l∧G.ds=[])∧∀v H w,Post v H→Sat G w (H++F)→R (.returned v) w
section
variable{P:Program}{f:FuncId}{n:Nat}{R:Ending→World→Prop}{G:cg}{k:List Item}{L:eC}{H:List HP}{l r:Nat}{st:LoopState}{pd:Option Code}{n0:Nat}{f0:FuncId}{L0:eC}{ps:Array Tmp}{assign body:Code}
def pg{w:World}(hs:Sat G w (aZ l st pd f0 n0 L0 ps assign body r::H)):∃tmps:Array Value,(tmps.size=n0∧∀t v,dp L0 t=some v→tmps[t]?=some v)∧Sat G w (ag l (.loop { state:=st,pending:=pd,fn:=f0,tmps:=tmps,params:=ps,assign:=assign,body:=body,defers:=r })::H):=by
 obtain⟨t,o,u,hp,yV,h1,h2,⟨tmps,ht,hA⟩,hH,hd,he⟩:=hs
 exact⟨tmps,ht,t,o,u,hp,yV,h1,h2,hA,hH,hd,he⟩
def pe{tmps:Array Value}(ht:tmps.size=n0∧∀t v,dp L0 t=some v→tmps[t]?=some v):ak (ag l (.loop { state:=st,pending:=pd,fn:=f0,tmps:=tmps,params:=ps,assign:=assign,body:=body,defers:=r })::H) (aZ l st pd f0 n0 L0 ps assign body r::H) :=
 fun h hs=>⟨h,sub.refl h,dG (fun h hp=>⟨tmps,ht,hp⟩) (fun _ h=>h) hs⟩
def bI.Af{args:List Value}{Pre:List HP}{Post:Value→List HP→Prop}(hps:Nat.beq ps.toList.length args.length=true)(Aq:inB n0 ps.toList=true)(h:∀G F R,HM R G l F Post→K P f0 n0 R G [.code assign,.beginRound,.code body] (Lq ps.toList args L0) (aZ l .ready none f0 n0 L0 ps assign body r::(Pre++F))) :
  bI P l args (aZ l .ready none f0 n0 L0 ps assign body r::Pre) Post:=by
 intro G w F hw
 obtain⟨tmps,ht,yU⟩:=pg (H:=Pre++F) hw
 have hg:=yU.get (i:=0) rfl
 have js:args.toArray.size=ps.size:=by have:=Nat.eq_of_beq_eq_true hps;simpa using this.symm
 refine⟨_,_,_,_,run_yield hg js,fun ro=>⟨trivial,fun c cs _=>?_⟩⟩
 have hk:=h { G with ro:=some l,ds:=[] } F (fun e w'=>∃v H,e = .returned v∧Post v H∧Sat G w' (H++F)) ⟨⟨rfl,rfl⟩,fun v H w' hp hs=>⟨v,H,rfl,hp,hs⟩⟩
 have hz:(ps.zip args.toArray).foldl (fun(tmps:Array Value) (x:Tmp × Value)=>tmps.setIfInBounds x.1 x.2) tmps=(ps.toList.zip args).foldl (fun tmps (x:Nat × Value)=>tmps.setIfInBounds x.1 x.2) tmps:=by
  rw[← Array.foldl_toList,Array.toList_zip]
 have ha:qs { G with ro:=some l,ds:=[] } n0 (Lq ps.toList args L0) { tmps:=(ps.zip args.toArray).foldl (fun(tmps:Array Value) (x:Tmp × Value)=>tmps.setIfInBounds x.1 x.2) tmps,defers:=[] }:=⟨by rw[hz];exact Hh ps.toList args L0 tmps Aq ht.1 ht.2,rfl⟩
 obtain⟨v,w',⟨v',H',he,hp,hs⟩,dE⟩:=hk _ w ha (yU.cp (pe ht)) (c::cs) c cs rfl
 cases he
 exact⟨.returned v,w',⟨v,H',rfl,hp,hs⟩,(StepsIn.of_steps dE).mono fun m _=>sH P ro m⟩
def er{k0:List Item}(hk:fU 1000 k0 = .mk (.beginRound::k)){F:List HP}{Post:Value→List HP→Prop}(hR:HM R G l F Post)(h:K P f n R G k L (aZ l .busy pd f0 n0 L0 ps assign body r::H)):K P f n R G k0 L (aZ l .ready pd f0 n0 L0 ps assign body r::H):=by
 refine eU 1000 hk ?_
 intro a w ha hw cs
 obtain⟨tmps,ht,yU⟩:=pg hw
 have hg:=yU.get (i:=0) rfl
 have hb:=run_beginRound (P:=P) hg rfl
 have hw2:=(yU.zS (o' := .loop { state := .busy,pending:=pd,fn:=f0,tmps:=tmps,params:=ps,assign:=assign,body:=body,defers:=r })).cp (pe ht)
 exact(h a _ ha hw2 cs).of_steps (.one (stepR_beginRound (b:=({ (default:Frame)with fn:=f,kind := .normal,roundOf:=G.ro }:Frame)) hR.1.1 hb))
def yH{a:Act}{w w':World}{k1:List Item}{cs:List Frame}{v:Value}(I1:G.ro=some l)(hR:R (.returned v) w')(hs:∀c wH,step P (lone (bf G.ro f a k1) (c::wH) w) = .next (lone (c.finish v) wH w')):JV P f R cs (lone (bf G.ro f a k1) cs w) G.ro:=by
 rw[I1]at hs ⊢
 intro c wH jy
 subst jy
 exact⟨v,w',hR,.one (hs c wH)⟩
def rn{w:World}(jump:Option Code)(hw:Sat G w (aZ l st pd f0 n0 L0 ps assign body r::H)):∃w',(Instr.endRound l jump).run P w = .ok (.bool jump.isNone) w'∧Sat G w' (aZ l (if jump.isNone then .ready else .done) jump f0 n0 L0 ps assign body r::H):=by
 obtain⟨tmps,ht,yU⟩:=pg hw
 have hg:=yU.get (i:=0) rfl
 exact⟨_,run_endRound (P:=P) jump hg,(yU.zS (o' := .loop { state:=if jump.isNone then .ready else .done,pending:=jump,fn:=f0,tmps:=tmps,params:=ps,assign:=assign,body:=body,defers:=r })).cp (pe ht)⟩
def ea{k0:List Item}{F Hq:List HP}{Post:Value→List HP→Prop}(hR:HM R G l F Post)(hk:fU 1000 k0 = .mk [])(he:ak H (aZ l st pd f0 n0 L0 ps assign body r::(Hq++F)))(hp:Post (.bool true) (aZ l .ready none f0 n0 L0 ps assign body r::Hq)):K P f n R G k0 L H:=by
 refine eU 1000 hk ?_
 intro a w ha hw cs
 obtain⟨w',h1,h2⟩:=rn (P:=P) none (hw.cp he)
 exact yH hR.1.1 (hR.2 _ _ w' hp h2) fun c wH=>stepR_round_end (b:=({ (default:Frame)with fn:=f,kind := .normal,roundOf:=G.ro }:Frame)) hR.1.1 rfl h1
def xg{k0:List Item}{F Hq:List HP}{Post:Value→List HP→Prop}(hR:HM R G l F Post)(hk:fU 1000 k0 = .mk (.code .ret::k))(he:ak H (aZ l st pd f0 n0 L0 ps assign body r::(Hq++F)))(hp:Post (.bool false) (aZ l .done (some .ret) f0 n0 L0 ps assign body r::Hq)):K P f n R G k0 L H:=by
 refine eU 1000 hk ?_
 intro a w ha hw cs
 obtain⟨w',h1,h2⟩:=rn (P:=P) (some .ret) (hw.cp he)
 exact yH hR.1.1 (hR.2 _ _ w' hp h2) fun c wH=>stepR_round_ret (b:=({ (default:Frame)with fn:=f,kind := .normal,roundOf:=G.ro }:Frame)) hR.1.1 rfl h1
theorem rF{k0:List Item}{g:Operand}{gid:FuncId}{cap:Array Value}{Pre:Nat→Nat→List HP}{Fr:List HP}{Post:Nat→Nat→Value→List HP→Prop}(hk:fU 1000 k0 = .mk (.code (.rangeFunc g ps assign body)::k))(I1:G.ro=none)(hg:ev L g=some (.func (.func gid) #[] cap))(c:∀l r,aw P gid (.func (.yield l) #[] #[]::cap.toList) (aZ l .ready none f n L ps assign body r::Pre l r) (Post l r))(he:∀l r,ak H (Pre l r++Fr))(fR:∀l r v H',Post l r v H'→∃st pd H'',H'=aZ l st pd f n L ps assign body r::H''∧st ≠ .busy ∧
   K P f n R { G with ds:=r::G.ds } ((pd.map Item.code).toList++k) L (H''++(ag r (.deferred (some []))::Fr))):K P f n R G k0 L H:=by
 refine eU 1000 hk ?_
 intro a w ha hw cs
 let b:Frame:={ (default:Frame)with fn:=f,kind := .normal,roundOf:=G.ro }
 have QR:=run_enterLoop_outer (P:=P) (w:=w) f a.tmps ps assign body
 rw[← I1]at QR
 have yU:Sat G ((w.alloc (.deferred (some []))).alloc (.loop { state := .ready,pending:=none,fn:=f,tmps:=a.tmps,params:=ps,assign,body,defers:=w.heap.size }))
   (aZ (w.heap.size+1) .ready none f n L ps assign body w.heap.size::(Pre (w.heap.size+1) w.heap.size++(ag w.heap.size (.deferred (some []))::Fr))):=by
  have h1:=hw.alloc (.deferred (some []))
  have h2:=h1.alloc (.loop { state := .ready,pending:=none,fn:=f,tmps:=a.tmps,params:=ps,assign:=assign,body:=body,defers:=w.heap.size })
  have js:({ w with heap:=w.heap.push (.deferred (some [])) }:World).heap.size=w.heap.size+1:=by simp
  rw[js]at h2
  refine Sat.cp h2 ?_
  refine(pe ⟨ha.1.1,ha.1.2.2⟩).trans (ak.cons _ ?_)
  refine(ak.cons _ (he (w.heap.size+1) w.heap.size)).trans ?_
  exact ak.perm (List.perm_middle.symm)
 have k7:(resolve a.eval (rangeCall g (w.heap.size+1)) 0).run P ((w.alloc (.deferred (some []))).alloc (.loop { state := .ready,pending:=none,fn:=f,tmps:=a.tmps,params:=ps,assign,body,defers:=w.heap.size })) = .ok { target := .fn (.func gid) cap,args := #[.func (.yield (w.heap.size+1)) #[] #[]] } ((w.alloc (.deferred (some []))).alloc (.loop { state := .ready,pending:=none,fn:=f,tmps:=a.tmps,params:=ps,assign,body,defers:=w.heap.size })):=by
  simp only[resolve,rangeCall,Sem.run_bind,ha.ev hg,Deferred.ofValue,Sem.run_pure,Result.andThen_ok]
  simp[Act.eval]
 have hinv:(invoke (.fn (.func gid) cap) #[.func (.yield (w.heap.size+1)) #[] #[]]).run P ((w.alloc (.deferred (some []))).alloc (.loop { state := .ready,pending:=none,fn:=f,tmps:=a.tmps,params:=ps,assign,body,defers:=w.heap.size })) = .ok (.enter gid (Value.func (.yield (w.heap.size+1)) #[] #[]::cap.toList).toArray) ((w.alloc (.deferred (some []))).alloc (.loop { state := .ready,pending:=none,fn:=f,tmps:=a.tmps,params:=ps,assign,body,defers:=w.heap.size })):=by
  simp only[invoke]
  rw[jU (c (w.heap.size+1) w.heap.size).1]
  congr 2
  grind
 have Fh:=stepR_rangeFunc (P:=P) (b:=b) (a:=a) (k:=k) (cs:=cs) (w:=w) (ps:=ps) (assign:=assign) (body:=body) (g:=g) QR k7 hinv
 obtain⟨e,w3,fr,⟨v,H',rfl,ef,Cy⟩,aaA,hfn,aan⟩:=(c (w.heap.size+1) w.heap.size).2 G _ (ag w.heap.size (.deferred (some []))::Fr) yU (b.atR { a with defers:=[{ target := .collected w.heap.size,args := #[] }]++a.defers } (.inRangeFunc (w.heap.size+1)::k)::cs)
 obtain⟨st,pd,H'',rfl,dE,hK⟩:=fR _ _ _ _ ef
 obtain⟨tmps,ht,hs4⟩:=pg (H:=H''++(ag w.heap.size (.deferred (some []))::Fr)) Cy
 have hg4:=hs4.get (i:=0) rfl
 have adG:=run_endLoop (P:=P) hg4 dE
 have hs5:=(hs4.zS (o' := .loop { state := .exhausted,pending:=pd,fn:=f,tmps:=tmps,params:=ps,assign:=assign,body:=body,defers:=w.heap.size })).cp (ak.drop _ _)
 have mA:step P (lone fr (b.atR { a with defers:=[{ target := .collected w.heap.size,args := #[] }]++a.defers } (.inRangeFunc (w.heap.size+1)::k)::cs) w3) = .next (lone (b.atR { a with defers:=[{ target := .collected w.heap.size,args := #[] }]++a.defers } (.endRangeFunc (w.heap.size+1)::k)) cs w3):=by
  rw[← finish_atR_inRangeFunc (w.heap.size+1) v];exact step_leave_returned aan
 have lB:=stepR_endRangeFunc (P:=P) (b:=b) (a:={ a with defers:=[{ target := .collected w.heap.size,args := #[] }]++a.defers }) (k:=k) (cs:=cs) adG
 have mL:=hK { a with defers:=[{ target := .collected w.heap.size,args := #[] }]++a.defers } _ ⟨⟨ha.1.1,trivial,ha.1.2.2⟩,by rw[show({ G with ds:=w.heap.size::G.ds }:cg).ds=w.heap.size::G.ds from rfl,List.map_cons,ha.2];rfl⟩ hs5 cs
 exact JV.of_steps (Steps.trans (.one Fh) (Steps.trans aaA (Steps.trans (.one mA) (.one lB)))) mL
variable{S:World→Prop}{all:Array Oper}{rest:Pl}{d:Tmp}{ty:TypeId}{pos:String}{af:Array Edge}{gd:Option (Nat × Bool)}
theorem gQ{fo:Operand}{args:Array Operand}{uS:Array TypeId}{vs:List Value}{Pre Fr:List HP}{Post:Value→List HP→Prop}(hd:Nat.blt d n=true)(hf:ev L fo=some (.func (.yield l) #[] #[]))(fK:DZ L args.toList [] = .mk vs)(c:bI P l vs Pre Post)(he:ak H (Pre++Fr))(h:∀v H',Post v H'→J P f n R G S all rest k ((d,v)::L) (H'++Fr))(hS:∀v H' w,Post v H'→Sat G w (H'++Fr)→Sx rest S w) :
  J P f n R G S all (.cons false true ⟨some d,.call { callee := .value fo,args:=args,argTypes:=uS },ty,pos,af,gd⟩ rest) k L H:=by
 intro a w ha hw _
 refine .inl ⟨.inl rfl,.inr ⟨rfl,?_⟩⟩
 obtain⟨fn,tmps,asg,bdy,hy,hr⟩:=c G w Fr (hw.cp he)
 have Ao:(execOp a.eval ⟨some d,.call { callee := .value fo,args:=args,argTypes:=uS },ty,pos,af,gd⟩).run P w = .ok (.round l fn tmps asg bdy) w:=by
  simp only[execOp,resolve,Sem.run_bind,ha.ev hf,Deferred.ofValue,Sem.run_pure,Result.andThen_ok,invoke]
  rw[lF ha.1 _ _ fK]
  grind
 refine ku (fun c hc=>by cases hc) Ao ⟨fun h=>by simp[fw]at h,RoundIn.mono (hr G.ro) ?_⟩
 rintro e w'⟨v,H',rfl,ef,lA⟩
 exact⟨hS v H' w' ef lA,h v H' ef _ w' (ha.put hd v) lA (hS v H' w' ef lA)⟩
end
end Go.SL
namespace Go.SL
def ak.cL(l H:List HP):ak (Sep l::H) (l++H):=fun h hs=>⟨h,sub.refl h,gF hs⟩
def ak.bT(l H:List HP):ak (l++H) (Sep l::H):=fun h hs=>⟨h,sub.refl h,kU hs⟩
abbrev eG:=List (Nat × List Value)
def a6(e:TypeId)(M:eG):HP:=Sep (M.map fun x=>ag x.1 (cl x.2 e))
def jx(M:eG)(v:Value)(bs:List UInt8):Prop :=
 ∃a cap,v = .slice a bs.length cap∧bs.length≤cap∧(bs=[]∨∃b o cs,a=Option.some ⟨b,o,none⟩∧(b,cs)∈M∧(cs.drop o).take bs.length=bV bs)
def jx.mono{M M':eG}{v:Value}{bs:List UInt8}(h:jx M v bs)(hs:∀x∈M,x∈M'):jx M' v bs:=by
 obtain⟨a,cap,hv,hc,h0|⟨b,o,cs,ha,hm,ht⟩⟩:=h
 ·exact⟨a,cap,hv,hc,.inl h0⟩
 ·exact⟨a,cap,hv,hc,.inr ⟨b,o,cs,ha,hs _ hm,ht⟩⟩
theorem jx.nil(M:eG)(a:Option Addr)(cap:Nat):jx M (.slice a 0 cap) []:=⟨a,cap,rfl,Nat.zero_le _,.inl rfl⟩
def AQ{l:List HP}{A:HP}{h:Hp}(hA:A∈l)(hs:Sep l h):∃h',sub h' h∧A h':=by
 obtain⟨i,hi⟩:=List.getElem?_of_mem hA
 exact ji (oV (cJ hi) h hs)
theorem jx.view{M:eG}{v:Value}{bs:List UInt8}(h:jx M v bs)(e:TypeId):Vw (a6 e M) v bs.length (bV bs):=by
 obtain⟨a,cap,rfl,_,h0|⟨b,o,cs,ha,hm,ht⟩⟩:=h
 ·subst h0;exact⟨a,cap,rfl,.inl rfl⟩
 ·have h1:Vw (ag b (cl cs e)) (.slice a bs.length cap) bs.length (bV bs):=by
   grind [Vw.ag,bK]
  refine h1.mono fun h hs=>?_
  exact AQ (List.mem_map.2 ⟨(b,cs),hm,rfl⟩) hs
def jx.shape{M:eG}{v:Value}{bs:List UInt8}(h:jx M v bs):∃a cap,v = .slice a bs.length cap∧bs.length≤cap:=by
 obtain⟨a,cap,hv,hc,_⟩:=h;exact⟨a,cap,hv,hc⟩
def wX(e:TypeId)(b:Nat)(cs:List Value)(M:eG)(H:List HP):ak (ag b (cl cs e)::a6 e M::H) (a6 e ((b,cs)::M)::H) :=
 ak.fold (B:=[_,_]) fun h hs=>⟨h,sub.refl h,dG (fun _ h=>h) (fun _ h=>cT h) hs⟩
def jx.row{M:eG}{b cap:Nat}{bs:List UInt8}(hc:bs.length≤cap):jx ((b,bV bs)::M) (.slice (Option.some ⟨b,0,none⟩) bs.length cap) bs :=
 ⟨_,cap,rfl,hc,.inr ⟨b,0,bV bs,rfl,by simp,by rw[← bK];simp⟩⟩
theorem Ni(e:TypeId)(v:Value)(bs:List UInt8)(M:eG):∀h,star (aH e 1 v bs.length (bV bs)) (a6 e M) h→∃M',jx M' v bs∧(∀x∈M,x∈M')∧a6 e M' h:=by
 rintro h⟨h1,h2,⟨hl,⟨a,rfl,hn,he⟩|⟨b,o,cap,pre,junk,rfl,hp,hn,hc,vW⟩⟩,hM,hd,hj⟩
 ·have hb:bs=[]:=List.eq_nil_of_length_eq_zero hn
  subst hb
  exact⟨M,jx.nil M a 0,fun _ h=>h,wD ⟨h1,h2,he,hM,hd,hj⟩⟩
 ·refine⟨(b,pre++bV bs++junk)::M,⟨_,cap,rfl,hn,.inr ⟨b,o,pre++bV bs++junk,rfl,by simp,?_⟩⟩,fun x hx=>by simp[hx],⟨h1,h2,vW,hM,hd,hj⟩⟩
  grind
theorem jx.tail{M:eG}{b o n cap:Nat}{x:UInt8}{bs:List UInt8}(h:jx M (.slice (Option.some ⟨b,o,none⟩) n cap) (x::bs))(o' fX:Nat)(h1:bs≠[]→o'=o+1)(hc':bs.length≤fX):jx M (.slice (Option.some ⟨b,o',none⟩) bs.length fX) bs:=by
 by_cases h0:bs=[]
 ·grind [jx.nil]
 ·have:=h1 h0
  subst this
  obtain⟨a,qj,hv,_,h2|⟨b',o2,cs,ha,hm,ht⟩⟩:=h
  ·cases h2
  ·simp only[Value.slice.injEq]at hv
   obtain⟨rfl,_,rfl⟩:=hv
   simp only[Option.some.injEq,Addr.mk.injEq,and_true]at ha
   obtain⟨rfl,rfl⟩:=ha
   refine⟨_,fX,rfl,hc',.inr ⟨b,o+1,cs,rfl,hm,?_⟩⟩
   rw[List.length_cons]at ht
   rw[show o+1=1+o by omega,← List.drop_drop]
   have h3:=congrArg (List.drop 1) ht
   rw[List.drop_take]at h3
   simpa[bV,Nat.add_comm]using h3
theorem jx.piece{M:eG}{b o n cap:Nat}{bs:List UInt8}(h:jx M (.slice (Option.some ⟨b,o,none⟩) n cap) bs)(o' fX p k:Nat)(Pd:p+k≤bs.length)(h1:k≠0→o'=o+p)(hc':k≤fX):jx M (.slice (Option.some ⟨b,o',none⟩) k fX) ((bs.drop p).take k):=by
 have hl:((bs.drop p).take k).length=k:=by rw[List.length_take,List.length_drop];omega
 by_cases h0:k=0
 ·grind [jx.nil]
 ·have:=h1 h0
  subst this
  obtain⟨a,qj,hv,_,h2|⟨b',o2,cs,ha,hm,ht⟩⟩:=h
  ·grind
  ·simp only[Value.slice.injEq]at hv
   obtain⟨rfl,_,rfl⟩:=hv
   simp only[Option.some.injEq,Addr.mk.injEq,and_true]at ha
   obtain⟨rfl,rfl⟩:=ha
   refine⟨_,fX,by rw[hl],by rw[hl];exact hc',.inr ⟨b,o+p,cs,rfl,hm,?_⟩⟩
   rw[hl,← List.drop_drop]
   have h3:=congrArg (fun l=>(l.drop p).take k) ht
   simp only[List.drop_take,List.take_take]at h3
   rw[show min k (bs.length-p)=k by omega]at h3
   rw[h3]
   simp only[bV,List.map_drop,List.map_take]
theorem jx.cut{M:eG}{a:Option Addr}{n cap:Nat}{bs:List UInt8}(h:jx M (.slice a n cap) bs)(p k:Nat)(Pd:p+k≤bs.length):jx M (.slice (sliceAt a cap p 1) k (cap-p)) ((bs.drop p).take k):=by
 obtain⟨a',fX,hv,hc,h0⟩:=h
 simp only[Value.slice.injEq]at hv
 obtain⟨rfl,hn,rfl⟩:=hv
 by_cases hk:k=0
 ·grind [jx.nil]
 ·rcases h0 with h0|⟨b,o,cs,rfl,hm,ht⟩
  ·grind
  ·have e:sliceAt (Option.some ⟨b,o,none⟩) cap p 1=Option.some ⟨b,o+p,none⟩:=by
    grind [sliceAt,Addr.add_eq]
   rw[e]
   exact jx.piece (o:=o) (n:=bs.length) (cap:=cap) ⟨_,_,rfl,hc,.inr ⟨b,o,cs,rfl,hm,ht⟩⟩ _ _ p k Pd (fun _=>rfl) aj
def aJ{α:Type}(g:α→HP)(l:List α):HP:=Sep (l.map g)
def dF{α:Type}(g:α→HP){l:List α}{i:Nat}{x:α}(hi:l[i]?=Option.some x)(H:List HP):ak (aJ g l::H) (g x::aJ g (l.eraseIdx i)::H):=fun h hs=>by
 refine⟨h,sub.refl h,jA (dG (fun h hs=>?_) (fun _ h=>h) hs)⟩
 have h1:(l.map g)[i]?=Option.some (g x):=by simp[hi]
 have h2:=oV (cJ h1) h hs
 rw[← lW]at h2
 exact h2
def gp{α:Type}(g:α→HP){l:List α}{i:Nat}{x:α}(hi:l[i]?=Option.some x)(H:List HP):ak (g x::aJ g (l.eraseIdx i)::H) (aJ g l::H):=fun h hs=>by
 refine⟨h,sub.refl h,dG (fun h hs=>?_) (fun _ h=>h) (jj hs)⟩
 have h1:(l.map g)[i]?=Option.some (g x):=by simp[hi]
 refine oV (cJ h1).symm h ?_
 rw[← lW]
 exact hs
theorem ke{α:Type}(g:α→HP){l:List α}{i:Nat}{x y:α}(hi:l[i]?=Option.some x)(H:List HP):ak (g y::aJ g (l.eraseIdx i)::H) (aJ g (l.set i y)::H):=by
 have cB:i<l.length:=by
  grind
 have h1:(l.set i y)[i]?=Option.some y:=by simp[cB]
 have h2:=gp g h1 H
 have h3:(l.set i y).eraseIdx i=l.eraseIdx i:=by
  grind
 rw[h3]at h2
 exact h2
def mi{α:Type}(g:α→HP)(x:α)(l:List α)(H:List HP):ak (g x::aJ g l::H) (aJ g (x::l)::H):=fun h hs=>⟨h,sub.refl h,jj hs⟩
def yw{α:Type}{g:α→HP}{l:List α}{x:α}(hx:x∈l){h:Hp}(hs:aJ g l h):∃h',sub h' h∧g x h':=AQ (List.mem_map.2 ⟨x,hx,rfl⟩) hs
def wW(e:TypeId)(H:List HP):ak H (a6 e []::H):=ak.jO H
def sh{α:Type}(g:α→HP)(H:List HP):ak H (aJ g []::H):=ak.jO H
structure Ab where
 room:Nat
 fs:List (Nat × List UInt8 × List UInt8)
 names:List (ByteArray × Nat)
 aI:List (List (ByteArray × Nat))
 writes:List (Nat × Nat × List UInt8)
 cu:List UInt8
 off:Bool
namespace Ab
def meet(A:Ab)(may:Bool):Nat × Ab :=
 if may=false then(1,A)else if A.off=true then(7,A)else match A.cu with
 | []=>(0,A)
 | x::p=>if x=1 then(6,{ A with cu:=p })else if x=2 then(7,{ A with cu:=p,off:=true })else(0,{ A with cu:=p })
def cK(l:List (ByteArray × Nat))(name:ByteArray):Option Nat:=(l.find? fun x=>decide (x.1=name)).map (·.2)
def look(A:Ab)(name:ByteArray):Option Nat:=cK A.names name
def file(A:Ab)(f:Nat):List UInt8 × List UInt8:=((A.fs.find? fun x=>decide (x.1=f)).map (·.2)).getD ([],[])
def now(A:Ab)(f:Nat):List UInt8:=(A.file f).1
def sure(A:Ab)(f:Nat):List UInt8:=(A.file f).2
def find(A:Ab)(name:ByteArray)(may:Bool):Nat × Option Nat × Ab :=
 if(A.meet may).1=0 then match (A.meet may).2.look name with
  | none=>(4,none,(A.meet may).2)
  | some f=>(0,some f,(A.meet may).2)
 else((A.meet may).1,none,(A.meet may).2)
def used(A:Ab):Nat:=(A.names.map fun x=>(A.now x.2).length).sum
def new(room:Nat):Ab:=⟨room,[],[],[[]],[],[],false⟩
def jl(l:List (ByteArray × Nat))(k:ByteArray)(f:Nat):List (ByteArray × Nat):=if(cK l k).isSome then l.map (fun x=>if x.1=k then(k,f)else x)else l++[(k,f)]
def dZ(l:List (ByteArray × Nat))(k:ByteArray):List (ByteArray × Nat):=l.filter fun x => !decide (x.1=k)
def nU(A:Ab)(nm:List (ByteArray × Nat)):Ab:={ A with names:=nm,aI:=A.aI++[nm] }
def create(A:Ab)(ok:Bool)(name:ByteArray)(f:Nat):Nat × Ab :=
 if(A.meet ok).1=0 then
  if((A.meet ok).2.look name).isSome then(5,(A.meet ok).2)
  else if 200≤(A.meet ok).2.names.length then(3,(A.meet ok).2)
  else(0,{ (A.meet ok).2.nU ((A.meet ok).2.names++[(name,f)])with fs:=(f,[],[])::(A.meet ok).2.fs })
 else((A.meet ok).1,(A.meet ok).2)
def remove(A:Ab)(ok:Bool)(name:ByteArray):Nat × Ab:=match A.find name ok with
 | (0,some _,A1)=>(0,A1.nU (dZ A1.names name))
 | (e,_,A1)=>(e,A1)
def rename(A:Ab)(ok:Bool)(old name:ByteArray):Nat × Ab:=match A.find old ok with
 | (0,some f,A1)=>(0,A1.nU (jl (dZ A1.names old) name f))
 | (e,_,A1)=>(e,A1)
def zI(fs:List (Nat × List UInt8 × List UInt8))(f:Nat)(n:List UInt8):List (Nat × List UInt8 × List UInt8):=fs.map fun x=>if x.1=f then(x.1,n,x.2.2)else x
def write(A:Ab)(ok:Bool)(name:ByteArray)(at_:Nat)(b:List UInt8):Nat × Ab :=
 if(A.find name ok).1=0 then match (A.find name ok).2.1 with
  | some f=>if(A.find name ok).2.2.room<(A.find name ok).2.2.used+(at_+b.length-((A.find name ok).2.2.now f).length)then(3,(A.find name ok).2.2)
   else(0,{ (A.find name ok).2.2 with fs:=zI (A.find name ok).2.2.fs f (cX ((A.find name ok).2.2.now f) at_ b),writes:=(A.find name ok).2.2.writes++[(f,at_,b)] })
  | none=>(0,(A.find name ok).2.2)
 else((A.find name ok).1,(A.find name ok).2.2)
def size(A:Ab)(name:ByteArray):Nat × Nat:=match A.look name with
 | none=>(0,4)
 | some f=>((A.now f).length,0)
def read(A:Ab)(name:ByteArray)(at_ n:Int):List UInt8 × Nat :=
 if A.off=true then([],7)else match A.look name with
  | none=>([],4)
  | some f=>if at_<0∨n<0∨((A.now f).length:Int)<at_∨((A.now f).length:Int)-at_<n then([],1)else(((A.now f).drop at_.toNat).take n.toNat,0)
def cq(A:Ab):Nat × Ab:=if(A.meet true).1=0 then(0,{ (A.meet true).2 with aI:=[(A.meet true).2.names] })else((A.meet true).1,(A.meet true).2)
def me(fs:List (Nat × List UInt8 × List UInt8))(f:Nat):List (Nat × List UInt8 × List UInt8):=fs.map fun x=>if x.1=f then(x.1,x.2.1,x.2.1)else x
def sync(A:Ab)(ok:Bool)(name:ByteArray):Nat × Ab :=
 if(A.find name ok).1=0 then match (A.find name ok).2.1 with
  | some f=>(0,{ (A.find name ok).2.2 with fs:=me (A.find name ok).2.2.fs f,writes:=(A.find name ok).2.2.writes.filter fun x => !decide (x.1=f) })
  | none=>(0,(A.find name ok).2.2)
 else((A.find name ok).1,(A.find name ok).2.2)
def kept(stay:List UInt8)(dS cut:Int)(i:Nat)(b:List UInt8):Option (List UInt8) :=
 if(i:Int)=dS then(let c:=b.take (max 0 (min cut b.length)).toNat;if c=[]then none else some c)
 else if(i/8<stay.length∧((stay.getD (i/8) 0).toNat/2 ^ (i%8))%2=1)then some b else none
def Gs(fs:List (Nat × List UInt8 × List UInt8))(f:Nat)(s:List UInt8):List (Nat × List UInt8 × List UInt8):=fs.map fun x=>if x.1=f then(x.1,x.2.1,s)else x
def kG(stay:List UInt8)(dS cut:Int):Nat→List (Nat × Nat × List UInt8)→List (Nat × List UInt8 × List UInt8)→List (Nat × List UInt8 × List UInt8)
 | _,[],fs=>fs
 | i,w::ws,fs=>match kept stay dS cut i w.2.2 with
  | none=>kG stay dS cut (i+1) ws fs
  | some c=>kG stay dS cut (i+1) ws (Gs fs w.1 (cX (((fs.find? fun x=>decide (x.1=w.1)).map (·.2)).getD ([],[])).2 w.2.1 c))
def reach(k5:List (List (ByteArray × Nat))):List Nat:=k5.flatMap fun st=>st.map (·.2)
def rp(A:Ab)(last:Int)(stay:List UInt8)(dS cut:Int):Ab :=
 let nm:=A.aI.getD (max 0 (min last (A.aI.length-1))).toNat []
 let fs:=kG stay dS cut 0 A.writes A.fs
 { A with names:=nm,aI:=[nm],writes:=[],cu:=[],off:=false,fs:=fs.map fun x=>if x.1∈reach (A.aI++[nm])then(x.1,x.2.2,x.2.2)else x }
end Ab
section
variable{P:Program}{U:Tr}[hU:eO P U]{f:FuncId}{n:Nat}{R:Ending→World→Prop}{G:cg}{k:List Item}{L:eC}{H H':List HP}{S:World→Prop}{all:Array Oper}{rest:Pl}{ty:TypeId}{pos:String}{af:Array Edge}{gd:Option (Nat × Bool)}{m:Bool}{d:Tmp}
theorem uN(z:Value)(q:Nat):(Builtin.zeroCells z.cells q).toList=(List.replicate q (bg z)).flatten:=by
 have jy:z.cells.size=(bg z).length:=by rw[cW];simp
 unfold Builtin.zeroCells
 simp only[Array.toList_map,Array.toList_range,jy]
 rw[cW]
 induction q with
 | zero=>simp
 | succ q ih =>
  rw[List.replicate_succ',List.flatten_append,← ih,Nat.succ_mul,List.range_add,List.map_append]
  congr 1
  simp only[List.map_map,List.flatten_cons,List.flatten_nil,List.append_nil]
  apply List.ext_getElem?
  intro j
  by_cases hj:j<(bg z).length
  ·simp only[List.getElem?_map,List.getElem?_range hj,Option.map_some,Function.comp]
   rw[Nat.mul_comm,Nat.mul_add_mod,Nat.mod_eq_of_lt hj]
   simp[hj]
  grind
theorem BM{t t2 elem rty:TypeId}{bL DT te:Ty}{z:Value}{a0:Option Addr}{kk cap mm:Nat}{q:IntKind}{cs:List Value}{A:HP}{w:World}(i:Nat)(ht:U.get t=some bL)(hu:bL.fe = .slice elem)(h2:U.get t2=some DT)(PD:DT.fe = .int q)(he:U.get elem=some te)(hz:te.info.zero=some z)(G0:(bg z).length=te.info.size)(js:0<te.info.size)(hw:Sat G w H)(hi:bU H i=some A)(hv:Vw A (.slice a0 kk cap) kk cs)(hl:cs.length=kk*te.info.size)(Kx:cap<kk+mm)(CC:0<mm)(Fe:kk+mm≤9223372036854775807)(hmm:mm*te.info.bytes≤140737488355328)(ny:(kk+mm)*te.info.bytes≤140737488355328) :
  (Builtin.append_ #[t,t2] rty #[.slice a0 kk cap,.int .i64 (mm:Int)]).run P w = .ok (.slice (some ⟨w.heap.size,0,none⟩) (kk+mm) (grownCap w (kk+mm) cap elem))
   (w.drew.alloc (cl (cs++(List.replicate mm (bg z)).flatten++(Builtin.zeroCells z.cells (grownCap w (kk+mm) cap elem-(kk+mm))).toList) elem)):=by
 have sD:∀ {w:World},(underlying t2).run P w = .ok DT.fe w:=fun {w}=>run_underlying h2 w
 have hnz:(DT.fe matches .int _)=true:=by rw[PD]
 have MK:¬kk+mm≤cap:=by omega
 have hgs:=growslice_fits (need:=kk+mm) (old:=cap) (bytes:=te.info.bytes) aj ny
 have yZ:=ml (P:=P) (G:=G) (w:=w.drew) hv (hw.draw _) hi hl
 have Fc:¬((9223372036854775807:Int)<(kk:Int)+(mm:Int)):=by omega
 have aat:¬281474976710656<Builtin.nextslicecap (kk+mm) cap*te.info.bytes:=by omega
 have Bj:IntKind.i64.wrap (mm:Int)=mm:=cz (by simp only[fZ];omega)
 have ae5:¬((mm:Int)<0):=by omega
 have pR:¬((281474976710656:Int)<(mm:Int)*(te.info.bytes:Int)):=by
  grind
 have gf:¬(mm*te.info.size=0):=Nat.ne_of_gt (Nat.mul_pos CC js)
 have hzc:=uN z mm
 simp[Builtin.append_,run_underlying ht,hu,run_sizeOf he,sD,hnz,asInt,asIntOf,Bj,ae5,pR,MK,Fc,aat,Question.forced,run_typeInfo he,cY he hz,newRow,yZ,grownCap,cl,gf,PD]
 congr 2
 apply Array.ext'
 simp[hzc]
theorem Kb{x y:Operand}{t t2 elem:TypeId}{bL DT te:Ty}{z:Value}{a0:Option Addr}{kk cap mm:Nat}{q:IntKind}{cs:List Value}{A:HP}(i:Nat)(hd:Nat.blt d n=true)(hx:ev L x=some (.slice a0 kk cap))(hy:ev L y=some (.int .i64 (mm:Int)))(ht:U.get t=some bL)(hu:bL.fe = .slice elem)(h2:U.get t2=some DT)(PD:DT.fe = .int q)(he:U.get elem=some te)(hz:te.info.zero=some z)(G0:Nat.beq (bg z).length te.info.size=true)(js:Nat.blt 0 te.info.size=true)(hi:bU H i=some A)(hv:Vw A (.slice a0 kk cap) kk cs)(hl:cs.length=kk*te.info.size)(Kx:cap<kk+mm)(CC:0<mm)(Fe:kk+mm≤9223372036854775807)(hmm:mm*te.info.bytes≤140737488355328)(ny:(kk+mm)*te.info.bytes≤140737488355328)(hS:∀v' w,Sat G w (aH elem te.info.size v' (kk+mm) (cs++(List.replicate mm (bg z)).flatten)::H)→Sx rest S w)(h:∀v',J P f n R G S all rest k ((d,v')::L) (aH elem te.info.size v' (kk+mm) (cs++(List.replicate mm (bg z)).flatten)::H)) :
  J P f n R G S all (.cons false true ⟨some d,.call { callee := .builtin .append,args := #[x,y],argTypes := #[t,t2] },ty,pos,af,gd⟩ rest) k L H:=by
 refine lO hd (fun u H1=>H1=aH elem te.info.size u (kk+mm) (cs++(List.replicate mm (bg z)).flatten)::H) (fun a w ha hw=>?_) ?_ ?_
 ·have hr:=BM (P:=P) (rty:=ty) i ht hu h2 PD he hz (Nat.eq_of_beq_eq_true G0) (by simpa[Nat.blt_eq]using js) hw hi hv hl Kx CC Fe hmm ny
  refine⟨.slice (some ⟨w.heap.size,0,none⟩) (kk+mm) (grownCap w (kk+mm) cap elem),w.drew.alloc (cl (cs++(List.replicate mm (bg z)).flatten++(Builtin.zeroCells z.cells (grownCap w (kk+mm) cap elem-(kk+mm))).toList) elem),_,?_,rfl,?_⟩
  ·simp[execOp,resolve,invoke,builtin,ha.ev hx,ha.ev hy,hr]
  ·have h5:=Sat.alloc (w:=w.drew) (hw.draw _) (cl (cs++(List.replicate mm (bg z)).flatten++(Builtin.zeroCells z.cells (grownCap w (kk+mm) cap elem-(kk+mm))).toList) elem)
   refine h5.cp (ak.fold (B:=[_]) fun h hs=>⟨h,sub.refl h,?_⟩)
   have eN:=grownCap_ge w (kk+mm) cap elem
   have hzl:(List.replicate mm (bg z)).flatten.length=mm*te.info.size:=by rw[iU,Nat.eq_of_beq_eq_true G0]
   refine⟨by simp only[List.length_append,hl,hzl,Nat.add_mul],.inr ⟨w.heap.size,0,_,[],_,rfl,rfl,eN,?_,by simpa using cT hs⟩⟩
   have h7:(Builtin.zeroCells z.cells (grownCap w (kk+mm) cap elem-(kk+mm))).size=(grownCap w (kk+mm) cap elem-(kk+mm))*te.info.size:=by rw[size_zeroCells,cW];simp[Nat.eq_of_beq_eq_true G0]
   rw[List.length_append,hl,hzl,Array.length_toList,h7,← Nat.add_mul,← Nat.add_mul]
   grind
 ·grind
 grind
def Ra{x:Operand}{t:TypeId}{bL:Ty}{e:TypeId}{a0:Option Addr}{len cap:Nat}(hd:Nat.blt d n=true)(hx:ev L x=some (.slice a0 len cap))(ht:U.get t=some bL)(hu:bL.fe = .slice e)(h:J P f n R G S all rest k ((d,.int .i64 (cap:Int))::L) H):J P f n R G S all (.cons m true ⟨some d,.call { callee := .builtin .cap,args := #[x],argTypes := #[t] },ty,pos,af,gd⟩ rest) k L H:=by
 refine cR hd (fun a ha w=>?_) h
 simp[execOp,resolve,invoke,builtin,ha.ev hx,Builtin.cap_,run_underlying ht,hu,goInt]
end
end Go.SL
namespace Go.SL
theorem Vw.front{A:HP}{b o n cap:Nat}{cs:List Value}(h:Vw A (.slice (Option.some ⟨b,o,none⟩) n cap) n cs)(i fX q:Nat):Vw A (.slice (Option.some ⟨b,o,none⟩) i fX) i (cs.take q):=by
 obtain⟨a,qj,hv,h0|⟨b',o',ha,hc⟩⟩:=h
 ·subst h0;exact⟨_,fX,rfl,.inl (by simp)⟩
 ·simp only[Value.slice.injEq,true_and]at hv
  obtain⟨rfl,_⟩:=hv
  simp only[Option.some.injEq,Addr.mk.injEq,and_true]at ha
  obtain⟨rfl,rfl⟩:=ha
  refine⟨_,fX,rfl,.inr ⟨b,o,rfl,fun h hA j c hj=>?_⟩⟩
  grind
theorem Vw.back{A:HP}{b o n cap:Nat}{cs:List Value}(h:Vw A (.slice (Option.some ⟨b,o,none⟩) n cap) n cs)(i fX q:Nat):Vw A (.slice (Option.some ⟨b,o+q,none⟩) i fX) i (cs.drop q):=by
 obtain⟨a,qj,hv,h0|⟨b',o',ha,hc⟩⟩:=h
 ·subst h0;exact⟨_,fX,rfl,.inl (by simp)⟩
 ·simp only[Value.slice.injEq,true_and]at hv
  obtain⟨rfl,_⟩:=hv
  simp only[Option.some.injEq,Addr.mk.injEq,and_true]at ha
  obtain⟨rfl,rfl⟩:=ha
  refine⟨_,fX,rfl,.inr ⟨b,o+q,rfl,fun h hA j c hj=>?_⟩⟩
  grind
theorem qI(b o cap p sz:Nat)(h:p≠cap):sliceAt (some ⟨b,o,none⟩) cap p sz=some ⟨b,o+p*sz,none⟩:=by
 grind [sliceAt,Addr.add_eq]
section
variable{P:Program}{U:Tr}[hU:eO P U]{f:FuncId}{n:Nat}{R:Ending→World→Prop}{G:cg}{k:List Item}{L:eC}{H H':List HP}{S:World→Prop}{all:Array Oper}{rest:Pl}{ty:TypeId}{pos:String}{af:Array Edge}{gd:Option (Nat × Bool)}{m:Bool}{d:Tmp}
def jP{e:TypeId}{sz nn:Nat}{v:Value}{cs:List Value}(i:Nat)(hi:bU H i=some (aH e sz v nn cs))(h0:0<nn)(h:∀b o c,v = .slice (some ⟨b,o,none⟩) nn c→nn≤c→cs.length=nn*sz→Vw (aH e sz v nn cs) v nn cs→K P f n R G k L H):K P f n R G k L H :=
 oZ fun⟨w,hw⟩=>by
  obtain⟨h1,_,hA⟩:=hw.jM hi
  have hv:=Vw.lV e sz v nn cs ⟨h1,hA⟩
  obtain⟨hl,⟨a,rfl,rfl,_⟩|⟨b,o,cap,pre,junk,rfl,_,hc,_⟩⟩:=hA
  ·omega
  ·exact h _ _ _ rfl hc hl hv
def H8{e:TypeId}{b o c nn sz:Nat}{cs:List Value}(h0:0<nn):∀h,aH e sz (.slice (some ⟨b,o,none⟩) nn c) nn cs h→∃x:List Value × List Value,(x.1.length=o∧nn≤c∧c*sz≤cs.length+x.2.length∧cs.length=nn*sz)∧Sep [ag b (cl (x.1++cs++x.2) e)] h:=by
 rintro h⟨hl,⟨a,hv,rfl,he⟩|⟨b',o',cap,pre,junk,hv,hp,hn,hc,vW⟩⟩
 ·omega
 ·simp only[Value.slice.injEq,Option.some.injEq,Addr.mk.injEq,and_true,true_and]at hv
  obtain⟨⟨rfl,rfl⟩,rfl⟩:=hv
  exact⟨(pre,junk),⟨hp,hn,hc,hl⟩,di vW⟩
theorem gK(b o cap sz:Nat):sliceAt (some ⟨b,o,none⟩) cap 0 sz=some ⟨b,o,none⟩:=by
 grind [sliceAt,Addr.add_eq]
theorem HH{x y:Operand}{t t2 elem:TypeId}{bL te:Ty}{v2:Value}{b o dl dc mm:Nat}{l src l':List Value}{e:TypeId}{A:HP}(i j:Nat)(hd:Nat.blt d n=true)(hx:ev L x=some (.slice (some ⟨b,o,none⟩) dl dc))(hy:ev L y=some v2)(ht:U.get t=some bL)(hu:bL.fe = .slice elem)(he:U.get elem=some te)(hi:bU H i=some (ag b (cl l e)))(hj:bU H j=some A)(qX:Vw A v2 mm src)(qZ:src.length=mm*te.info.size)(gA:∀u∈src.take (min mm dl*te.info.size),u.oneCell'=true)(CI:o+(min mm dl)*te.info.size≤l.length)(MB:l'=l.take o++src.take (min mm dl*te.info.size)++l.drop (o+min mm dl*te.info.size))(hp:jI i (ag b (cl l' e)) H [] = .mk H')(hS:∀w,Sat G w H'→Sx rest S w)(h:J P f n R G S all rest k ((d,.int .i64 (min mm dl:Nat))::L) H') :
  J P f n R G S all (.cons false true ⟨some d,.call { callee := .builtin .copy,args := #[x,y],argTypes := #[t,t2] },ty,pos,af,gd⟩ rest) k L H:=by
 refine lO hd (fun u H1=>u = .int .i64 (min mm dl:Nat)∧H1=H') (fun a w ha hw=>?_) ?_ ?_
 ·have hf:=ve (P:=P) (q:=min mm dl) qX hw hj qZ (Nat.min_le_left _ _)
  obtain⟨a2,c2,hv',_⟩:=qX
  subst hv'
  have h3:(src.take (min mm dl*te.info.size)).length=min mm dl*te.info.size:=by rw[List.length_take,qZ];exact Nat.min_eq_left (Nat.mul_le_mul_right _ (Nat.min_le_left _ _))
  have dE:=fm (P:=P) (src.take (min mm dl*te.info.size)) 0 o l w (hw.rf hi) (by rw[h3];simpa using CI) gA
  simp only[Nat.add_zero,h3,← MB]at dE
  refine⟨_,_,H',?_,⟨rfl,rfl⟩,hw.put hi hp⟩
  simp only[execOp,resolve,invoke,builtin,Sem.run_bind,Sem.run_pure,Result.andThen_ok,List.map_toArray,List.map_cons,List.map_nil,ha.ev hx,ha.ev hy,Builtin.copy_,List.getElem?_toArray,List.getElem?_cons_zero,List.getElem?_cons_succ,
   run_underlying ht,hu,Builtin.lenOf,run_sizeOf he]
  rw[show Nat.min mm dl=min mm dl from rfl]
  simp only[hf,Result.andThen_ok,dE,goInt]
 ·grind
 grind
end
end Go.SL
namespace Go.SL
def Qd{P:Program}{f:FuncId}{n:Nat}{R:Ending→World→Prop}{G:cg}{k:List Item}{L:eC}{H:List HP}{e:TypeId}{sz nn c:Nat}{a:Option Addr}{cs:List Value}(i:Nat)(hi:bU H i=some (aH e sz (.slice a nn c) nn cs))(h:nn≤c→cs.length=nn*sz→Vw (aH e sz (.slice a nn c) nn cs) (.slice a nn c) nn cs→K P f n R G k L H):K P f n R G k L H :=
 oZ fun⟨w,hw⟩=>by
  obtain⟨h1,_,hA⟩:=hw.jM hi
  have hv:=Vw.lV e sz _ nn cs ⟨h1,hA⟩
  obtain⟨hl,⟨a,k6,rfl,_⟩|⟨b,o,cap,pre,junk,k6,_,hc,_⟩⟩:=hA
  ·simp only[Value.slice.injEq]at k6;exact h aj hl hv
  ·simp only[Value.slice.injEq]at k6;exact h aj hl hv
def Vw.adT{A:HP}{a:Option Addr}{n cap s:Nat}{cs:List Value}(h:Vw A (.slice a n cap) n cs)(k:Nat):Vw A (.slice (sliceAt a cap 0 s) k cap) k (cs.take (k*s)):=by
 have h':=h
 obtain⟨a',qj,hv,h0|⟨b',o',ha,hc⟩⟩:=h
 ·subst h0;exact⟨_,cap,rfl,.inl (by simp)⟩
 ·simp only[Value.slice.injEq,true_and]at hv
  obtain⟨rfl,_⟩:=hv
  subst ha
  rw[gK]
  exact h'.front k cap (k*s)
def Vw.JA{A:HP}{a:Option Addr}{n cap s:Nat}{cs:List Value}(h:Vw A (.slice a n cap) n cs)(hl:cs.length=n*s)(hn:n≤cap)(k:Nat)(hk:k≤n):Vw A (.slice (sliceAt a cap k s) (n-k) (cap-k)) (n-k) (cs.drop (k*s)):=by
 have h':=h
 obtain⟨a',qj,hv,h0|⟨b',o',ha,hc⟩⟩:=h
 ·subst h0;exact⟨_,_,rfl,.inl (by simp)⟩
 ·simp only[Value.slice.injEq,true_and]at hv
  obtain⟨rfl,_⟩:=hv
  subst ha
  by_cases MD:k=cap
  ·have:cs.drop (k*s)=[]:=List.eq_nil_of_length_eq_zero (by rw[List.length_drop,hl,MD,show n=cap from by omega];omega)
   rw[this];exact⟨_,_,rfl,.inl rfl⟩
  ·rw[qI _ _ _ _ _ MD]
   exact h'.back (n-k) (cap-k) (k*s)
section
variable{P:Program}{U:Tr}[hU:eO P U]{f:FuncId}{n:Nat}{R:Ending→World→Prop}{G:cg}{k:List Item}{L:eC}{H H':List HP}{S:World→Prop}{all:Array Oper}{rest:Pl}{ty:TypeId}{pos:String}{af:Array Edge}{gd:Option (Nat × Bool)}{m:Bool}{d:Tmp}
theorem o5{t:TypeId}{x y:Operand}{b o q off c nn sz:Nat}{bL:Ty}{u:Value}{e:TypeId}{cs:List Value}(i:Nat)(hS:∀w,Sat G w H'→Sx rest S w)(hx:ev L x=some (.pointer (some ⟨b,off,none⟩)))(iS:off=o+q)(hy:ev L y=some u)(ht:U.get t=some bL)(js:Nat.beq bL.info.size 1=true)(hc:bg u=[u])(gA:gU [u]=true)(hi:bU H i=some (aH e sz (.slice (some ⟨b,o,none⟩) nn c) nn cs))(h0:0<nn)(hq:q<nn*sz)(hp:jI i (aH e sz (.slice (some ⟨b,o,none⟩) nn c) nn (cs.set q u)) H [] = .mk H')(h:J P f n R G S all rest k L H'):J P f n R G S all (.cons false true ⟨none,.store t x y,ty,pos,af,gd⟩ rest) k L H:=by
 subst iS
 refine aR (ak.perm (cJ (by rw[← de];exact hi))) ?_
 refine Ga (B:=fun x:List Value × List Value=>[ag b (cl (x.1++cs++x.2) e)]) (fun h hs=>H8 h0 h hs) ?_
 rintro⟨pre,junk⟩⟨h1,h2,h3,h4⟩
 simp only at h1 h2 h3 h4
 have jL:(pre++cs++junk).set (o+q) u=pre++cs.set q u++junk:=by
  grind
 have hE:ak (ag b (cl (pre++cs.set q u++junk) e)::H.eraseIdx i) H':=by
  have h5:=nf i _ _ H [] H' hp hi
  exact(fQ h1 h2 (by rw[List.length_set];exact h3) (by rw[List.length_set];exact h4) _).trans (ak.perm (by simpa using h5.symm))
 refine dX (U:=U) (l':=pre++cs.set q u++junk) 0 (fun w hw=>hS w (hw.cp hE)) hx hy ht (by rw[hc,Nat.eq_of_beq_eq_true js];rfl) (by rw[hc];rfl) (by rw[hc];exact gA) rfl ?_ rfl (aR hE h)
 grind [GF]
end
end Go.SL
