import Derived.Test.YthnfckodljbgbaaGreatDoorQPL2
import Derived.Lib.MakeNoZero
import Derived.RangeFuncRecord
import Derived.RangeFuncIn
import GoSem.Extern.SlicesOverlaps
import Derived.Test.YthnfckodljbgbaaGreatDoorProg
set_option linter.defProp false
set_option linter.unusedSimpArgs false
set_option linter.unusedVariables false
set_option linter.defProp false
namespace Go.SL
open Go
namespace Sha
def vH(x:jR)(n:Nat):jR:=x <<< (32-n) ||| x >>> n
theorem S0(x:jR)(n:Nat)(h1:1≤n)(h2:n≤31):x >>> n ^^^ x <<< (32-n)=vH x n:=by
 grind [vH]
def ks:List jR:=[
 0x428a2f98,0x71374491,0xb5c0fbcf,0xe9b5dba5,0x3956c25b,0x59f111f1,0x923f82a4,0xab1c5ed5,
 0xd807aa98,0x12835b01,0x243185be,0x550c7dc3,0x72be5d74,0x80deb1fe,0x9bdc06a7,0xc19bf174,
 0xe49b69c1,0xefbe4786,0x0fc19dc6,0x240ca1cc,0x2de92c6f,0x4a7484aa,0x5cb0a9dc,0x76f988da,
 0x983e5152,0xa831c66d,0xb00327c8,0xbf597fc7,0xc6e00bf3,0xd5a79147,0x06ca6351,0x14292967,
 0x27b70a85,0x2e1b2138,0x4d2c6dfc,0x53380d13,0x650a7354,0x766a0abb,0x81c2c92e,0x92722c85,
 0xa2bfe8a1,0xa81a664b,0xc24b8b70,0xc76c51a3,0xd192e819,0xd6990624,0xf40e3585,0x106aa070,
 0x19a4c116,0x1e376c08,0x2748774c,0x34b0bcb5,0x391c0cb3,0x4ed8aa4a,0x5b9cca4f,0x682e6ff3,
 0x748f82ee,0x78a5636f,0x84c87814,0x8cc70208,0x90befffa,0xa4506ceb,0xbef9a3f7,0xc67178f2]
def s0(x:jR):jR:=vH x 7 ^^^ vH x 18 ^^^ x >>> 3
def s1(x:jR):jR:=vH x 17 ^^^ vH x 19 ^^^ x >>> 10
def b0(x:jR):jR:=vH x 2 ^^^ vH x 13 ^^^ vH x 22
def b1(x:jR):jR:=vH x 6 ^^^ vH x 11 ^^^ vH x 25
def ch(e f g:jR):jR:=g ^^^ e &&& (f ^^^ g)
def maj(a b c:jR):jR:=a &&& b ||| c &&& (a ||| b)
theorem aam(e f g:jR):e &&& f ||| ~~~e &&& g=ch e f g:=by
 grind [ch]
theorem Tp(a b c:jR):a &&& b ||| a &&& c ||| b &&& c=maj a b c:=by
 grind [maj]
def word(b:List UInt8)(t:Nat):jR:=wB (b.getD (4*t) 0) <<< 24 ||| wB (b.getD (4*t+1) 0) <<< 16 ||| wB (b.getD (4*t+2) 0) <<< 8 ||| wB (b.getD (4*t+3) 0)
def sched(b:List UInt8):Nat→List jR
 | 0=>[]
 | t+1 =>
  let w:=sched b t
  if t<16 then w++[word b t]else w++[w.getD (t-16) 0+w.getD (t-7) 0+s1 (w.getD (t-2) 0)+s0 (w.getD (t-15) 0)]
theorem eG(b:List UInt8)(t:Nat):(sched b t).length=t:=by
 induction t with
 | zero=>rfl
 | succ t ih=>simp only[sched];split <;> simp[ih]
theorem Ma(b:List UInt8){t u:Nat}(h:t≤u)(i:Nat)(hi:i<t):(sched b u)[i]?=(sched b t)[i]? := by
 induction u with
 | zero=>omega
 | succ u ih =>
  grind [sched,eG]
structure St where
 a:jR
 b:jR
 c:jR
 d:jR
 e:jR
 f:jR
 g:jR
 h:jR
def round(s:St)(k w:jR):St :=
 let x:=s.h+b1 s.e+ch s.e s.f s.g+k+w
 let y:=b0 s.a+maj s.a s.b s.c
 ⟨x+y,s.a,s.b,s.c,s.d+x,s.e,s.f,s.g⟩
def rounds(s:St)(w:List jR):Nat→St
 | 0=>s
 | t+1=>round (rounds s w t) (ks.getD t 0) (w.getD t 0)
def plus(s t:St):St:=⟨s.a+t.a,s.b+t.b,s.c+t.c,s.d+t.d,s.e+t.e,s.f+t.f,s.g+t.g,s.h+t.h⟩
def chunk(s:St)(b:List UInt8):St:=plus s (rounds s (sched b 64) 64)
def start:St:=⟨0x6a09e667,0xbb67ae85,0x3c6ef372,0xa54ff53a,0x510e527f,0x9b05688c,0x1f83d9ab,0x5be0cd19⟩
def chunks(s:St)(b:List UInt8):Nat→St
 | 0=>s
 | n+1=>chunk (chunks s b n) (b.drop (64*n))
def St.l(s:St):List jR:=[s.a,s.b,s.c,s.d,s.e,s.f,s.g,s.h]
def pO(n:Nat):List UInt8:=(List.range 8).map fun i=>UInt8.ofNat (n/2 ^ (56-8*i))
def pad(n:Nat):List UInt8:=128::List.replicate ((119-n%64)%64) 0++pO (8*n)
def out(s:St):List UInt8:=(List.range 32).map fun i=>UInt8.ofNat ((s.l.getD (i/4) 0) >>> (24-8*(i%4))).toNat
def Dt(s:St):(out s).length=32:=by simp[out]
def msg(b:List UInt8):List UInt8:=b++pad b.length
end Sha
def dW(b:List UInt8):Dg:=⟨Sha.out (Sha.chunks Sha.start (Sha.msg b) ((Sha.msg b).length/64)),Sha.Dt _⟩
def mw(n:Nat):List UInt8:=(List.range 8).map fun i=>UInt8.ofNat (n/2 ^ (8*i))
def dm(tag:UInt8)(ps:List (List UInt8)):List UInt8:=tag::ps.flatMap fun p=>mw p.length++p
def cy(tag:UInt8)(ps:List (List UInt8)):Dg:=dW (dm tag ps)
namespace Sha
def part(b:List UInt8)(t:Nat):Nat→jR
 | 0=>0
 | j+1=>part b t j ||| wB (b.getD (4*t+j) 0) <<< (24-8*j)
def ab8(b:List UInt8)(t:Nat):part b t 4=word b t:=by
 simp[part,word]
def nL(b:List UInt8)(i:Nat):List jR:=(List.range 64).map fun t=>part b t (min 4 (i-4*t))
theorem mA(b:List UInt8)(i:Nat):(nL b i).length=64:=by simp[nL]
theorem mB(b:List UInt8)(i t:Nat)(ht:t<64):(nL b i)[t]?=some (part b t (min 4 (i-4*t))):=by
 simp[nL,ht]
theorem Jz(b:List UInt8):nL b 0=List.replicate 64 0:=by
 apply List.ext_getElem?
 grind [mB,part,mA]
theorem JA(b:List UInt8)(i:Nat)(hi:i<64):(nL b i).set (i/4) (part b (i/4) (i%4) ||| wB (b.getD i 0) <<< (24-8*(i%4)))=nL b (i+1):=by
 apply List.ext_getElem?
 intro t
 rw[List.getElem?_set,mA]
 rcases Nat.lt_or_ge t 64 with h|h
 ·rw[mB b i t h,mB b (i+1) t h]
  by_cases ht:i/4=t
  ·subst ht
   rw[if_pos rfl,if_pos h]
   have e1:min 4 (i+1-4*(i/4))=i%4+1:=by omega
   grind [part]
  grind
 grind [mA,nL]
theorem Iw(b:List UInt8)(t u:Nat)(h:t<u)(hu:t<16):(sched b u)[t]?=some (word b t):=by
 rw[Ma b (t:=t+1) ag t ag]
 grind [sched,eG]
theorem Nw(b:List UInt8):nL b 64=sched b 16++List.replicate 48 0:=by
 apply List.ext_getElem?
 intro t
 rcases Nat.lt_or_ge t 16 with h|h
 ·rw[mB b 64 t ag,List.getElem?_append_left (by rw[eG];exact h),Iw b t 16 h h,show min 4 (64-4*t)=4 from by omega,ab8]
 ·rw[List.getElem?_append_right (by rw[eG];exact h),eG]
  rcases Nat.lt_or_ge t 64 with h2|h2
  ·rw[mB b 64 t h2,List.getElem?_replicate,if_pos ag,show min 4 (64-4*t)=0 from by omega];rfl
  grind [mA]
def eX(b:List UInt8)(t:Nat):List jR:=sched b t++List.replicate (64-t) 0
def sU(b:List UInt8)(t:Nat)(h:t≤64):(eX b t).length=64:=by simp[eX,eG];omega
theorem iO(b:List UInt8)(t i:Nat)(h:i<t):(eX b t)[i]?=some ((sched b t).getD i 0):=by
 grind [eX,eG]
theorem xr(b:List UInt8)(t:Nat)(h1:16≤t)(h2:t<64):(eX b t).set t ((sched b t).getD (t-16) 0+(sched b t).getD (t-7) 0+s1 ((sched b t).getD (t-2) 0)+s0 ((sched b t).getD (t-15) 0))=eX b (t+1):=by
 unfold eX
 rw[List.set_append_right _ _ (by rw[eG];exact Nat.le_refl _),eG,Nat.sub_self,show 64-t=(64-(t+1))+1 from by omega,List.replicate_succ,List.set_cons_zero]
 grind [sched]
def zb(b:List UInt8):eX b 64=sched b 64:=by simp[eX]
end Sha
namespace Sha
theorem E8{b b':List UInt8}(h:∀i,i<64→b.getD i 0=b'.getD i 0)(t:Nat):sched b t=sched b' t:=by
 induction t with
 | zero=>rfl
 | succ t ih =>
  grind [sched,word]
theorem CB(s:St)(b r:List UInt8)(h:64≤b.length):chunk s (b++r)=chunk s b:=by
 grind [chunk,E8]
theorem Ap(s:St)(b r:List UInt8):∀q,64*q≤b.length→chunks s (b++r) q=chunks s b q
 | 0,_=>rfl
 | q+1,h=>by
  simp only[chunks]
  rw[Ap s b r q ag,List.drop_append_of_le_length ag,CB _ _ _ (by rw[List.length_drop];omega)]
theorem Aq(s:St)(b:List UInt8)(p:Nat):∀q,chunks s b (p+q)=chunks (chunks s b p) (b.drop (64*p)) q
 | 0=>rfl
 | q+1=>by
  rw[← Nat.add_assoc]
  simp only[chunks]
  rw[Aq s b p q,List.drop_drop,show 64*p+64*q=64*(p+q)from by omega]
theorem L6(b:List UInt8):chunks start (msg b) ((msg b).length/64)=chunks (chunks start b (b.length/64)) (b.drop (64*(b.length/64))++pad b.length) ((b.drop (64*(b.length/64))++pad b.length).length/64):=by
 have h1:64*(b.length/64)≤b.length:=by omega
 have hl:(msg b).length/64=b.length/64+(b.drop (64*(b.length/64))++pad b.length).length/64:=by
  grind [msg]
 grind [Aq,msg,Ap]
end Sha
end Go.SL
namespace Go.SL
def Kt(b:List UInt8):(dW b).bs=Sha.out (Sha.chunks Sha.start (Sha.msg b) ((Sha.msg b).length/64)):=rfl
theorem FD{l:List UInt8}{i n:Nat}{x:UInt8}(hl:l.length=n)(h:l[i]?=some x):(bV (l.take i++List.replicate (n-i) (0:UInt8))).set i (u8 x)=bV (l.take (i+1)++List.replicate (n-(i+1)) (0:UInt8)):=by
 have hi:i<n:=by
  grind
 have e1:(l.take i).length=i:=by rw[List.length_take];omega
 show((l.take i++List.replicate (n-i) (0:UInt8)).map u8).set i (u8 x)=_
 rw[← List.map_set,List.set_append_right _ _ ag,e1,Nat.sub_self,show n-i=(n-(i+1))+1 from by omega,List.replicate_succ,List.set_cons_zero,List.take_add_one,h]
 simp[bV]
def gU(l:List UInt8):iV (bV l)=true:=by
 induction l with
 | nil=>rfl
 | cons x l ih =>
  show(Value.oneCell' (u8 x) && iV (bV l))=true
  rw[ih];rfl
theorem ofInt64(x:Int):(BitVec.ofInt IntKind.i64.bits x).toNat=(x%18446744073709551616).toNat:=by
 rw[BitVec.toNat_ofInt];rfl
theorem vg(x:Int):IntKind.i64.wrap ((BitVec.ofInt IntKind.i64.bits x &&& BitVec.ofInt IntKind.i64.bits 1).toNat:Int)=x%2:=by
 grind [ofInt64,cV,gy]
def ly:Nat→Nat→Pt→Pt
 | _,0,p=>p
 | i,n+1,p => .st i (ly (i+1) n p)
def mg(n:Nat):Value.int .u8 (IntKind.u8.wrap (n:Int))=u8 (UInt8.ofNat n):=by
 have h:IntKind.u8.wrap (n:Int)=(n:Int)%256:=by simp[IntKind.wrap,IntKind.bits,IntKind.signed]
 rw[h]
 simp only[u8,UInt8.toNat_ofNat']
 congr 1
theorem py{a c k:Nat}(ha:a<2 ^ k):a ||| c*2 ^ k=a+c*2 ^ k:=by
 have:=Nat.shiftLeft_add_eq_or_of_lt ha c
 rw[Nat.shiftLeft_eq]at this
 grind
theorem yo{a:Nat}(h:a<18446744073709551616):(BitVec.ofInt IntKind.i64.bits (a:Int)).toNat=a:=by
 rw[ofInt64];omega
def uz{a:Nat}(h:a<18446744073709551616):(BitVec.ofInt IntKind.u64.bits (a:Int)).toNat=a:=by
 rw[BitVec.toNat_ofInt]
 show((a:Int)%18446744073709551616).toNat=a
 omega
theorem ym{a:Nat}(h:a<256):(BitVec.ofInt IntKind.u8.bits (a:Int)).toNat=a:=by
 rw[BitVec.toNat_ofInt]
 show((a:Int)%256).toNat=a
 omega
theorem IQ{a c k:Nat}(ha:a<2 ^ k)(h:a+c*2 ^ k<9223372036854775808) :
  IntKind.i64.wrap ((BitVec.ofInt IntKind.i64.bits (a:Int) ||| BitVec.ofInt IntKind.i64.bits ((c*2 ^ k:Nat):Int)).toNat:Int)=((a+c*2 ^ k:Nat):Int):=by
 rw[BitVec.toNat_or,yo ag,yo ag,py ha]
 grind [cV,gy]
theorem Y7{a c k:Nat}(ha:a<2 ^ k)(h:a+c*2 ^ k<18446744073709551616) :
  IntKind.u64.wrap ((BitVec.ofInt IntKind.u64.bits (a:Int) ||| BitVec.ofInt IntKind.u64.bits ((c*2 ^ k:Nat):Int)).toNat:Int)=((a+c*2 ^ k:Nat):Int):=by
 rw[BitVec.toNat_or,uz ag,uz ag,py ha]
 grind [cV,gy]
set_option maxRecDepth 10000 in
theorem Qb(x:Nat)(hx:x<256):IntKind.u8.wrap ((BitVec.ofInt IntKind.u8.bits (x:Int) ||| BitVec.ofInt IntKind.u8.bits 128).toNat:Int)=((x%128+128:Nat):Int):=by
 have e2:(BitVec.ofInt IntKind.u8.bits (128:Int)).toNat=128:=by decide
 have h:∀y,y<256→y ||| 128=y%128+128:=by decide
 grind [ym,cV,gy]
theorem D7(x:Nat)(hx:x<256):IntKind.u8.wrap ((BitVec.ofInt IntKind.u8.bits (x:Int) &&& ~~~ BitVec.ofInt IntKind.u8.bits 128).toNat:Int)=((x%128:Nat):Int):=by
 have e2:(~~~ BitVec.ofInt IntKind.u8.bits (128:Int)).toNat=2 ^ 7-1:=by decide
 rw[BitVec.toNat_and,ym hx,e2,Nat.and_two_pow_sub_one_eq_mod]
 grind [cV,gy]
theorem D6(x n:Nat)(hx:x<18446744073709551616)(hn:n<64):IntKind.u64.wrap ((BitVec.ofInt IntKind.u64.bits (x:Int) &&& BitVec.ofInt IntKind.u64.bits ((2 ^ n-1:Nat):Int)).toNat:Int)=((x%2 ^ n:Nat):Int):=by
 have hp:2 ^ n<2 ^ 64:=Nat.pow_lt_pow_right ag hn
 have lY:0<2 ^ n:=Nat.pow_pos ag
 rw[BitVec.toNat_and,uz hx,uz ag,Nat.and_two_pow_sub_one_eq_mod]
 have dJ:x%2 ^ n<18446744073709551616:=Nat.lt_of_le_of_lt (Nat.mod_le _ _) hx
 grind [cV,gy]
def xH(n:Nat):List UInt8:=[UInt8.ofNat n,UInt8.ofNat (n/256),UInt8.ofNat (n/65536),UInt8.ofNat (n/16777216)]
def jI(b:List UInt8):Nat:=(b.getD 0 0).toNat+(b.getD 1 0).toNat*256+(b.getD 2 0).toNat*65536+(b.getD 3 0).toNat*16777216
def Dx(n:Nat):(xH n).length=4:=rfl
def KS(n:Nat)(h:n<4294967296)(rest:List UInt8):jI (xH n++rest)=n:=by
 simp only[jI,xH,List.cons_append,List.getD_cons_zero,List.getD_cons_succ,UInt8.toNat_ofNat']
 omega
theorem Qy(b:List UInt8):jI b<4294967296:=by
 unfold jI
 have h:∀x:UInt8,x.toNat<256:=fun x=>x.toNat_lt
 grind
end Go.SL
namespace Go.SL
open Go
def ak.mJ{H H' rest:List HP}{A:HP}(i:Nat)(h:Qd i H [] = .mk A rest)(hr:ak rest H'):ak H (A::H') :=
 (ak.perm (by simpa using B9 i H [] A rest h)).trans (ak.cons A hr)
def ak.U4(H:List HP):ak H []:=fun h hs=>⟨fun _=>none,⟨fun b o e=>(by cases e),fun _=>rfl⟩⟩
def ah{H H':List HP}(h:ak H H':=by(repeat'(first|exact ak.refl _|exact ak.U4 _|refine ak.mJ 0 rfl ?_|refine ak.mJ 1 rfl ?_|refine ak.mJ 2 rfl ?_|refine ak.mJ 3 rfl ?_|refine ak.mJ 4 rfl ?_|refine ak.mJ 5 rfl ?_|refine ak.mJ 6 rfl ?_|refine ak.mJ 7 rfl ?_|refine ak.mJ 8 rfl ?_|refine ak.mJ 9 rfl ?_|refine ak.mJ 10 rfl ?_|refine ak.mJ 11 rfl ?_|refine ak.mJ 12 rfl ?_|refine ak.mJ 13 rfl ?_|refine ak.mJ 14 rfl ?_|refine(ak.drop _ _).trans ?_))):ak H H':=h
section
variable{P:Program}{f:FuncId}{n:Nat}{R:Ending→World→Prop}{G:cQ}{k:List Item}{L:fY}{H:List HP}{S:World→Prop}{all:Array Oper}{rest:Pl}{d:Tmp}{ty:TypeId}{pos:String}{af:Array Edge}{gd:Option (Nat × Bool)}
def fk{fo:Operand}{args:Array Operand}{yP:Array TypeId}{g:FuncId}{cap:Array Value}{vs:List Value}{Pre Fr:List HP}{Post:Value→List HP→Prop}(hd:Nat.blt d n=true)(hf:ev L fo=some (.func (.func g) #[] cap))(g9:Ic L args.toList [] = .mk vs){D3:List Value}(has:D3=vs++cap.toList)(c:aD P g D3 Pre Post)(he:ak H (Pre++Fr))(h:∀v H',Post v H'→J P f n R G S all rest k ((d,v)::L) (H'++Fr))(hS:∀v H' w,Post v H'→Sat G w (H'++Fr)→Sx rest S w) :
  J P f n R G S all (.cons false true ⟨some d,.call { callee := .value fo,args:=args,argTypes:=yP },ty,pos,af,gd⟩ rest) k L H:=by
 intro a w ha hw _
 refine .inl ⟨.inl rfl,.inr ⟨rfl,?_⟩⟩
 have hr:(execOp a.eval ⟨some d,.call { callee := .value fo,args:=args,argTypes:=yP },ty,pos,af,gd⟩).run P w = .ok (.enter g D3.toArray) w:=by
  simp only[execOp,resolve,Sem.run_bind,ha.ev hf,Deferred.ofValue,Sem.run_pure,Result.andThen_ok,invoke]
  rw[l6 c.1,nN ha.1 _ _ g9,has]
  congr 2
  simp
 refine vM (fun c hc=>by cases hc) hr (Calls.mono (c.2 G w Fr (hw.cL he)) ?_)
 rintro e w'⟨v,H',rfl,fU,lg⟩
 exact⟨v,rfl,hS v H' w' fU lg,h v H' fU _ w' (ha.put hd v) lg (hS v H' w' fU lg)⟩
def tqg{p:Prop}(h:p:=by(intro _ _ w hp hw;(first|(obtain rfl:=hp;exact hw.cL ah)|(obtain⟨rfl,rfl⟩:=hp;exact hw.cL ah)|(obtain⟨_,rfl⟩:=hp;exact hw.cL ah)|(obtain⟨_,_,rfl⟩:=hp;exact hw.cL ah)|(obtain⟨_,_,rfl,rfl⟩:=hp;exact hw.cL ah)|(obtain⟨_,_,_,_,rfl,rfl⟩:=hp;exact hw.cL ah)|(obtain⟨_,_,rfl,rfl,_,_⟩:=hp;exact hw.cL ah)|(obtain⟨_,_,rfl,_⟩:=hp;exact hw.cL ah)|(obtain⟨_,_,rfl,rfl,_⟩:=hp;exact hw.cL ah)|(obtain⟨_,rfl,rfl⟩:=hp;exact hw.cL ah)|(obtain⟨_,_,_,rfl,rfl⟩:=hp;exact hw.cL ah)|(obtain⟨_,_,_,_,rfl,rfl,_⟩:=hp;exact hw.cL ah)|(obtain⟨_,_,_,_,_,rfl,rfl,_⟩:=hp;exact hw.cL ah)))):p:=h
def dy{fo:Operand}{args:Array Operand}{yP:Array TypeId}{g:FuncId}{cap:Array Value}{vs:List Value}{Pre Fr:List HP}{Post:Value→List HP→Prop}{D3:List Value}(c:aD P g D3 Pre Post)(h:∀v H',Post v H'→J P f n R G S all rest k ((d,v)::L) (H'++Fr))(hd:Nat.blt d n=true:=by exact rfl)(hf:ev L fo=some (.func (.func g) #[] cap):=by exact rfl)(g9:Ic L args.toList [] = .mk vs:=by exact rfl)(has:D3=vs++cap.toList:=by exact rfl)(he:ak H (Pre++Fr):=by exact ah)(hS:∀v H' w,Post v H'→Sat G w (H'++Fr)→Sx rest S w:=by exact tqg) :
    J P f n R G S all (.cons false true ⟨some d,.call { callee := .value fo,args:=args,argTypes:=yP },ty,pos,af,gd⟩ rest) k L H:=fk hd hf g9 has c he h hS
def afJ{p:Prop}[Decidable p](t:Nat)(h:J P f n R G S all rest k ((t,.bool true)::L) H)(hb:ek L t=some (.bool (decide p)):=by exact rfl)(hp:p:=by omega):J P f n R G S all rest k L H:=az t _ hb (congrArg Value.bool (decide_eq_true hp)) h
def afK{p:Prop}[Decidable p](t:Nat)(h:J P f n R G S all rest k ((t,.bool false)::L) H)(hb:ek L t=some (.bool (decide p)):=by exact rfl)(hp:¬p:=by omega):J P f n R G S all rest k L H:=az t _ hb (congrArg Value.bool (decide_eq_false hp)) h
def afH{p:Prop}[Decidable p](t:Nat)(h:K P f n R G k ((t,.bool true)::L) H)(hb:ek L t=some (.bool (decide p)):=by exact rfl)(hp:p:=by omega):K P f n R G k L H:=bj t _ hb (congrArg Value.bool (decide_eq_true hp)) h
def afI{p:Prop}[Decidable p](t:Nat)(h:K P f n R G k ((t,.bool false)::L) H)(hb:ek L t=some (.bool (decide p)):=by exact rfl)(hp:¬p:=by omega):K P f n R G k L H:=bj t _ hb (congrArg Value.bool (decide_eq_false hp)) h
def adQ{k0:List Item}{id:Nat}{ops:Array Oper}(Hs:List HP)(ec:Pt)(h:J P f n R G (fun w=>Sat G w Hs) ops (eJ ops ec) k L H)(hk:iE 1000 k0 = .mk (.code (.region id ops true)::k):=by exact rfl)(hm:P.follows .mixedOrders=true:=by exact aq)(Sv:Region.noSelect ops=true:=by exact aq)(hp:(Cb ops && (Nat.ble ec.depth ops.size && eH ops true ec (Array.replicate ops.size false)))=true:=by exact aq)(hS:∀w,Sat G w H→Sat G w Hs:=by(intro w hw;exact hw.cL ah)):K P f n R G k0 L H:=aG _ ec hk hm Sv hp hS h
def aI{fo:Operand}{args:Array Operand}{yP:Array TypeId}{g:FuncId}{cap:Array Value}{vs:List Value}{Pre Fr:List HP}{Post:Value→List HP→Prop}{D3:List Value}(c:aD P g D3 Pre Post)(h:∀v H',Post v H'→J P f n R G S all rest k ((d,v)::L) (H'++Fr))(hd:Nat.blt d n=true:=by exact rfl)(hf:ev L fo=some (.func (.func g) #[] cap):=by exact rfl)(g9:Ic L args.toList [] = .mk vs:=by exact rfl)(has:D3=vs++cap.toList:=by exact rfl)(he:ak H (Pre++Fr):=by exact ah)(hS:∀v H' w,Post v H'→Sat G w (H'++Fr)→Sx rest S w:=by exact fun _ _ _ _ _=>trivial) :
    J P f n R G S all (.cons false true ⟨some d,.call { callee := .value fo,args:=args,argTypes:=yP },ty,pos,af,gd⟩ rest) k L H:=fk hd hf g9 has c he h hS
def aN{fo:Operand}{args:Array Operand}{yP:Array TypeId}{g:FuncId}{cap:Array Value}{vs:List Value}{Pre Fr Hx:List HP}{Post:Value→List HP→Prop}{v:Value}{D3:List Value}(c:aD P g D3 Pre Post)(h:J P f n R G S all rest k ((d,v)::L) (Hx++Fr))(hd:Nat.blt d n=true:=by exact rfl)(hf:ev L fo=some (.func (.func g) #[] cap):=by exact rfl)(g9:Ic L args.toList [] = .mk vs:=by exact rfl)(has:D3=vs++cap.toList:=by exact rfl)(he:ak H (Pre++Fr):=by exact ah)(hq:∀r H,Post r H→r=v∧H=Hx:=by(intro _ _ q;obtain⟨rfl,rfl⟩:=q;exact⟨rfl,rfl⟩))(hS:∀v' H' w,Post v' H'→Sat G w (H'++Fr)→Sx rest S w:=by exact fun _ _ _ _ _=>trivial) :
    J P f n R G S all (.cons false true ⟨some d,.call { callee := .value fo,args:=args,argTypes:=yP },ty,pos,af,gd⟩ rest) k L H:=fk hd hf g9 has c he (fun _ _ q=>by obtain⟨rfl,rfl⟩:=hq _ _ q;exact h) hS
def bp{fo:Operand}{args:Array Operand}{yP:Array TypeId}{g:FuncId}{cap:Array Value}{vs:List Value}{Pre Fr Hx:List HP}{Post:Value→List HP→Prop}{v:Value}{D3:List Value}(c:aD P g D3 Pre Post)(h:J P f n R G S all rest k ((d,v)::L) (Hx++Fr))(hd:Nat.blt d n=true:=by exact rfl)(hf:ev L fo=some (.func (.func g) #[] cap):=by exact rfl)(g9:Ic L args.toList [] = .mk vs:=by exact rfl)(has:D3=vs++cap.toList:=by exact rfl)(he:ak H (Pre++Fr):=by exact ah)(hq:∀r H,Post r H→r=v∧H=Hx:=by(intro _ _ q;obtain⟨rfl,rfl⟩:=q;exact⟨rfl,rfl⟩))(hS:∀w,Sat G w (Hx++Fr)→Sx rest S w:=by(intro w hw;exact hw.cL ah)) :
    J P f n R G S all (.cons false true ⟨some d,.call { callee := .value fo,args:=args,argTypes:=yP },ty,pos,af,gd⟩ rest) k L H:=fk hd hf g9 has c he (fun _ _ q=>by obtain⟨rfl,rfl⟩:=hq _ _ q;exact h) (fun _ _ w q hw=>by obtain⟨rfl,rfl⟩:=hq _ _ q;exact hS w hw)
def ad{k k0:List Item}{fn:Func}{F:List HP}{Post:Value→List HP→Prop}(hR:Ends R G F Post)(hf:P.funcs[f]?=some fn)(hk:iE 1000 k0 = .mk (.code .ret::k)){vs:List Value}(hr:zk L fn.results.toList [] = .mk vs){Hq:List HP}(hp:Post (eK vs) Hq)(he:ak H (Hq++F):=by exact ah):K P f n R G k0 L H:=aO hR hf hk vs hr hp he
def aD.aw{fn:Func}{c:Code}{args:List Value}{Pre:List HP}{Post:Value→List HP→Prop}(hf:P.funcs[f]?=some fn)(hn:fn.ntmps=n)(h:∀G F R,Ends R G F Post→K P f n R G [.code c] L (Pre++F))(hc:mZ fn=true:=by exact aq)(hb:fn.body=some c:=by exact rfl)(hp:P' 0 args [] = .mk L:=by exact rfl)(hlen:Nat.ble args.length n=true:=by exact rfl):aD P f args Pre Post:=aD.enter hf hc hb hn hp hlen h
def xW{k0 k':List Item}{α:Type}(m:Nat)(I:α→Prop)(Lf:α→fY)(Hf:α→List HP)(hk:iE 1000 (k0.drop m) = .mk k')(tail:∀y,I y→K P f n R G k' (Lf y) (Hf y))(h:(∀y,I y→K P f n R G k' (Lf y) (Hf y))→K P f n R G k0 L H):K P f n R G k0 L H:=h tail
def jX{k0 k':List Item}{α:Type}{I:α→Prop}{Lf:α→fY}{Hf:α→List HP}(ih:∀y,I y→K P f n R G k' (Lf y) (Hf y))(y:α)(hk:iE 1000 k0 = .mk k')(hI:I y)(hL:∀t v,ek (Lf y) t=some v→ek L t=some v)(hH:ak H (Hf y)):K P f n R G k0 L H:=gW 1000 hk (LG hL (ai hH (ih y hI)))
def gE{k0 k':List Item}(hk:iE 1000 k0 = .mk k')(h:K P f n R G k' L H):K P f n R G k0 L H:=gW 1000 hk h
end
def eo{p:Prop}(h:p:=by(intro w hw;exact hw.cL ah)):p:=h
def tqh{p:Prop}(h:p:=by(intro _ _ w hp hw;obtain⟨rfl,rfl⟩:=hp;exact hw.cL ah)):p:=h
end Go.SL
namespace Go.SL
open Go
section
variable{P:Program}{U:Tr}[hU:gq P U]{f:FuncId}{n:Nat}{R:Ending→World→Prop}{G:cQ}{k:List Item}{L:fY}{H:List HP}{S:World→Prop}{all:Array Oper}{rest:Pl}{d:Tmp}{ty:TypeId}{pos:String}{af:Array Edge}{gd:Option (Nat × Bool)}{m:Bool}
theorem vC{fo:Operand}{args:Array Operand}{yP:Array TypeId}{g:FuncId}{fi cap:Array Value}{vs:List Value}{Pre Fr:List HP}{Post:Value→List HP→Prop}(hd:Nat.blt d n=true)(hf:ev L fo=some (.func (.func g) fi cap))(g9:Ic L args.toList [] = .mk vs){D3:List Value}(has:D3=fi.toList++vs++cap.toList)(c:aD P g D3 Pre Post)(he:ak H (Pre++Fr))(h:∀v H',Post v H'→J P f n R G S all rest k ((d,v)::L) (H'++Fr))(hS:∀v H' w,Post v H'→Sat G w (H'++Fr)→Sx rest S w) :
  J P f n R G S all (.cons false true ⟨some d,.call { callee := .value fo,args:=args,argTypes:=yP },ty,pos,af,gd⟩ rest) k L H:=by
 intro a w ha hw _
 refine .inl ⟨.inl rfl,.inr ⟨rfl,?_⟩⟩
 have hr:(execOp a.eval ⟨some d,.call { callee := .value fo,args:=args,argTypes:=yP },ty,pos,af,gd⟩).run P w = .ok (.enter g D3.toArray) w:=by
  simp only[execOp,resolve,Sem.run_bind,ha.ev hf,Deferred.ofValue,Sem.run_pure,Result.andThen_ok,invoke]
  rw[l6 c.1,nN ha.1 _ _ g9,has]
  congr 2
  grind
 refine vM (fun c hc=>by cases hc) hr (Calls.mono (c.2 G w Fr (hw.cL he)) ?_)
 rintro e w'⟨v,H',rfl,fU,lg⟩
 exact⟨v,rfl,hS v H' w' fU lg,h v H' fU _ w' (ha.put hd v) lg (hS v H' w' fU lg)⟩
def AQ{t yt:TypeId}{x y:Operand}{p q:ByteArray}(hd:Nat.blt d n=true)(hx:ev L x=some (.string p))(hy:ev L y=some (.string q))(hr:p.size+q.size≤9223372036854775807)(h:J P f n R G S all rest k ((d,.string (p++q))::L) H):J P f n R G S all (.cons m true ⟨some d,.binOp .add t x y yt,ty,pos,af,gd⟩ rest) k L H :=
  dF hd (fun a ha w=>by
    have h0 : ¬ (((p.size + q.size : Nat) : Int) > IntKind.i64.max) := by have : IntKind.i64.max = 9223372036854775807 := by decide
                                                                          omega
    simp only[execOp,ha.ev hx,ha.ev hy,eqGuard,Sem.run_bind,Sem.run_pure,Result.andThen_ok,binOp_string_add,Op.stringOp]
    rw[if_neg h0]
    rfl) h
theorem El{g:FuncId}{fn:Func}{args:Array Operand}{yP:Array TypeId}{t elem:TypeId}{bY:Ty}{q:Nat}(hd:Nat.blt d n=true)(hf:P.funcs[g]?=some fn)(hb:fn.body=none)(hn:(fn.name == "runtime.NumGoroutine")=false)(qd:(Extern.findNext fn).isNone=true)(he:Extern.find fn=some (Extern.BytealgMakeNoZero.makeNoZero fn.params #[t]))(ht:U.get t=some bY)(hu:bY.gH = .slice elem)(g9:Ic L args.toList [] = .mk [.int .i64 (q:Int)])(hq:q≤281474976710656)(hS:∀b l w,Sat G w (ae b (cl l elem)::H)→Sx rest S w)(h:∀b c l,q≤c→List.length l=c→J P f n R G S all rest k ((d,.slice (some ⟨b,0,none⟩) q c)::L) (ae b (cl l elem)::H)) :
  J P f n R G S all (.cons false true ⟨some d,.call { callee := .value (.func g),args:=args,argTypes:=yP },ty,pos,af,gd⟩ rest) k L H:=by
 refine oW hd (fun u H1=>∃b c l,(q≤c∧List.length l=c)∧u = .slice (some ⟨b,0,none⟩) q c∧H1=ae b (cl l elem)::H) (fun a w ha hw=>?_) ?_ ?_
 ·have hav:=nN ha _ _ g9
  obtain⟨cs,hr,h1,_⟩:=Lib.run_makeNoZero (P:=P) w fn.params t elem (by rw[← hu];exact kp ht) q hq
  have Zi:Sat G w.drew.drew H:=(hw.draw _).draw _
  refine⟨_,w.drew.drew.alloc (.cells cs elem),_,?_,⟨w.heap.size,cs.size,cs.toList,⟨h1,by simp⟩,rfl,rfl⟩,?_⟩
  ·simp only[execOp,resolve,Sem.run_bind,Act.eval,Deferred.ofValue,Sem.run_pure,Result.andThen_ok,invoke]
   rw[show Array.map (fun x=>a.eval x) args = #[.int .i64 (q:Int)]from hav]
   simp only[Array.empty_append,Array.append_empty]
   rw[ze hf hb hn qd he,hr]
   rfl
  ·have:=Zi.alloc (cl cs.toList elem)
   have e:cl cs.toList elem = .cells cs elem:=by simp[cl]
   rw[e]at this ⊢
   exact this
 ·grind
 grind
theorem On{t elem:TypeId}{bY te:Ty}{x hi mx:Operand}{a0:Option Addr}{len cap:Nat}{q r:Int}{j2 j3:IntKind}(hd:Nat.blt d n=true)(ht:U.get t=some bY)(hu:bY.gH = .slice elem)(he:U.get elem=some te)(hx:ev L x=some (.slice a0 len cap))(Ia:ev L hi=some (.int j2 q))(hmx:ev L mx=some (.int j3 r))(h0:0≤q)(hqr:q≤r)(QP:r≤(cap:Int))(h:J P f n R G S all rest k ((d,.slice (sliceAt a0 r.toNat 0 te.info.size) q.toNat r.toNat)::L) H) :
  J P f n R G S all (.cons m true ⟨some d,.slice t x none (some hi) (some mx),ty,pos,af,gd⟩ rest) k L H:=by
 refine dF hd (fun a ha w=>?_) h
 have hb:(Instr.sliceBounds true len cap none (some (a.eval hi)) (some (a.eval mx))).run P w = .ok (0,q.toNat,r.toNat) w:=by
  unfold Instr.sliceBounds
  have e1:0≤r∧r≤(cap:Int):=⟨ag,QP⟩
  have e2:0≤q∧q≤((r.toNat:Nat):Int):=⟨ag,ag⟩
  have e4:q≤max r 0:=by omega
  simp[ha.ev Ia,ha.ev hmx,Instr.sliceBound,asIntOf,e1,e2,e4,h0]
 simp only[execOp,ha.ev hx,Instr.sliceAt,Sem.run_bind,run_underlying ht,Result.andThen_ok,hu,Instr.slice,Option.map_some,Option.map_none,hb,run_sizeOf he,Sem.run_pure,sliceAt]
 grind
end
end Go.SL
namespace Go.SL
open Go
def bq(l:Nat)(st:LoopState)(pd:Option Code)(f:FuncId)(n:Nat)(L:fY)(ps:Array Tmp)(assign body:Code)(r:Nat):HP:=fun h =>
 ∃tmps:Array Value,(tmps.size=n∧∀t v,ek L t=some v→tmps[t]?=some v)∧ae l (.loop { state:=st,pending:=pd,fn:=f,tmps:=tmps,params:=ps,assign:=assign,body:=body,defers:=r }) h
def cg(P:Program)(l:Nat)(args:List Value)(Pre:List HP)(Post:Value→List HP→Prop):Prop :=
 ∀G w F,Sat G w (Pre++F)→∃fn tmps assign body,(Instr.yield l args.toArray).run P w = .ok (.round l fn tmps assign body) w ∧
  ∀ro,RoundIn (fw ro) 0 P l fn tmps assign body w fun e w'=>∃v H,e = .returned v∧Post v H∧Sat G w' (H++F)
def PV:List Nat→List Value→fY→fY
 | p::ps,v::vs,L=>PV ps vs ((p,v)::L)
 | _,_,L=>L
def inB(n:Nat):List Nat→Bool
 | []=>true
 | p::ps=>Nat.blt p n && inB n ps
def Lg{n:Nat}:∀(ps:List Nat) (vs:List Value) (L:fY) (tmps:Array Value),inB n ps=true→tmps.size=n→(∀t v,ek L t=some v→tmps[t]?=some v) →
  Has n (PV ps vs L) { tmps:=(ps.zip vs).foldl (fun tmps (x:Nat × Value)=>tmps.setIfInBounds x.1 x.2) tmps,defers:=[] }
 | [],vs,L,tmps,_,hs,hg=>⟨hs,trivial,hg⟩
 | p::ps,[],L,tmps,_,hs,hg=>⟨by simpa using hs,trivial,by simpa[PV]using hg⟩
 | p::ps,v::vs,L,tmps,hb,hs,hg=>by
  simp only[inB,Bool.and_eq_true]at hb
  have h1:Has n L { tmps:=tmps,defers:=[] }:=⟨hs,trivial,hg⟩
  have h2:=h1.put hb.1 v
  exact Lg ps vs _ _ hb.2 h2.1 h2.2.2
def LQ(R:Ending→World→Prop)(G:cQ)(l:Nat)(F:List HP)(Post:Value→List HP→Prop):Prop :=
 (G.ro=some l∧G.ds=[])∧∀v H w,Post v H→Sat G w (H++F)→R (.returned v) w
section
variable{P:Program}{f:FuncId}{n:Nat}{R:Ending→World→Prop}{G:cQ}{k:List Item}{L:fY}{H:List HP}{l r:Nat}{st:LoopState}{pd:Option Code}{n0:Nat}{f0:FuncId}{L0:fY}{ps:Array Tmp}{assign body:Code}
def rE{w:World}(hs:Sat G w (bq l st pd f0 n0 L0 ps assign body r::H)):∃tmps:Array Value,(tmps.size=n0∧∀t v,ek L0 t=some v→tmps[t]?=some v)∧Sat G w (ae l (.loop { state:=st,pending:=pd,fn:=f0,tmps:=tmps,params:=ps,assign:=assign,body:=body,defers:=r })::H):=by
 obtain⟨t,o,u,hp,OT,h1,h2,⟨tmps,ht,hA⟩,hH,hd,he⟩:=hs
 exact⟨tmps,ht,t,o,u,hp,OT,h1,h2,hA,hH,hd,he⟩
def rD{tmps:Array Value}(ht:tmps.size=n0∧∀t v,ek L0 t=some v→tmps[t]?=some v):ak (ae l (.loop { state:=st,pending:=pd,fn:=f0,tmps:=tmps,params:=ps,assign:=assign,body:=body,defers:=r })::H) (bq l st pd f0 n0 L0 ps assign body r::H) :=
 fun h hs=>⟨h,sub.refl h,gj (fun h hp=>⟨tmps,ht,hp⟩) (fun _ h=>h) hs⟩
def cg.FO{args:List Value}{Pre:List HP}{Post:Value→List HP→Prop}(Zv:Nat.beq ps.toList.length args.length=true)(qe:inB n0 ps.toList=true)(h:∀G F R,LQ R G l F Post→K P f0 n0 R G [.code assign,.beginRound,.code body] (PV ps.toList args L0) (bq l .ready none f0 n0 L0 ps assign body r::(Pre++F))) :
  cg P l args (bq l .ready none f0 n0 L0 ps assign body r::Pre) Post:=by
 intro G w F hw
 obtain⟨tmps,ht,Ch⟩:=rE (H:=Pre++F) hw
 have hg:=Ch.get (i:=0) rfl
 have iY:args.toArray.size=ps.size:=by have:=Nat.eq_of_beq_eq_true Zv;simpa using this.symm
 refine⟨_,_,_,_,run_yield hg iY,fun ro=>⟨trivial,fun c cs _=>?_⟩⟩
 have hk:=h { G with ro:=some l,ds:=[] } F (fun e w'=>∃v H,e = .returned v∧Post v H∧Sat G w' (H++F)) ⟨⟨rfl,rfl⟩,fun v H w' hp hs=>⟨v,H,rfl,hp,hs⟩⟩
 have hz:(ps.zip args.toArray).foldl (fun(tmps:Array Value) (x:Tmp × Value)=>tmps.setIfInBounds x.1 x.2) tmps=(ps.toList.zip args).foldl (fun tmps (x:Nat × Value)=>tmps.setIfInBounds x.1 x.2) tmps:=by
  rw[← Array.foldl_toList,Array.toList_zip]
 have ha:tN { G with ro:=some l,ds:=[] } n0 (PV ps.toList args L0) { tmps:=(ps.zip args.toArray).foldl (fun(tmps:Array Value) (x:Tmp × Value)=>tmps.setIfInBounds x.1 x.2) tmps,defers:=[] }:=⟨by rw[hz];exact Lg ps.toList args L0 tmps qe ht.1 ht.2,rfl⟩
 obtain⟨v,w',⟨v',H',he,hp,hs⟩,bP⟩:=hk _ w ha (Ch.cL (rD ht)) (c::cs) c cs rfl
 cases he
 exact⟨.returned v,w',⟨v,H',rfl,hp,hs⟩,(StepsIn.of_steps bP).mono fun m _=>wI P ro m⟩
def gx{k0:List Item}(hk:iE 1000 k0 = .mk (.beginRound::k)){F:List HP}{Post:Value→List HP→Prop}(hR:LQ R G l F Post)(h:K P f n R G k L (bq l .busy pd f0 n0 L0 ps assign body r::H)):K P f n R G k0 L (bq l .ready pd f0 n0 L0 ps assign body r::H):=by
 refine gW 1000 hk ?_
 intro a w ha hw cs
 obtain⟨tmps,ht,Ch⟩:=rE hw
 have hg:=Ch.get (i:=0) rfl
 have hb:=run_beginRound (P:=P) hg rfl
 have Zi:=(Ch.Da (o' := .loop { state := .busy,pending:=pd,fn:=f0,tmps:=tmps,params:=ps,assign:=assign,body:=body,defers:=r })).cL (rD ht)
 exact(h a _ ha Zi cs).of_steps (.one (stepR_beginRound (b:=({ (default:Frame)with fn:=f,kind := .normal,roundOf:=G.ro }:Frame)) hR.1.1 hb))
def BV{a:Act}{w w':World}{k1:List Item}{cs:List Frame}{v:Value}(QO:G.ro=some l)(hR:R (.returned v) w')(hs:∀c lA,step P (lone (bf G.ro f a k1) (c::lA) w) = .next (lone (c.finish v) lA w')):Ob P f R cs (lone (bf G.ro f a k1) cs w) G.ro:=by
 rw[QO]at hs ⊢
 intro c lA kP
 subst kP
 exact⟨v,w',hR,.one (hs c lA)⟩
def uZ{w:World}(jump:Option Code)(hw:Sat G w (bq l st pd f0 n0 L0 ps assign body r::H)):∃w',(Instr.endRound l jump).run P w = .ok (.bool jump.isNone) w'∧Sat G w' (bq l (if jump.isNone then .ready else .done) jump f0 n0 L0 ps assign body r::H):=by
 obtain⟨tmps,ht,Ch⟩:=rE hw
 have hg:=Ch.get (i:=0) rfl
 exact⟨_,run_endRound (P:=P) jump hg,(Ch.Da (o' := .loop { state:=if jump.isNone then .ready else .done,pending:=jump,fn:=f0,tmps:=tmps,params:=ps,assign:=assign,body:=body,defers:=r })).cL (rD ht)⟩
def fV{k0:List Item}{F Hq:List HP}{Post:Value→List HP→Prop}(hR:LQ R G l F Post)(hk:iE 1000 k0 = .mk [])(he:ak H (bq l st pd f0 n0 L0 ps assign body r::(Hq++F)))(hp:Post (.bool true) (bq l .ready none f0 n0 L0 ps assign body r::Hq)):K P f n R G k0 L H:=by
 refine gW 1000 hk ?_
 intro a w ha hw cs
 obtain⟨w',h1,h2⟩:=uZ (P:=P) none (hw.cL he)
 exact BV hR.1.1 (hR.2 _ _ w' hp h2) fun c lA=>stepR_round_end (b:=({ (default:Frame)with fn:=f,kind := .normal,roundOf:=G.ro }:Frame)) hR.1.1 rfl h1
def AP{k0:List Item}{F Hq:List HP}{Post:Value→List HP→Prop}(hR:LQ R G l F Post)(hk:iE 1000 k0 = .mk (.code .ret::k))(he:ak H (bq l st pd f0 n0 L0 ps assign body r::(Hq++F)))(hp:Post (.bool false) (bq l .done (some .ret) f0 n0 L0 ps assign body r::Hq)):K P f n R G k0 L H:=by
 refine gW 1000 hk ?_
 intro a w ha hw cs
 obtain⟨w',h1,h2⟩:=uZ (P:=P) (some .ret) (hw.cL he)
 exact BV hR.1.1 (hR.2 _ _ w' hp h2) fun c lA=>stepR_round_ret (b:=({ (default:Frame)with fn:=f,kind := .normal,roundOf:=G.ro }:Frame)) hR.1.1 rfl h1
theorem yB{k0:List Item}{g:Operand}{gid:FuncId}{cap:Array Value}{Pre:Nat→Nat→List HP}{Fr:List HP}{Post:Nat→Nat→Value→List HP→Prop}(hk:iE 1000 k0 = .mk (.code (.rangeFunc g ps assign body)::k))(QO:G.ro=none)(hg:ev L g=some (.func (.func gid) #[] cap))(c:∀l r,aD P gid (.func (.yield l) #[] #[]::cap.toList) (bq l .ready none f n L ps assign body r::Pre l r) (Post l r))(he:∀l r,ak H (Pre l r++Fr))(ij:∀l r v H',Post l r v H'→∃st pd H'',H'=bq l st pd f n L ps assign body r::H''∧st ≠ .busy ∧
   K P f n R { G with ds:=r::G.ds } ((pd.map Item.code).toList++k) L (H''++(ae r (.deferred (some []))::Fr))):K P f n R G k0 L H:=by
 refine gW 1000 hk ?_
 intro a w ha hw cs
 let b:Frame:={ (default:Frame)with fn:=f,kind := .normal,roundOf:=G.ro }
 have Z3:=run_enterLoop_outer (P:=P) (w:=w) f a.tmps ps assign body
 rw[← QO]at Z3
 have Ch:Sat G ((w.alloc (.deferred (some []))).alloc (.loop { state := .ready,pending:=none,fn:=f,tmps:=a.tmps,params:=ps,assign,body,defers:=w.heap.size }))
   (bq (w.heap.size+1) .ready none f n L ps assign body w.heap.size::(Pre (w.heap.size+1) w.heap.size++(ae w.heap.size (.deferred (some []))::Fr))):=by
  have h1:=hw.alloc (.deferred (some []))
  have h2:=h1.alloc (.loop { state := .ready,pending:=none,fn:=f,tmps:=a.tmps,params:=ps,assign:=assign,body:=body,defers:=w.heap.size })
  have iY:({ w with heap:=w.heap.push (.deferred (some [])) }:World).heap.size=w.heap.size+1:=by simp
  rw[iY]at h2
  refine Sat.cL h2 ?_
  refine(rD ⟨ha.1.1,ha.1.2.2⟩).trans (ak.cons _ ?_)
  refine(ak.cons _ (he (w.heap.size+1) w.heap.size)).trans ?_
  exact ak.perm (List.perm_middle.symm)
 have I':(resolve a.eval (rangeCall g (w.heap.size+1)) 0).run P ((w.alloc (.deferred (some []))).alloc (.loop { state := .ready,pending:=none,fn:=f,tmps:=a.tmps,params:=ps,assign,body,defers:=w.heap.size })) = .ok { target := .fn (.func gid) cap,args := #[.func (.yield (w.heap.size+1)) #[] #[]] } ((w.alloc (.deferred (some []))).alloc (.loop { state := .ready,pending:=none,fn:=f,tmps:=a.tmps,params:=ps,assign,body,defers:=w.heap.size })):=by
  simp only[resolve,rangeCall,Sem.run_bind,ha.ev hg,Deferred.ofValue,Sem.run_pure,Result.andThen_ok]
  simp[Act.eval]
 have hinv:(invoke (.fn (.func gid) cap) #[.func (.yield (w.heap.size+1)) #[] #[]]).run P ((w.alloc (.deferred (some []))).alloc (.loop { state := .ready,pending:=none,fn:=f,tmps:=a.tmps,params:=ps,assign,body,defers:=w.heap.size })) = .ok (.enter gid (Value.func (.yield (w.heap.size+1)) #[] #[]::cap.toList).toArray) ((w.alloc (.deferred (some []))).alloc (.loop { state := .ready,pending:=none,fn:=f,tmps:=a.tmps,params:=ps,assign,body,defers:=w.heap.size })):=by
  simp only[invoke]
  rw[l6 (c (w.heap.size+1) w.heap.size).1]
  congr 2
  grind
 have Ji:=stepR_rangeFunc (P:=P) (b:=b) (a:=a) (k:=k) (cs:=cs) (w:=w) (ps:=ps) (assign:=assign) (body:=body) (g:=g) Z3 I' hinv
 obtain⟨e,w3,fr,⟨v,H',rfl,fU,OS⟩,Z7,TZ,ZM⟩:=(c (w.heap.size+1) w.heap.size).2 G _ (ae w.heap.size (.deferred (some []))::Fr) Ch (b.atR { a with defers:=[{ target := .collected w.heap.size,args := #[] }]++a.defers } (.inRangeFunc (w.heap.size+1)::k)::cs)
 obtain⟨st,pd,H'',rfl,bP,hK⟩:=ij _ _ _ _ fU
 obtain⟨tmps,ht,Vj⟩:=rE (H:=H''++(ae w.heap.size (.deferred (some []))::Fr)) OS
 have hg4:=Vj.get (i:=0) rfl
 have ac8:=run_endLoop (P:=P) hg4 bP
 have hs5:=(Vj.Da (o' := .loop { state := .exhausted,pending:=pd,fn:=f,tmps:=tmps,params:=ps,assign:=assign,body:=body,defers:=w.heap.size })).cL (ak.drop _ _)
 have iG:step P (lone fr (b.atR { a with defers:=[{ target := .collected w.heap.size,args := #[] }]++a.defers } (.inRangeFunc (w.heap.size+1)::k)::cs) w3) = .next (lone (b.atR { a with defers:=[{ target := .collected w.heap.size,args := #[] }]++a.defers } (.endRangeFunc (w.heap.size+1)::k)) cs w3):=by
  rw[← finish_atR_inRangeFunc (w.heap.size+1) v];exact step_leave_returned ZM
 have nG:=stepR_endRangeFunc (P:=P) (b:=b) (a:={ a with defers:=[{ target := .collected w.heap.size,args := #[] }]++a.defers }) (k:=k) (cs:=cs) ac8
 have iJ:=hK { a with defers:=[{ target := .collected w.heap.size,args := #[] }]++a.defers } _ ⟨⟨ha.1.1,trivial,ha.1.2.2⟩,by rw[show({ G with ds:=w.heap.size::G.ds }:cQ).ds=w.heap.size::G.ds from rfl,List.map_cons,ha.2];rfl⟩ hs5 cs
 exact Ob.of_steps (Steps.trans (.one Ji) (Steps.trans Z7 (Steps.trans (.one iG) (.one nG)))) iJ
variable{S:World→Prop}{all:Array Oper}{rest:Pl}{d:Tmp}{ty:TypeId}{pos:String}{af:Array Edge}{gd:Option (Nat × Bool)}
theorem lB{fo:Operand}{args:Array Operand}{yP:Array TypeId}{vs:List Value}{Pre Fr:List HP}{Post:Value→List HP→Prop}(hd:Nat.blt d n=true)(hf:ev L fo=some (.func (.yield l) #[] #[]))(g9:Ic L args.toList [] = .mk vs)(c:cg P l vs Pre Post)(he:ak H (Pre++Fr))(h:∀v H',Post v H'→J P f n R G S all rest k ((d,v)::L) (H'++Fr))(hS:∀v H' w,Post v H'→Sat G w (H'++Fr)→Sx rest S w) :
  J P f n R G S all (.cons false true ⟨some d,.call { callee := .value fo,args:=args,argTypes:=yP },ty,pos,af,gd⟩ rest) k L H:=by
 intro a w ha hw _
 refine .inl ⟨.inl rfl,.inr ⟨rfl,?_⟩⟩
 obtain⟨fn,tmps,asg,bdy,hy,hr⟩:=c G w Fr (hw.cL he)
 have Ex:(execOp a.eval ⟨some d,.call { callee := .value fo,args:=args,argTypes:=yP },ty,pos,af,gd⟩).run P w = .ok (.round l fn tmps asg bdy) w:=by
  simp only[execOp,resolve,Sem.run_bind,ha.ev hf,Deferred.ofValue,Sem.run_pure,Result.andThen_ok,invoke]
  rw[nN ha.1 _ _ g9]
  grind
 refine mF (fun c hc=>by cases hc) Ex ⟨fun h=>by simp[fw]at h,RoundIn.mono (hr G.ro) ?_⟩
 rintro e w'⟨v,H',rfl,fU,lg⟩
 exact⟨hS v H' w' fU lg,h v H' fU _ w' (ha.put hd v) lg (hS v H' w' fU lg)⟩
end
end Go.SL
namespace Go.SL
def ak.cK(l H:List HP):ak (Sep l::H) (l++H):=fun h hs=>⟨h,sub.refl h,j7 hs⟩
def ak.bX(l H:List HP):ak (l++H) (Sep l::H):=fun h hs=>⟨h,sub.refl h,ng hs⟩
abbrev fW:=List (Nat × List Value)
def bh(e:TypeId)(M:fW):HP:=Sep (M.map fun x=>ae x.1 (cl x.2 e))
def lr(M:fW)(v:Value)(bs:List UInt8):Prop :=
 ∃a cap,v = .slice a bs.length cap∧bs.length≤cap∧(bs=[]∨∃b o cs,a=Option.some ⟨b,o,none⟩∧(b,cs)∈M∧(cs.drop o).take bs.length=bV bs)
def lr.mono{M M':fW}{v:Value}{bs:List UInt8}(h:lr M v bs)(hs:∀x∈M,x∈M'):lr M' v bs:=by
 obtain⟨a,cap,hv,hc,h0|⟨b,o,cs,ha,hm,ht⟩⟩:=h
 ·exact⟨a,cap,hv,hc,.inl h0⟩
 ·exact⟨a,cap,hv,hc,.inr ⟨b,o,cs,ha,hs _ hm,ht⟩⟩
theorem lr.nil(M:fW)(a:Option Addr)(cap:Nat):lr M (.slice a 0 cap) []:=⟨a,cap,rfl,Nat.zero_le _,.inl rfl⟩
def D9{l:List HP}{A:HP}{h:Hp}(hA:A∈l)(hs:Sep l h):∃h',sub h' h∧A h':=by
 obtain⟨i,hi⟩:=List.getElem?_of_mem hA
 exact k8 (vm (dA hi) h hs)
theorem lr.view{M:fW}{v:Value}{bs:List UInt8}(h:lr M v bs)(e:TypeId):Vw (bh e M) v bs.length (bV bs):=by
 obtain⟨a,cap,rfl,_,h0|⟨b,o,cs,ha,hm,ht⟩⟩:=h
 ·subst h0;exact⟨a,cap,rfl,.inl rfl⟩
 ·have h1:Vw (ae b (cl cs e)) (.slice a bs.length cap) bs.length (bV bs):=by
   grind [Vw.ae,bM]
  refine h1.mono fun h hs=>?_
  exact D9 (List.mem_map.2 ⟨(b,cs),hm,rfl⟩) hs
def lr.shape{M:fW}{v:Value}{bs:List UInt8}(h:lr M v bs):∃a cap,v = .slice a bs.length cap∧bs.length≤cap:=by
 obtain⟨a,cap,hv,hc,_⟩:=h;exact⟨a,cap,hv,hc⟩
def Az(e:TypeId)(b:Nat)(cs:List Value)(M:fW)(H:List HP):ak (ae b (cl cs e)::bh e M::H) (bh e ((b,cs)::M)::H) :=
 ak.fold (B:=[_,_]) fun h hs=>⟨h,sub.refl h,gj (fun _ h=>h) (fun _ h=>ez h) hs⟩
def lr.row{M:fW}{b cap:Nat}{bs:List UInt8}(hc:bs.length≤cap):lr ((b,bV bs)::M) (.slice (Option.some ⟨b,0,none⟩) bs.length cap) bs :=
 ⟨_,cap,rfl,hc,.inr ⟨b,0,bV bs,rfl,by simp,by rw[← bM];simp⟩⟩
theorem RH(e:TypeId)(v:Value)(bs:List UInt8)(M:fW):∀h,star (aF e 1 v bs.length (bV bs)) (bh e M) h→∃M',lr M' v bs∧(∀x∈M,x∈M')∧bh e M' h:=by
 rintro h⟨h1,h2,⟨hl,⟨a,rfl,hn,he⟩|⟨b,o,cap,pre,cf,rfl,hp,hn,hc,wD⟩⟩,hM,hd,hj⟩
 ·have hb:bs=[]:=List.eq_nil_of_length_eq_zero hn
  subst hb
  exact⟨M,lr.nil M a 0,fun _ h=>h,Ah ⟨h1,h2,he,hM,hd,hj⟩⟩
 ·refine⟨(b,pre++bV bs++cf)::M,⟨_,cap,rfl,hn,.inr ⟨b,o,pre++bV bs++cf,rfl,by simp,?_⟩⟩,fun x hx=>by simp[hx],⟨h1,h2,wD,hM,hd,hj⟩⟩
  grind
theorem lr.tail{M:fW}{b o n cap:Nat}{x:UInt8}{bs:List UInt8}(h:lr M (.slice (Option.some ⟨b,o,none⟩) n cap) (x::bs))(o' gZ:Nat)(h1:bs≠[]→o'=o+1)(Bc:bs.length≤gZ):lr M (.slice (Option.some ⟨b,o',none⟩) bs.length gZ) bs:=by
 by_cases h0:bs=[]
 ·grind [lr.nil]
 ·have:=h1 h0
  subst this
  obtain⟨a,pM,hv,_,h2|⟨b',o2,cs,ha,hm,ht⟩⟩:=h
  ·cases h2
  ·simp only[Value.slice.injEq]at hv
   obtain⟨rfl,_,rfl⟩:=hv
   simp only[Option.some.injEq,Addr.mk.injEq,and_true]at ha
   obtain⟨rfl,rfl⟩:=ha
   refine⟨_,gZ,rfl,Bc,.inr ⟨b,o+1,cs,rfl,hm,?_⟩⟩
   rw[List.length_cons]at ht
   rw[show o+1=1+o by omega,← List.drop_drop]
   have h3:=congrArg (List.drop 1) ht
   rw[List.drop_take]at h3
   simpa[bV,Nat.add_comm]using h3
theorem lr.piece{M:fW}{b o n cap:Nat}{bs:List UInt8}(h:lr M (.slice (Option.some ⟨b,o,none⟩) n cap) bs)(o' gZ p k:Nat)(K2:p+k≤bs.length)(h1:k≠0→o'=o+p)(Bc:k≤gZ):lr M (.slice (Option.some ⟨b,o',none⟩) k gZ) ((bs.drop p).take k):=by
 have hl:((bs.drop p).take k).length=k:=by rw[List.length_take,List.length_drop];omega
 by_cases h0:k=0
 ·grind [lr.nil]
 ·have:=h1 h0
  subst this
  obtain⟨a,pM,hv,_,h2|⟨b',o2,cs,ha,hm,ht⟩⟩:=h
  ·grind
  ·simp only[Value.slice.injEq]at hv
   obtain⟨rfl,_,rfl⟩:=hv
   simp only[Option.some.injEq,Addr.mk.injEq,and_true]at ha
   obtain⟨rfl,rfl⟩:=ha
   refine⟨_,gZ,by rw[hl],by rw[hl];exact Bc,.inr ⟨b,o+p,cs,rfl,hm,?_⟩⟩
   rw[hl,← List.drop_drop]
   have h3:=congrArg (fun l=>(l.drop p).take k) ht
   simp only[List.drop_take,List.take_take]at h3
   rw[show min k (bs.length-p)=k by omega]at h3
   rw[h3]
   simp only[bV,List.map_drop,List.map_take]
theorem lr.cut{M:fW}{a:Option Addr}{n cap:Nat}{bs:List UInt8}(h:lr M (.slice a n cap) bs)(p k:Nat)(K2:p+k≤bs.length):lr M (.slice (sliceAt a cap p 1) k (cap-p)) ((bs.drop p).take k):=by
 obtain⟨a',gZ,hv,hc,h0⟩:=h
 simp only[Value.slice.injEq]at hv
 obtain⟨rfl,hn,rfl⟩:=hv
 by_cases hk:k=0
 ·grind [lr.nil]
 ·rcases h0 with h0|⟨b,o,cs,rfl,hm,ht⟩
  ·grind
  ·have e:sliceAt (Option.some ⟨b,o,none⟩) cap p 1=Option.some ⟨b,o+p,none⟩:=by
    grind [sliceAt,Addr.add_eq]
   rw[e]
   exact lr.piece (o:=o) (n:=bs.length) (cap:=cap) ⟨_,_,rfl,hc,.inr ⟨b,o,cs,rfl,hm,ht⟩⟩ _ _ p k K2 (fun _=>rfl) ag
def aU{α:Type}(g:α→HP)(l:List α):HP:=Sep (l.map g)
def iB{α:Type}(g:α→HP){l:List α}{i:Nat}{x:α}(hi:l[i]?=Option.some x)(H:List HP):ak (aU g l::H) (g x::aU g (l.eraseIdx i)::H):=fun h hs=>by
 refine⟨h,sub.refl h,lD (gj (fun h hs=>?_) (fun _ h=>h) hs)⟩
 have h1:(l.map g)[i]?=Option.some (g x):=by simp[hi]
 have h2:=vm (dA h1) h hs
 rw[← nZ]at h2
 exact h2
def qm{α:Type}(g:α→HP){l:List α}{i:Nat}{x:α}(hi:l[i]?=Option.some x)(H:List HP):ak (g x::aU g (l.eraseIdx i)::H) (aU g l::H):=fun h hs=>by
 refine⟨h,sub.refl h,gj (fun h hs=>?_) (fun _ h=>h) (k9 hs)⟩
 have h1:(l.map g)[i]?=Option.some (g x):=by simp[hi]
 refine vm (dA h1).symm h ?_
 rw[← nZ]
 exact hs
theorem oq{α:Type}(g:α→HP){l:List α}{i:Nat}{x y:α}(hi:l[i]?=Option.some x)(H:List HP):ak (g y::aU g (l.eraseIdx i)::H) (aU g (l.set i y)::H):=by
 have dJ:i<l.length:=by
  grind
 have h1:(l.set i y)[i]?=Option.some y:=by simp[dJ]
 have h2:=qm g h1 H
 have h3:(l.set i y).eraseIdx i=l.eraseIdx i:=by
  grind
 rw[h3]at h2
 exact h2
def rq{α:Type}(g:α→HP)(x:α)(l:List α)(H:List HP):ak (g x::aU g l::H) (aU g (x::l)::H):=fun h hs=>⟨h,sub.refl h,k9 hs⟩
def BP{α:Type}{g:α→HP}{l:List α}{x:α}(hx:x∈l){h:Hp}(hs:aU g l h):∃h',sub h' h∧g x h':=D9 (List.mem_map.2 ⟨x,hx,rfl⟩) hs
def Ay(e:TypeId)(H:List HP):ak H (bh e []::H):=ak.pS H
def BO{α:Type}(g:α→HP)(H:List HP):ak H (aU g []::H):=ak.pS H
structure Ab where
 room:Nat
 fs:List (Nat × List UInt8 × List UInt8)
 names:List (ByteArray × Nat)
 aj:List (List (ByteArray × Nat))
 writes:List (Nat × Nat × List UInt8)
 ec:List UInt8
 off:Bool
namespace Ab
def meet(A:Ab)(may:Bool):Nat × Ab :=
 if may=false then(1,A)else if A.off=true then(7,A)else match A.ec with
 | []=>(0,A)
 | x::p=>if x=1 then(6,{ A with ec:=p })else if x=2 then(7,{ A with ec:=p,off:=true })else(0,{ A with ec:=p })
def bC(l:List (ByteArray × Nat))(name:ByteArray):Option Nat:=(l.find? fun x=>decide (x.1=name)).map (·.2)
def look(A:Ab)(name:ByteArray):Option Nat:=bC A.names name
def file(A:Ab)(f:Nat):List UInt8 × List UInt8:=((A.fs.find? fun x=>decide (x.1=f)).map (·.2)).getD ([],[])
def now(A:Ab)(f:Nat):List UInt8:=(A.file f).1
def sure(A:Ab)(f:Nat):List UInt8:=(A.file f).2
def find(A:Ab)(name:ByteArray)(may:Bool):Nat × Option Nat × Ab :=
 if(A.meet may).1=0 then match (A.meet may).2.look name with
  | none=>(4,none,(A.meet may).2)
  | some f=>(0,some f,(A.meet may).2)
 else((A.meet may).1,none,(A.meet may).2)
def used(A:Ab):Nat:=(A.names.map fun x=>(A.now x.2).length).sum
def new(room:Nat):Ab:=⟨room,[],[],[[]],[],[],false⟩
def jT(l:List (ByteArray × Nat))(k:ByteArray)(f:Nat):List (ByteArray × Nat):=if(bC l k).isSome then l.map (fun x=>if x.1=k then(k,f)else x)else l++[(k,f)]
def ef(l:List (ByteArray × Nat))(k:ByteArray):List (ByteArray × Nat):=l.filter fun x => !decide (x.1=k)
def n7(A:Ab)(nm:List (ByteArray × Nat)):Ab:={ A with names:=nm,aj:=A.aj++[nm] }
def create(A:Ab)(ok:Bool)(name:ByteArray)(f:Nat):Nat × Ab :=
 if(A.meet ok).1=0 then
  if((A.meet ok).2.look name).isSome then(5,(A.meet ok).2)
  else if 200≤(A.meet ok).2.names.length then(3,(A.meet ok).2)
  else(0,{ (A.meet ok).2.n7 ((A.meet ok).2.names++[(name,f)])with fs:=(f,[],[])::(A.meet ok).2.fs })
 else((A.meet ok).1,(A.meet ok).2)
def remove(A:Ab)(ok:Bool)(name:ByteArray):Nat × Ab:=match A.find name ok with
 | (0,some _,A1)=>(0,A1.n7 (ef A1.names name))
 | (e,_,A1)=>(e,A1)
def rename(A:Ab)(ok:Bool)(old name:ByteArray):Nat × Ab:=match A.find old ok with
 | (0,some f,A1)=>(0,A1.n7 (jT (ef A1.names old) name f))
 | (e,_,A1)=>(e,A1)
def BI(fs:List (Nat × List UInt8 × List UInt8))(f:Nat)(n:List UInt8):List (Nat × List UInt8 × List UInt8):=fs.map fun x=>if x.1=f then(x.1,n,x.2.2)else x
def write(A:Ab)(ok:Bool)(name:ByteArray)(at_:Nat)(b:List UInt8):Nat × Ab :=
 if(A.find name ok).1=0 then match (A.find name ok).2.1 with
  | some f=>if(A.find name ok).2.2.room<(A.find name ok).2.2.used+(at_+b.length-((A.find name ok).2.2.now f).length)then(3,(A.find name ok).2.2)
   else(0,{ (A.find name ok).2.2 with fs:=BI (A.find name ok).2.2.fs f (bJ ((A.find name ok).2.2.now f) at_ b),writes:=(A.find name ok).2.2.writes++[(f,at_,b)] })
  | none=>(0,(A.find name ok).2.2)
 else((A.find name ok).1,(A.find name ok).2.2)
def size(A:Ab)(name:ByteArray):Nat × Nat:=match A.look name with
 | none=>(0,4)
 | some f=>((A.now f).length,0)
def read(A:Ab)(name:ByteArray)(at_ n:Int):List UInt8 × Nat :=
 if A.off=true then([],7)else match A.look name with
  | none=>([],4)
  | some f=>if at_<0∨n<0∨((A.now f).length:Int)<at_∨((A.now f).length:Int)-at_<n then([],1)else(((A.now f).drop at_.toNat).take n.toNat,0)
def cp(A:Ab):Nat × Ab:=if(A.meet true).1=0 then(0,{ (A.meet true).2 with aj:=[(A.meet true).2.names] })else((A.meet true).1,(A.meet true).2)
def nV(fs:List (Nat × List UInt8 × List UInt8))(f:Nat):List (Nat × List UInt8 × List UInt8):=fs.map fun x=>if x.1=f then(x.1,x.2.1,x.2.1)else x
def sync(A:Ab)(ok:Bool)(name:ByteArray):Nat × Ab :=
 if(A.find name ok).1=0 then match (A.find name ok).2.1 with
  | some f=>(0,{ (A.find name ok).2.2 with fs:=nV (A.find name ok).2.2.fs f,writes:=(A.find name ok).2.2.writes.filter fun x => !decide (x.1=f) })
  | none=>(0,(A.find name ok).2.2)
 else((A.find name ok).1,(A.find name ok).2.2)
def kept(stay:List UInt8)(cq cut:Int)(i:Nat)(b:List UInt8):Option (List UInt8) :=
 if(i:Int)=cq then(let c:=b.take (max 0 (min cut b.length)).toNat;if c=[]then none else some c)
 else if(i/8<stay.length∧((stay.getD (i/8) 0).toNat/2 ^ (i%8))%2=1)then some b else none
def lu(fs:List (Nat × List UInt8 × List UInt8))(f:Nat)(s:List UInt8):List (Nat × List UInt8 × List UInt8):=fs.map fun x=>if x.1=f then(x.1,x.2.1,s)else x
def jJ(stay:List UInt8)(cq cut:Int):Nat→List (Nat × Nat × List UInt8)→List (Nat × List UInt8 × List UInt8)→List (Nat × List UInt8 × List UInt8)
 | _,[],fs=>fs
 | i,w::ws,fs=>match kept stay cq cut i w.2.2 with
  | none=>jJ stay cq cut (i+1) ws fs
  | some c=>jJ stay cq cut (i+1) ws (lu fs w.1 (bJ (((fs.find? fun x=>decide (x.1=w.1)).map (·.2)).getD ([],[])).2 w.2.1 c))
def reach(ly:List (List (ByteArray × Nat))):List Nat:=ly.flatMap fun st=>st.map (·.2)
def dZ(A:Ab)(last:Int)(stay:List UInt8)(cq cut:Int):Ab :=
 let nm:=A.aj.getD (max 0 (min last (A.aj.length-1))).toNat []
 let fs:=jJ stay cq cut 0 A.writes A.fs
 { A with names:=nm,aj:=[nm],writes:=[],ec:=[],off:=false,fs:=fs.map fun x=>if x.1∈reach (A.aj++[nm])then(x.1,x.2.2,x.2.2)else x }
end Ab
section
variable{P:Program}{U:Tr}[hU:gq P U]{f:FuncId}{n:Nat}{R:Ending→World→Prop}{G:cQ}{k:List Item}{L:fY}{H H':List HP}{S:World→Prop}{all:Array Oper}{rest:Pl}{ty:TypeId}{pos:String}{af:Array Edge}{gd:Option (Nat × Bool)}{m:Bool}{d:Tmp}
theorem yI(z:Value)(q:Nat):(Builtin.zeroCells z.cells q).toList=(List.replicate q (bu z)).flatten:=by
 have kP:z.cells.size=(bu z).length:=by rw[ei];simp
 unfold Builtin.zeroCells
 simp only[Array.toList_map,Array.toList_range,kP]
 rw[ei]
 induction q with
 | zero=>simp
 | succ q ih =>
  rw[List.replicate_succ',List.flatten_append,← ih,Nat.succ_mul,List.range_add,List.map_append]
  congr 1
  simp only[List.map_map,List.flatten_cons,List.flatten_nil,List.append_nil]
  apply List.ext_getElem?
  intro j
  by_cases hj:j<(bu z).length
  ·simp only[List.getElem?_map,List.getElem?_range hj,Option.map_some,Function.comp]
   rw[Nat.mul_comm,Nat.mul_add_mod,Nat.mod_eq_of_lt hj]
   simp[hj]
  grind
theorem Fc{t t2 elem rty:TypeId}{bY HY te:Ty}{z:Value}{a0:Option Addr}{kk cap mm:Nat}{q:IntKind}{cs:List Value}{A:HP}{w:World}(i:Nat)(ht:U.get t=some bY)(hu:bY.gH = .slice elem)(h2:U.get t2=some HY)(Uk:HY.gH = .int q)(he:U.get elem=some te)(hz:te.info.zero=some z)(OP:(bu z).length=te.info.size)(iY:0<te.info.size)(hw:Sat G w H)(hi:cM H i=some A)(hv:Vw A (.slice a0 kk cap) kk cs)(hl:cs.length=kk*te.info.size)(OY:cap<kk+mm)(Cj:0<mm)(Na:kk+mm≤9223372036854775807)(hmm:mm*te.info.bytes≤140737488355328)(qF:(kk+mm)*te.info.bytes≤140737488355328) :
  (Builtin.append_ #[t,t2] rty #[.slice a0 kk cap,.int .i64 (mm:Int)]).run P w = .ok (.slice (some ⟨w.heap.size,0,none⟩) (kk+mm) (grownCap w (kk+mm) cap elem))
   (w.drew.alloc (cl (cs++(List.replicate mm (bu z)).flatten++(Builtin.zeroCells z.cells (grownCap w (kk+mm) cap elem-(kk+mm))).toList) elem)):=by
 have wo:∀ {w:World},(underlying t2).run P w = .ok HY.gH w:=fun {w}=>run_underlying h2 w
 have hnz:(HY.gH matches .int _)=true:=by rw[Uk]
 have DH:¬kk+mm≤cap:=by omega
 have hgs:=growslice_fits (need:=kk+mm) (old:=cap) (bytes:=te.info.bytes) ag qF
 have Gl:=ot (P:=P) (G:=G) (w:=w.drew) hv (hw.draw _) hi hl
 have Je:¬((9223372036854775807:Int)<(kk:Int)+(mm:Int)):=by omega
 have ZT:¬281474976710656<Builtin.nextslicecap (kk+mm) cap*te.info.bytes:=by omega
 have uI:IntKind.i64.wrap (mm:Int)=mm:=cV (by simp only[gy];omega)
 have aeL:¬((mm:Int)<0):=by omega
 have tC:¬((281474976710656:Int)<(mm:Int)*(te.info.bytes:Int)):=by
  grind
 have df:¬(mm*te.info.size=0):=Nat.ne_of_gt (Nat.mul_pos Cj iY)
 have hzc:=yI z mm
 simp[Builtin.append_,run_underlying ht,hu,run_sizeOf he,wo,hnz,asInt,asIntOf,uI,aeL,tC,DH,Je,ZT,Question.forced,run_typeInfo he,dX he hz,newRow,Gl,grownCap,cl,df,Uk]
 congr 2
 apply Array.ext'
 simp[hzc]
theorem Ow{x y:Operand}{t t2 elem:TypeId}{bY HY te:Ty}{z:Value}{a0:Option Addr}{kk cap mm:Nat}{q:IntKind}{cs:List Value}{A:HP}(i:Nat)(hd:Nat.blt d n=true)(hx:ev L x=some (.slice a0 kk cap))(hy:ev L y=some (.int .i64 (mm:Int)))(ht:U.get t=some bY)(hu:bY.gH = .slice elem)(h2:U.get t2=some HY)(Uk:HY.gH = .int q)(he:U.get elem=some te)(hz:te.info.zero=some z)(OP:Nat.beq (bu z).length te.info.size=true)(iY:Nat.blt 0 te.info.size=true)(hi:cM H i=some A)(hv:Vw A (.slice a0 kk cap) kk cs)(hl:cs.length=kk*te.info.size)(OY:cap<kk+mm)(Cj:0<mm)(Na:kk+mm≤9223372036854775807)(hmm:mm*te.info.bytes≤140737488355328)(qF:(kk+mm)*te.info.bytes≤140737488355328)(hS:∀v' w,Sat G w (aF elem te.info.size v' (kk+mm) (cs++(List.replicate mm (bu z)).flatten)::H)→Sx rest S w)(h:∀v',J P f n R G S all rest k ((d,v')::L) (aF elem te.info.size v' (kk+mm) (cs++(List.replicate mm (bu z)).flatten)::H)) :
  J P f n R G S all (.cons false true ⟨some d,.call { callee := .builtin .append,args := #[x,y],argTypes := #[t,t2] },ty,pos,af,gd⟩ rest) k L H:=by
 refine oW hd (fun u H1=>H1=aF elem te.info.size u (kk+mm) (cs++(List.replicate mm (bu z)).flatten)::H) (fun a w ha hw=>?_) ?_ ?_
 ·have hr:=Fc (P:=P) (rty:=ty) i ht hu h2 Uk he hz (Nat.eq_of_beq_eq_true OP) (by simpa[Nat.blt_eq]using iY) hw hi hv hl OY Cj Na hmm qF
  refine⟨.slice (some ⟨w.heap.size,0,none⟩) (kk+mm) (grownCap w (kk+mm) cap elem),w.drew.alloc (cl (cs++(List.replicate mm (bu z)).flatten++(Builtin.zeroCells z.cells (grownCap w (kk+mm) cap elem-(kk+mm))).toList) elem),_,?_,rfl,?_⟩
  ·simp[execOp,resolve,invoke,builtin,ha.ev hx,ha.ev hy,hr]
  ·have h5:=Sat.alloc (w:=w.drew) (hw.draw _) (cl (cs++(List.replicate mm (bu z)).flatten++(Builtin.zeroCells z.cells (grownCap w (kk+mm) cap elem-(kk+mm))).toList) elem)
   refine h5.cL (ak.fold (B:=[_]) fun h hs=>⟨h,sub.refl h,?_⟩)
   have fO:=grownCap_ge w (kk+mm) cap elem
   have Zd:(List.replicate mm (bu z)).flatten.length=mm*te.info.size:=by rw[mV,Nat.eq_of_beq_eq_true OP]
   refine⟨by simp only[List.length_append,hl,Zd,Nat.add_mul],.inr ⟨w.heap.size,0,_,[],_,rfl,rfl,fO,?_,by simpa using ez hs⟩⟩
   have h7:(Builtin.zeroCells z.cells (grownCap w (kk+mm) cap elem-(kk+mm))).size=(grownCap w (kk+mm) cap elem-(kk+mm))*te.info.size:=by rw[size_zeroCells,ei];simp[Nat.eq_of_beq_eq_true OP]
   rw[List.length_append,hl,Zd,Array.length_toList,h7,← Nat.add_mul,← Nat.add_mul]
   grind
 ·grind
 grind
def VW{x:Operand}{t:TypeId}{bY:Ty}{e:TypeId}{a0:Option Addr}{len cap:Nat}(hd:Nat.blt d n=true)(hx:ev L x=some (.slice a0 len cap))(ht:U.get t=some bY)(hu:bY.gH = .slice e)(h:J P f n R G S all rest k ((d,.int .i64 (cap:Int))::L) H):J P f n R G S all (.cons m true ⟨some d,.call { callee := .builtin .cap,args := #[x],argTypes := #[t] },ty,pos,af,gd⟩ rest) k L H:=by
 refine dF hd (fun a ha w=>?_) h
 simp[execOp,resolve,invoke,builtin,ha.ev hx,Builtin.cap_,run_underlying ht,hu,goInt]
end
end Go.SL
namespace Go.SL
theorem Vw.front{A:HP}{b o n cap:Nat}{cs:List Value}(h:Vw A (.slice (Option.some ⟨b,o,none⟩) n cap) n cs)(i gZ q:Nat):Vw A (.slice (Option.some ⟨b,o,none⟩) i gZ) i (cs.take q):=by
 obtain⟨a,pM,hv,h0|⟨b',o',ha,hc⟩⟩:=h
 ·subst h0;exact⟨_,gZ,rfl,.inl (by simp)⟩
 ·simp only[Value.slice.injEq,true_and]at hv
  obtain⟨rfl,_⟩:=hv
  simp only[Option.some.injEq,Addr.mk.injEq,and_true]at ha
  obtain⟨rfl,rfl⟩:=ha
  refine⟨_,gZ,rfl,.inr ⟨b,o,rfl,fun h hA j c hj=>?_⟩⟩
  grind
theorem Vw.back{A:HP}{b o n cap:Nat}{cs:List Value}(h:Vw A (.slice (Option.some ⟨b,o,none⟩) n cap) n cs)(i gZ q:Nat):Vw A (.slice (Option.some ⟨b,o+q,none⟩) i gZ) i (cs.drop q):=by
 obtain⟨a,pM,hv,h0|⟨b',o',ha,hc⟩⟩:=h
 ·subst h0;exact⟨_,gZ,rfl,.inl (by simp)⟩
 ·simp only[Value.slice.injEq,true_and]at hv
  obtain⟨rfl,_⟩:=hv
  simp only[Option.some.injEq,Addr.mk.injEq,and_true]at ha
  obtain⟨rfl,rfl⟩:=ha
  refine⟨_,gZ,rfl,.inr ⟨b,o+q,rfl,fun h hA j c hj=>?_⟩⟩
  grind
theorem uh(b o cap p sz:Nat)(h:p≠cap):sliceAt (some ⟨b,o,none⟩) cap p sz=some ⟨b,o+p*sz,none⟩:=by
 grind [sliceAt,Addr.add_eq]
section
variable{P:Program}{U:Tr}[hU:gq P U]{f:FuncId}{n:Nat}{R:Ending→World→Prop}{G:cQ}{k:List Item}{L:fY}{H H':List HP}{S:World→Prop}{all:Array Oper}{rest:Pl}{ty:TypeId}{pos:String}{af:Array Edge}{gd:Option (Nat × Bool)}{m:Bool}{d:Tmp}
def aax{e:TypeId}{sz nn:Nat}{v:Value}{cs:List Value}(i:Nat)(hi:cM H i=some (aF e sz v nn cs))(h0:0<nn)(h:∀b o c,v = .slice (some ⟨b,o,none⟩) nn c→nn≤c→cs.length=nn*sz→Vw (aF e sz v nn cs) v nn cs→K P f n R G k L H):K P f n R G k L H :=
 sK fun⟨w,hw⟩=>by
  obtain⟨h1,_,hA⟩:=hw.lN hi
  have hv:=Vw.pz e sz v nn cs ⟨h1,hA⟩
  obtain⟨hl,⟨a,rfl,rfl,_⟩|⟨b,o,cap,pre,cf,rfl,_,hc,_⟩⟩:=hA
  ·omega
  ·exact h _ _ _ rfl hc hl hv
def L7{e:TypeId}{b o c nn sz:Nat}{cs:List Value}(h0:0<nn):∀h,aF e sz (.slice (some ⟨b,o,none⟩) nn c) nn cs h→∃x:List Value × List Value,(x.1.length=o∧nn≤c∧c*sz≤cs.length+x.2.length∧cs.length=nn*sz)∧Sep [ae b (cl (x.1++cs++x.2) e)] h:=by
 rintro h⟨hl,⟨a,hv,rfl,he⟩|⟨b',o',cap,pre,cf,hv,hp,hn,hc,wD⟩⟩
 ·omega
 ·simp only[Value.slice.injEq,Option.some.injEq,Addr.mk.injEq,and_true,true_and]at hv
  obtain⟨⟨rfl,rfl⟩,rfl⟩:=hv
  exact⟨(pre,cf),⟨hp,hn,hc,hl⟩,gu wD⟩
theorem je(b o cap sz:Nat):sliceAt (some ⟨b,o,none⟩) cap 0 sz=some ⟨b,o,none⟩:=by
 grind [sliceAt,Addr.add_eq]
theorem LL{x y:Operand}{t t2 elem:TypeId}{bY te:Ty}{v2:Value}{b o dl dc mm:Nat}{l src l':List Value}{e:TypeId}{A:HP}(i j:Nat)(hd:Nat.blt d n=true)(hx:ev L x=some (.slice (some ⟨b,o,none⟩) dl dc))(hy:ev L y=some v2)(ht:U.get t=some bY)(hu:bY.gH = .slice elem)(he:U.get elem=some te)(hi:cM H i=some (ae b (cl l e)))(hj:cM H j=some A)(wx:Vw A v2 mm src)(mT:src.length=mm*te.info.size)(fq:∀u∈src.take (min mm dl*te.info.size),u.oneCell'=true)(Bq:o+(min mm dl)*te.info.size≤l.length)(Q4:l'=l.take o++src.take (min mm dl*te.info.size)++l.drop (o+min mm dl*te.info.size))(hp:l7 i (ae b (cl l' e)) H [] = .mk H')(hS:∀w,Sat G w H'→Sx rest S w)(h:J P f n R G S all rest k ((d,.int .i64 (min mm dl:Nat))::L) H') :
  J P f n R G S all (.cons false true ⟨some d,.call { callee := .builtin .copy,args := #[x,y],argTypes := #[t,t2] },ty,pos,af,gd⟩ rest) k L H:=by
 refine oW hd (fun u H1=>u = .int .i64 (min mm dl:Nat)∧H1=H') (fun a w ha hw=>?_) ?_ ?_
 ·have hf:=zd (P:=P) (q:=min mm dl) wx hw hj mT (Nat.min_le_left _ _)
  obtain⟨a2,c2,Tz,_⟩:=wx
  subst Tz
  have h3:(src.take (min mm dl*te.info.size)).length=min mm dl*te.info.size:=by rw[List.length_take,mT];exact Nat.min_eq_left (Nat.mul_le_mul_right _ (Nat.min_le_left _ _))
  have bP:=gM (P:=P) (src.take (min mm dl*te.info.size)) 0 o l w (hw.uV hi) (by rw[h3];simpa using Bq) fq
  simp only[Nat.add_zero,h3,← Q4]at bP
  refine⟨_,_,H',?_,⟨rfl,rfl⟩,hw.put hi hp⟩
  simp only[execOp,resolve,invoke,builtin,Sem.run_bind,Sem.run_pure,Result.andThen_ok,List.map_toArray,List.map_cons,List.map_nil,ha.ev hx,ha.ev hy,Builtin.copy_,List.getElem?_toArray,List.getElem?_cons_zero,List.getElem?_cons_succ,
   run_underlying ht,hu,Builtin.lenOf,run_sizeOf he]
  rw[show Nat.min mm dl=min mm dl from rfl]
  simp only[hf,Result.andThen_ok,bP,goInt]
 ·grind
 grind
end
end Go.SL
namespace Go.SL
def Vw.afu{A:HP}{a:Option Addr}{n cap s:Nat}{cs:List Value}(h:Vw A (.slice a n cap) n cs)(k:Nat):Vw A (.slice (sliceAt a cap 0 s) k cap) k (cs.take (k*s)):=by
 have h':=h
 obtain⟨a',pM,hv,h0|⟨b',o',ha,hc⟩⟩:=h
 ·subst h0;exact⟨_,cap,rfl,.inl (by simp)⟩
 ·simp only[Value.slice.injEq,true_and]at hv
  obtain⟨rfl,_⟩:=hv
  subst ha
  rw[je]
  exact h'.front k cap (k*s)
def Vw.Rs{A:HP}{a:Option Addr}{n cap s:Nat}{cs:List Value}(h:Vw A (.slice a n cap) n cs)(hl:cs.length=n*s)(hn:n≤cap)(k:Nat)(hk:k≤n):Vw A (.slice (sliceAt a cap k s) (n-k) (cap-k)) (n-k) (cs.drop (k*s)):=by
 have h':=h
 obtain⟨a',pM,hv,h0|⟨b',o',ha,hc⟩⟩:=h
 ·subst h0;exact⟨_,_,rfl,.inl (by simp)⟩
 ·simp only[Value.slice.injEq,true_and]at hv
  obtain⟨rfl,_⟩:=hv
  subst ha
  by_cases Jg:k=cap
  ·have:cs.drop (k*s)=[]:=List.eq_nil_of_length_eq_zero (by rw[List.length_drop,hl,Jg,show n=cap from by omega];omega)
   rw[this];exact⟨_,_,rfl,.inl rfl⟩
  ·rw[uh _ _ _ _ _ Jg]
   exact h'.back (n-k) (cap-k) (k*s)
section
variable{P:Program}{U:Tr}[hU:gq P U]{f:FuncId}{n:Nat}{R:Ending→World→Prop}{G:cQ}{k:List Item}{L:fY}{H H':List HP}{S:World→Prop}{all:Array Oper}{rest:Pl}{ty:TypeId}{pos:String}{af:Array Edge}{gd:Option (Nat × Bool)}{m:Bool}{d:Tmp}
theorem Hu{t:TypeId}{x y:Operand}{b o q off c nn sz:Nat}{bY:Ty}{u:Value}{e:TypeId}{cs:List Value}(i:Nat)(hS:∀w,Sat G w H'→Sx rest S w)(hx:ev L x=some (.pointer (some ⟨b,off,none⟩)))(iw:off=o+q)(hy:ev L y=some u)(ht:U.get t=some bY)(iY:Nat.beq bY.info.size 1=true)(hc:bu u=[u])(fq:iV [u]=true)(hi:cM H i=some (aF e sz (.slice (some ⟨b,o,none⟩) nn c) nn cs))(h0:0<nn)(hq:q<nn*sz)(hp:l7 i (aF e sz (.slice (some ⟨b,o,none⟩) nn c) nn (cs.set q u)) H [] = .mk H')(h:J P f n R G S all rest k L H'):J P f n R G S all (.cons false true ⟨none,.store t x y,ty,pos,af,gd⟩ rest) k L H:=by
 subst iw
 refine aJ (ak.perm (dA (by rw[← ed];exact hi))) ?_
 refine Ej (B:=fun x:List Value × List Value=>[ae b (cl (x.1++cs++x.2) e)]) (fun h hs=>L7 h0 h hs) ?_
 rintro⟨pre,cf⟩⟨h1,h2,h3,h4⟩
 simp only at h1 h2 h3 h4
 have jA:(pre++cs++cf).set (o+q) u=pre++cs.set q u++cf:=by
  grind
 have hE:ak (ae b (cl (pre++cs.set q u++cf) e)::H.eraseIdx i) H':=by
  have h5:=px i _ _ H [] H' hp hi
  exact(mK h1 h2 (by rw[List.length_set];exact h3) (by rw[List.length_set];exact h4) _).trans (ak.perm (by simpa using h5.symm))
 refine fj (U:=U) (l':=pre++cs.set q u++cf) 0 (fun w hw=>hS w (hw.cL hE)) hx hy ht (by rw[hc,Nat.eq_of_beq_eq_true iY];rfl) (by rw[hc];rfl) (by rw[hc];exact fq) rfl ?_ rfl (aJ hE h)
 grind [KA]
end
end Go.SL
namespace Go.Proofs.YthnfckodljbgbaaGreatDoor
open Go.SL
def TP(i:TypeId)(a b:TypeInfo):Prop:=Tryz.prog.underlying i=some a.desc∧Tryz.prog.info? i=some b
def adZ:TP 1 Tryz.t1 Tryz.t1:=⟨aq,aq⟩
def adY:TP 2 Tryz.t2 Tryz.t2:=⟨aq,aq⟩
def adX:TP 3 Tryz.t3 Tryz.t3:=⟨aq,aq⟩
def adW:TP 4 Tryz.t4 Tryz.t4:=⟨aq,aq⟩
def adV:TP 5 Tryz.t5 Tryz.t5:=⟨aq,aq⟩
def adU:TP 6 Tryz.t5 Tryz.t6:=⟨aq,aq⟩
def adT:TP 7 Tryz.t7 Tryz.t7:=⟨aq,aq⟩
def adS:TP 8 Tryz.t7 Tryz.t8:=⟨aq,aq⟩
def adR:TP 9 Tryz.t9 Tryz.t9:=⟨aq,aq⟩
def ab4:TP 10 Tryz.t9 Tryz.t10:=⟨aq,aq⟩
def ab3:TP 11 Tryz.t9 Tryz.t11:=⟨aq,aq⟩
def ab2:TP 12 Tryz.t12 Tryz.t12:=⟨aq,aq⟩
def ab1:TP 13 Tryz.t13 Tryz.t13:=⟨aq,aq⟩
def ab0:TP 14 Tryz.t13 Tryz.t14:=⟨aq,aq⟩
def abZ:TP 15 Tryz.t15 Tryz.t15:=⟨aq,aq⟩
def abY:TP 16 Tryz.t16 Tryz.t16:=⟨aq,aq⟩
def abX:TP 17 Tryz.t17 Tryz.t17:=⟨aq,aq⟩
def abW:TP 18 Tryz.t18 Tryz.t18:=⟨aq,aq⟩
def abV:TP 19 Tryz.t18 Tryz.t19:=⟨aq,aq⟩
def abU:TP 20 Tryz.t20 Tryz.t20:=⟨aq,aq⟩
def abT:TP 21 Tryz.t21 Tryz.t21:=⟨aq,aq⟩
def abS:TP 22 Tryz.t22 Tryz.t22:=⟨aq,aq⟩
def abR:TP 23 Tryz.t23 Tryz.t23:=⟨aq,aq⟩
def abQ:TP 24 Tryz.t24 Tryz.t24:=⟨aq,aq⟩
def abP:TP 25 Tryz.t25 Tryz.t25:=⟨aq,aq⟩
def abO:TP 26 Tryz.t3 Tryz.t26:=⟨aq,aq⟩
def abN:TP 28 Tryz.t28 Tryz.t28:=⟨aq,aq⟩
def abM:TP 29 Tryz.t29 Tryz.t29:=⟨aq,aq⟩
def abL:TP 30 Tryz.t30 Tryz.t30:=⟨aq,aq⟩
def abK:TP 31 Tryz.t31 Tryz.t31:=⟨aq,aq⟩
def abJ:TP 32 Tryz.t32 Tryz.t32:=⟨aq,aq⟩
def abI:TP 33 Tryz.t32 Tryz.t33:=⟨aq,aq⟩
def abH:TP 34 Tryz.t34 Tryz.t34:=⟨aq,aq⟩
def abG:TP 35 Tryz.t35 Tryz.t35:=⟨aq,aq⟩
def abF:TP 36 Tryz.t36 Tryz.t36:=⟨aq,aq⟩
def abE:TP 37 Tryz.t36 Tryz.t37:=⟨aq,aq⟩
def abD:TP 38 Tryz.t38 Tryz.t38:=⟨aq,aq⟩
def abC:TP 39 Tryz.t38 Tryz.t39:=⟨aq,aq⟩
def abB:TP 40 Tryz.t40 Tryz.t40:=⟨aq,aq⟩
def abA:TP 41 Tryz.t41 Tryz.t41:=⟨aq,aq⟩
def abz:TP 43 Tryz.t43 Tryz.t43:=⟨aq,aq⟩
def aby:TP 44 Tryz.t44 Tryz.t44:=⟨aq,aq⟩
def abx:TP 45 Tryz.t44 Tryz.t45:=⟨aq,aq⟩
def abw:TP 46 Tryz.t46 Tryz.t46:=⟨aq,aq⟩
def abv:TP 47 Tryz.t47 Tryz.t47:=⟨aq,aq⟩
def abu:TP 48 Tryz.t48 Tryz.t48:=⟨aq,aq⟩
def abt:TP 49 Tryz.t49 Tryz.t49:=⟨aq,aq⟩
def abr:TP 50 Tryz.t50 Tryz.t50:=⟨aq,aq⟩
def abq:TP 51 Tryz.t51 Tryz.t51:=⟨aq,aq⟩
def abp:TP 53 Tryz.t53 Tryz.t53:=⟨aq,aq⟩
def abo:TP 55 Tryz.t55 Tryz.t55:=⟨aq,aq⟩
def abn:TP 56 Tryz.t56 Tryz.t56:=⟨aq,aq⟩
def abm:TP 57 Tryz.t56 Tryz.t57:=⟨aq,aq⟩
def abl:TP 58 Tryz.t58 Tryz.t58:=⟨aq,aq⟩
def abk:TP 59 Tryz.t59 Tryz.t59:=⟨aq,aq⟩
def abj:TP 60 Tryz.t60 Tryz.t60:=⟨aq,aq⟩
def abi:TP 61 Tryz.t60 Tryz.t61:=⟨aq,aq⟩
def abh:TP 63 Tryz.t63 Tryz.t63:=⟨aq,aq⟩
def abg:TP 65 Tryz.t65 Tryz.t65:=⟨aq,aq⟩
def abf:TP 67 Tryz.t67 Tryz.t67:=⟨aq,aq⟩
def abe:TP 69 Tryz.t69 Tryz.t69:=⟨aq,aq⟩
def abd:TP 70 Tryz.t70 Tryz.t70:=⟨aq,aq⟩
def abc:TP 71 Tryz.t71 Tryz.t71:=⟨aq,aq⟩
def abb:TP 72 Tryz.t72 Tryz.t72:=⟨aq,aq⟩
def aba:TP 73 Tryz.t73 Tryz.t73:=⟨aq,aq⟩
def aa':TP 74 Tryz.t73 Tryz.t74:=⟨aq,aq⟩
def aa9:TP 75 Tryz.t75 Tryz.t75:=⟨aq,aq⟩
def aa8:TP 76 Tryz.t76 Tryz.t76:=⟨aq,aq⟩
def aa7:TP 77 Tryz.t77 Tryz.t77:=⟨aq,aq⟩
def aa6:TP 78 Tryz.t78 Tryz.t78:=⟨aq,aq⟩
def aa5:TP 79 Tryz.t79 Tryz.t79:=⟨aq,aq⟩
def aa4:TP 80 Tryz.t79 Tryz.t80:=⟨aq,aq⟩
def aa3:TP 81 Tryz.t81 Tryz.t81:=⟨aq,aq⟩
def aa2:TP 82 Tryz.t82 Tryz.t82:=⟨aq,aq⟩
def aa1:TP 83 Tryz.t83 Tryz.t83:=⟨aq,aq⟩
def aa0:TP 84 Tryz.t84 Tryz.t84:=⟨aq,aq⟩
def aaZ:TP 85 Tryz.t85 Tryz.t85:=⟨aq,aq⟩
def aaY:TP 86 Tryz.t86 Tryz.t86:=⟨aq,aq⟩
def aaX:TP 87 Tryz.t87 Tryz.t87:=⟨aq,aq⟩
def aaW:TP 88 Tryz.t88 Tryz.t88:=⟨aq,aq⟩
def aaV:TP 89 Tryz.t89 Tryz.t89:=⟨aq,aq⟩
def aaU:TP 90 Tryz.t90 Tryz.t90:=⟨aq,aq⟩
def aaT:TP 91 Tryz.t91 Tryz.t91:=⟨aq,aq⟩
def aaS:TP 92 Tryz.t92 Tryz.t92:=⟨aq,aq⟩
def aaR:TP 93 Tryz.t93 Tryz.t93:=⟨aq,aq⟩
def aaQ:TP 94 Tryz.t94 Tryz.t94:=⟨aq,aq⟩
def aaP:TP 95 Tryz.t95 Tryz.t95:=⟨aq,aq⟩
def aaO:TP 96 Tryz.t96 Tryz.t96:=⟨aq,aq⟩
def aaN:TP 97 Tryz.t96 Tryz.t97:=⟨aq,aq⟩
def aaM:TP 98 Tryz.t98 Tryz.t98:=⟨aq,aq⟩
def aaL:TP 99 Tryz.t99 Tryz.t99:=⟨aq,aq⟩
def YW:TP 100 Tryz.t100 Tryz.t100:=⟨aq,aq⟩
def YV:TP 101 Tryz.t100 Tryz.t101:=⟨aq,aq⟩
def YU:TP 102 Tryz.t102 Tryz.t102:=⟨aq,aq⟩
def YT:TP 103 Tryz.t103 Tryz.t103:=⟨aq,aq⟩
def YS:TP 105 Tryz.t105 Tryz.t105:=⟨aq,aq⟩
def YR:TP 106 Tryz.t106 Tryz.t106:=⟨aq,aq⟩
def YQ:TP 108 Tryz.t108 Tryz.t108:=⟨aq,aq⟩
def YP:TP 109 Tryz.t109 Tryz.t109:=⟨aq,aq⟩
def YO:TP 110 Tryz.t110 Tryz.t110:=⟨aq,aq⟩
def YN:TP 111 Tryz.t111 Tryz.t111:=⟨aq,aq⟩
def YM:TP 112 Tryz.t112 Tryz.t112:=⟨aq,aq⟩
def YL:TP 113 Tryz.t112 Tryz.t113:=⟨aq,aq⟩
def YK:TP 114 Tryz.t114 Tryz.t114:=⟨aq,aq⟩
def YJ:TP 115 Tryz.t115 Tryz.t115:=⟨aq,aq⟩
def YI:TP 116 Tryz.t116 Tryz.t116:=⟨aq,aq⟩
def YH:TP 117 Tryz.t117 Tryz.t117:=⟨aq,aq⟩
def YG:TP 118 Tryz.t118 Tryz.t118:=⟨aq,aq⟩
def YF:TP 120 Tryz.t120 Tryz.t120:=⟨aq,aq⟩
def YE:TP 121 Tryz.t121 Tryz.t121:=⟨aq,aq⟩
def YD:TP 122 Tryz.t122 Tryz.t122:=⟨aq,aq⟩
def YC:TP 123 Tryz.t123 Tryz.t123:=⟨aq,aq⟩
def YB:TP 124 Tryz.t124 Tryz.t124:=⟨aq,aq⟩
def YA:TP 126 Tryz.t126 Tryz.t126:=⟨aq,aq⟩
def Yz:TP 127 Tryz.t127 Tryz.t127:=⟨aq,aq⟩
def Yy:TP 128 Tryz.t128 Tryz.t128:=⟨aq,aq⟩
def Yx:TP 129 Tryz.t129 Tryz.t129:=⟨aq,aq⟩
def Yw:TP 130 Tryz.t130 Tryz.t130:=⟨aq,aq⟩
def Yv:TP 131 Tryz.t131 Tryz.t131:=⟨aq,aq⟩
def Yu:TP 132 Tryz.t132 Tryz.t132:=⟨aq,aq⟩
def Yt:TP 133 Tryz.t133 Tryz.t133:=⟨aq,aq⟩
def Yr:TP 134 Tryz.t134 Tryz.t134:=⟨aq,aq⟩
def Yq:TP 135 Tryz.t135 Tryz.t135:=⟨aq,aq⟩
def Yp:TP 136 Tryz.t136 Tryz.t136:=⟨aq,aq⟩
def Yo:TP 137 Tryz.t136 Tryz.t137:=⟨aq,aq⟩
def Yn:TP 138 Tryz.t138 Tryz.t138:=⟨aq,aq⟩
def Ym:TP 139 Tryz.t139 Tryz.t139:=⟨aq,aq⟩
def Yl:TP 140 Tryz.t140 Tryz.t140:=⟨aq,aq⟩
def Yk:TP 141 Tryz.t141 Tryz.t141:=⟨aq,aq⟩
def Yj:TP 143 Tryz.t143 Tryz.t143:=⟨aq,aq⟩
def Yi:TP 144 Tryz.t144 Tryz.t144:=⟨aq,aq⟩
def Yh:TP 145 Tryz.t145 Tryz.t145:=⟨aq,aq⟩
def Yg:TP 146 Tryz.t146 Tryz.t146:=⟨aq,aq⟩
def Yf:TP 147 Tryz.t147 Tryz.t147:=⟨aq,aq⟩
def Ye:TP 149 Tryz.t149 Tryz.t149:=⟨aq,aq⟩
def Yd:TP 150 Tryz.t150 Tryz.t150:=⟨aq,aq⟩
def Yc:TP 151 Tryz.t151 Tryz.t151:=⟨aq,aq⟩
def Yb:TP 152 Tryz.t152 Tryz.t152:=⟨aq,aq⟩
def Ya:TP 153 Tryz.t153 Tryz.t153:=⟨aq,aq⟩
def X':TP 154 Tryz.t154 Tryz.t154:=⟨aq,aq⟩
def X9:TP 155 Tryz.t155 Tryz.t155:=⟨aq,aq⟩
def X8:TP 156 Tryz.t155 Tryz.t156:=⟨aq,aq⟩
def X7:TP 157 Tryz.t157 Tryz.t157:=⟨aq,aq⟩
def X6:TP 159 Tryz.t159 Tryz.t159:=⟨aq,aq⟩
def X5:TP 160 Tryz.t160 Tryz.t160:=⟨aq,aq⟩
def X4:TP 161 Tryz.t160 Tryz.t161:=⟨aq,aq⟩
def X3:TP 163 Tryz.t163 Tryz.t163:=⟨aq,aq⟩
def X2:TP 165 Tryz.t165 Tryz.t165:=⟨aq,aq⟩
def X1:TP 166 Tryz.t166 Tryz.t166:=⟨aq,aq⟩
def X0:TP 167 Tryz.t167 Tryz.t167:=⟨aq,aq⟩
def XZ:TP 168 Tryz.t168 Tryz.t168:=⟨aq,aq⟩
def XY:TP 169 Tryz.t169 Tryz.t169:=⟨aq,aq⟩
def XX:TP 170 Tryz.t170 Tryz.t170:=⟨aq,aq⟩
def XW:TP 171 Tryz.t170 Tryz.t171:=⟨aq,aq⟩
def XV:TP 172 Tryz.t172 Tryz.t172:=⟨aq,aq⟩
def XU:TP 173 Tryz.t173 Tryz.t173:=⟨aq,aq⟩
def XT:TP 174 Tryz.t173 Tryz.t174:=⟨aq,aq⟩
def XS:TP 176 Tryz.t176 Tryz.t176:=⟨aq,aq⟩
def XR:TP 178 Tryz.t178 Tryz.t178:=⟨aq,aq⟩
def XQ:TP 179 Tryz.t179 Tryz.t179:=⟨aq,aq⟩
def XP:TP 180 Tryz.t180 Tryz.t180:=⟨aq,aq⟩
def XO:TP 181 Tryz.t181 Tryz.t181:=⟨aq,aq⟩
def XN:TP 182 Tryz.t182 Tryz.t182:=⟨aq,aq⟩
def XM:TP 183 Tryz.t183 Tryz.t183:=⟨aq,aq⟩
def XL:TP 184 Tryz.t184 Tryz.t184:=⟨aq,aq⟩
def XK:TP 185 Tryz.t185 Tryz.t185:=⟨aq,aq⟩
def XJ:TP 186 Tryz.t186 Tryz.t186:=⟨aq,aq⟩
def XI:TP 188 Tryz.t188 Tryz.t188:=⟨aq,aq⟩
def XH:TP 189 Tryz.t189 Tryz.t189:=⟨aq,aq⟩
def XG:TP 190 Tryz.t190 Tryz.t190:=⟨aq,aq⟩
def XF:TP 191 Tryz.t191 Tryz.t191:=⟨aq,aq⟩
def XE:TP 192 Tryz.t191 Tryz.t192:=⟨aq,aq⟩
def XD:TP 193 Tryz.t193 Tryz.t193:=⟨aq,aq⟩
def XC:TP 194 Tryz.t194 Tryz.t194:=⟨aq,aq⟩
def XB:TP 195 Tryz.t195 Tryz.t195:=⟨aq,aq⟩
def XA:TP 196 Tryz.t196 Tryz.t196:=⟨aq,aq⟩
def Xz:TP 197 Tryz.t196 Tryz.t197:=⟨aq,aq⟩
def Xy:TP 198 Tryz.t198 Tryz.t198:=⟨aq,aq⟩
def Xx:TP 199 Tryz.t199 Tryz.t199:=⟨aq,aq⟩
def Xw:TP 201 Tryz.t201 Tryz.t201:=⟨aq,aq⟩
def Xv:TP 202 Tryz.t202 Tryz.t202:=⟨aq,aq⟩
def Xu:TP 203 Tryz.t203 Tryz.t203:=⟨aq,aq⟩
def Xt:TP 204 Tryz.t204 Tryz.t204:=⟨aq,aq⟩
def Xr:TP 205 Tryz.t205 Tryz.t205:=⟨aq,aq⟩
def Xq:TP 206 Tryz.t206 Tryz.t206:=⟨aq,aq⟩
def Xp:TP 207 Tryz.t207 Tryz.t207:=⟨aq,aq⟩
def Xo:TP 208 Tryz.t208 Tryz.t208:=⟨aq,aq⟩
def Xn:TP 209 Tryz.t209 Tryz.t209:=⟨aq,aq⟩
def Xm:TP 210 Tryz.t210 Tryz.t210:=⟨aq,aq⟩
def Xl:TP 211 Tryz.t211 Tryz.t211:=⟨aq,aq⟩
def Xk:TP 212 Tryz.t212 Tryz.t212:=⟨aq,aq⟩
def Xj:TP 213 Tryz.t213 Tryz.t213:=⟨aq,aq⟩
def Xi:TP 214 Tryz.t214 Tryz.t214:=⟨aq,aq⟩
def Xh:TP 215 Tryz.t215 Tryz.t215:=⟨aq,aq⟩
def Xg:TP 216 Tryz.t216 Tryz.t216:=⟨aq,aq⟩
def Xf:TP 217 Tryz.t151 Tryz.t217:=⟨aq,aq⟩
def Xe:TP 218 Tryz.t218 Tryz.t218:=⟨aq,aq⟩
def Xd:TP 220 Tryz.t220 Tryz.t220:=⟨aq,aq⟩
def Xc:TP 221 Tryz.t221 Tryz.t221:=⟨aq,aq⟩
def Xb:TP 222 Tryz.t222 Tryz.t222:=⟨aq,aq⟩
def Xa:TP 223 Tryz.t223 Tryz.t223:=⟨aq,aq⟩
def W9:TP 225 Tryz.t225 Tryz.t225:=⟨aq,aq⟩
def W8:TP 226 Tryz.t226 Tryz.t226:=⟨aq,aq⟩
def W7:TP 227 Tryz.t227 Tryz.t227:=⟨aq,aq⟩
def W6:TP 228 Tryz.t228 Tryz.t228:=⟨aq,aq⟩
def W5:TP 230 Tryz.t230 Tryz.t230:=⟨aq,aq⟩
def W4:TP 232 Tryz.t232 Tryz.t232:=⟨aq,aq⟩
def W3:TP 233 Tryz.t233 Tryz.t233:=⟨aq,aq⟩
def W2:TP 234 Tryz.t234 Tryz.t234:=⟨aq,aq⟩
def W1:TP 235 Tryz.t235 Tryz.t235:=⟨aq,aq⟩
def W0:TP 236 Tryz.t236 Tryz.t236:=⟨aq,aq⟩
def WZ:TP 237 Tryz.t237 Tryz.t237:=⟨aq,aq⟩
def WY:TP 238 Tryz.t238 Tryz.t238:=⟨aq,aq⟩
def WX:TP 239 Tryz.t239 Tryz.t239:=⟨aq,aq⟩
def WW:TP 240 Tryz.t240 Tryz.t240:=⟨aq,aq⟩
def WV:TP 241 Tryz.t241 Tryz.t241:=⟨aq,aq⟩
def WU:TP 242 Tryz.t242 Tryz.t242:=⟨aq,aq⟩
def WT:TP 244 Tryz.t244 Tryz.t244:=⟨aq,aq⟩
def WS:TP 245 Tryz.t245 Tryz.t245:=⟨aq,aq⟩
def WR:TP 246 Tryz.t246 Tryz.t246:=⟨aq,aq⟩
def WQ:TP 247 Tryz.t247 Tryz.t247:=⟨aq,aq⟩
def WO:TP 248 Tryz.t248 Tryz.t248:=⟨aq,aq⟩
def WN:TP 249 Tryz.t248 Tryz.t249:=⟨aq,aq⟩
def WM:TP 250 Tryz.t250 Tryz.t250:=⟨aq,aq⟩
def WL:TP 252 Tryz.t252 Tryz.t252:=⟨aq,aq⟩
def WK:TP 253 Tryz.t253 Tryz.t253:=⟨aq,aq⟩
def WJ:TP 254 Tryz.t254 Tryz.t254:=⟨aq,aq⟩
def WI:TP 256 Tryz.t256 Tryz.t256:=⟨aq,aq⟩
def WH:TP 257 Tryz.t257 Tryz.t257:=⟨aq,aq⟩
def WG:TP 258 Tryz.t258 Tryz.t258:=⟨aq,aq⟩
def WE:TP 259 Tryz.t258 Tryz.t259:=⟨aq,aq⟩
def WD:TP 260 Tryz.t260 Tryz.t260:=⟨aq,aq⟩
def WC:TP 261 Tryz.t261 Tryz.t261:=⟨aq,aq⟩
def WB:TP 262 Tryz.t261 Tryz.t262:=⟨aq,aq⟩
def WA:TP 263 Tryz.t263 Tryz.t263:=⟨aq,aq⟩
def Wz:TP 264 Tryz.t264 Tryz.t264:=⟨aq,aq⟩
def Wy:TP 265 Tryz.t3 Tryz.t265:=⟨aq,aq⟩
def Wx:TP 267 Tryz.t267 Tryz.t267:=⟨aq,aq⟩
def Ww:TP 268 Tryz.t268 Tryz.t268:=⟨aq,aq⟩
def Wv:TP 269 Tryz.t269 Tryz.t269:=⟨aq,aq⟩
def Wu:TP 270 Tryz.t270 Tryz.t270:=⟨aq,aq⟩
def Wt:TP 271 Tryz.t271 Tryz.t271:=⟨aq,aq⟩
def Ws:TP 272 Tryz.t272 Tryz.t272:=⟨aq,aq⟩
def Wq:TP 273 Tryz.t273 Tryz.t273:=⟨aq,aq⟩
def Wp:TP 274 Tryz.t274 Tryz.t274:=⟨aq,aq⟩
def Wo:TP 276 Tryz.t276 Tryz.t276:=⟨aq,aq⟩
def Wn:TP 278 Tryz.t278 Tryz.t278:=⟨aq,aq⟩
def Wm:TP 279 Tryz.t279 Tryz.t279:=⟨aq,aq⟩
def Wl:TP 280 Tryz.t280 Tryz.t280:=⟨aq,aq⟩
def Wk:TP 281 Tryz.t281 Tryz.t281:=⟨aq,aq⟩
def Wj:TP 282 Tryz.t133 Tryz.t282:=⟨aq,aq⟩
def Wi:TP 283 Tryz.t283 Tryz.t283:=⟨aq,aq⟩
def Wh:TP 284 Tryz.t284 Tryz.t284:=⟨aq,aq⟩
def Wg:TP 285 Tryz.t285 Tryz.t285:=⟨aq,aq⟩
def Wf:TP 286 Tryz.t286 Tryz.t286:=⟨aq,aq⟩
def We:TP 287 Tryz.t287 Tryz.t287:=⟨aq,aq⟩
def Wd:TP 288 Tryz.t288 Tryz.t288:=⟨aq,aq⟩
def Wc:TP 290 Tryz.t290 Tryz.t290:=⟨aq,aq⟩
def Wb:TP 291 Tryz.t291 Tryz.t291:=⟨aq,aq⟩
def Wa:TP 292 Tryz.t292 Tryz.t292:=⟨aq,aq⟩
def V':TP 293 Tryz.t292 Tryz.t293:=⟨aq,aq⟩
def V9:TP 294 Tryz.t294 Tryz.t294:=⟨aq,aq⟩
def V8:TP 295 Tryz.t295 Tryz.t295:=⟨aq,aq⟩
def V7:TP 296 Tryz.t295 Tryz.t296:=⟨aq,aq⟩
def V6:TP 297 Tryz.t5 Tryz.t297:=⟨aq,aq⟩
def V5:TP 298 Tryz.t5 Tryz.t298:=⟨aq,aq⟩
def V4:TP 299 Tryz.t299 Tryz.t299:=⟨aq,aq⟩
def V3:TP 300 Tryz.t300 Tryz.t300:=⟨aq,aq⟩
def V2:TP 301 Tryz.t21 Tryz.t301:=⟨aq,aq⟩
def V1:TP 302 Tryz.t21 Tryz.t302:=⟨aq,aq⟩
def V0:TP 303 Tryz.t303 Tryz.t303:=⟨aq,aq⟩
def VZ:TP 304 Tryz.t303 Tryz.t304:=⟨aq,aq⟩
def VY:TP 305 Tryz.t305 Tryz.t305:=⟨aq,aq⟩
noncomputable def aR:Tr:=(.node 151 ⟨Tryz.t151.desc,Tryz.t151⟩ (.node 77 ⟨Tryz.t77.desc,Tryz.t77⟩ (.node 36 ⟨Tryz.t36.desc,Tryz.t36⟩ (.node 18 ⟨Tryz.t18.desc,Tryz.t18⟩ (.node 9 ⟨Tryz.t9.desc,Tryz.t9⟩ (.node 5 ⟨Tryz.t5.desc,Tryz.t5⟩ (.node 3 ⟨Tryz.t3.desc,Tryz.t3⟩ (.node 2 ⟨Tryz.t2.desc,Tryz.t2⟩ (.node 1 ⟨Tryz.t1.desc,Tryz.t1⟩ .leaf .leaf) .leaf) (.node 4 ⟨Tryz.t4.desc,Tryz.t4⟩ .leaf .leaf)) (.node 7 ⟨Tryz.t7.desc,Tryz.t7⟩ (.node 6 ⟨Tryz.t5.desc,Tryz.t6⟩ .leaf .leaf) (.node 8 ⟨Tryz.t7.desc,Tryz.t8⟩ .leaf .leaf))) (.node 14 ⟨Tryz.t13.desc,Tryz.t14⟩ (.node 12 ⟨Tryz.t12.desc,Tryz.t12⟩ (.node 11 ⟨Tryz.t9.desc,Tryz.t11⟩ (.node 10 ⟨Tryz.t9.desc,Tryz.t10⟩ .leaf .leaf) .leaf) (.node 13 ⟨Tryz.t13.desc,Tryz.t13⟩ .leaf .leaf)) (.node 16 ⟨Tryz.t16.desc,Tryz.t16⟩ (.node 15 ⟨Tryz.t15.desc,Tryz.t15⟩ .leaf .leaf) (.node 17 ⟨Tryz.t17.desc,Tryz.t17⟩ .leaf .leaf)))) (.node 28 ⟨Tryz.t28.desc,Tryz.t28⟩ (.node 23 ⟨Tryz.t23.desc,Tryz.t23⟩ (.node 21 ⟨Tryz.t21.desc,Tryz.t21⟩ (.node 20 ⟨Tryz.t20.desc,Tryz.t20⟩ (.node 19 ⟨Tryz.t18.desc,Tryz.t19⟩ .leaf .leaf) .leaf) (.node 22 ⟨Tryz.t22.desc,Tryz.t22⟩ .leaf .leaf)) (.node 25 ⟨Tryz.t25.desc,Tryz.t25⟩ (.node 24 ⟨Tryz.t24.desc,Tryz.t24⟩ .leaf .leaf) (.node 26 ⟨Tryz.t3.desc,Tryz.t26⟩ .leaf .leaf))) (.node 32 ⟨Tryz.t32.desc,Tryz.t32⟩ (.node 30 ⟨Tryz.t30.desc,Tryz.t30⟩ (.node 29 ⟨Tryz.t29.desc,Tryz.t29⟩ .leaf .leaf) (.node 31 ⟨Tryz.t31.desc,Tryz.t31⟩ .leaf .leaf)) (.node 34 ⟨Tryz.t34.desc,Tryz.t34⟩ (.node 33 ⟨Tryz.t32.desc,Tryz.t33⟩ .leaf .leaf) (.node 35 ⟨Tryz.t35.desc,Tryz.t35⟩ .leaf .leaf))))) (.node 56 ⟨Tryz.t56.desc,Tryz.t56⟩ (.node 46 ⟨Tryz.t46.desc,Tryz.t46⟩ (.node 41 ⟨Tryz.t41.desc,Tryz.t41⟩ (.node 39 ⟨Tryz.t38.desc,Tryz.t39⟩ (.node 38 ⟨Tryz.t38.desc,Tryz.t38⟩ (.node 37 ⟨Tryz.t36.desc,Tryz.t37⟩ .leaf .leaf) .leaf) (.node 40 ⟨Tryz.t40.desc,Tryz.t40⟩ .leaf .leaf)) (.node 44 ⟨Tryz.t44.desc,Tryz.t44⟩ (.node 43 ⟨Tryz.t43.desc,Tryz.t43⟩ .leaf .leaf) (.node 45 ⟨Tryz.t44.desc,Tryz.t45⟩ .leaf .leaf))) (.node 50 ⟨Tryz.t50.desc,Tryz.t50⟩ (.node 48 ⟨Tryz.t48.desc,Tryz.t48⟩ (.node 47 ⟨Tryz.t47.desc,Tryz.t47⟩ .leaf .leaf) (.node 49 ⟨Tryz.t49.desc,Tryz.t49⟩ .leaf .leaf)) (.node 53 ⟨Tryz.t53.desc,Tryz.t53⟩ (.node 51 ⟨Tryz.t51.desc,Tryz.t51⟩ .leaf .leaf) (.node 55 ⟨Tryz.t55.desc,Tryz.t55⟩ .leaf .leaf)))) (.node 69 ⟨Tryz.t69.desc,Tryz.t69⟩ (.node 61 ⟨Tryz.t60.desc,Tryz.t61⟩ (.node 59 ⟨Tryz.t59.desc,Tryz.t59⟩ (.node 58 ⟨Tryz.t58.desc,Tryz.t58⟩ (.node 57 ⟨Tryz.t56.desc,Tryz.t57⟩ .leaf .leaf) .leaf) (.node 60 ⟨Tryz.t60.desc,Tryz.t60⟩ .leaf .leaf)) (.node 65 ⟨Tryz.t65.desc,Tryz.t65⟩ (.node 63 ⟨Tryz.t63.desc,Tryz.t63⟩ .leaf .leaf) (.node 67 ⟨Tryz.t67.desc,Tryz.t67⟩ .leaf .leaf))) (.node 73 ⟨Tryz.t73.desc,Tryz.t73⟩ (.node 71 ⟨Tryz.t71.desc,Tryz.t71⟩ (.node 70 ⟨Tryz.t70.desc,Tryz.t70⟩ .leaf .leaf) (.node 72 ⟨Tryz.t72.desc,Tryz.t72⟩ .leaf .leaf)) (.node 75 ⟨Tryz.t75.desc,Tryz.t75⟩ (.node 74 ⟨Tryz.t73.desc,Tryz.t74⟩ .leaf .leaf) (.node 76 ⟨Tryz.t76.desc,Tryz.t76⟩ .leaf .leaf)))))) (.node 113 ⟨Tryz.t112.desc,Tryz.t113⟩ (.node 94 ⟨Tryz.t94.desc,Tryz.t94⟩ (.node 86 ⟨Tryz.t86.desc,Tryz.t86⟩ (.node 82 ⟨Tryz.t82.desc,Tryz.t82⟩ (.node 80 ⟨Tryz.t79.desc,Tryz.t80⟩ (.node 79 ⟨Tryz.t79.desc,Tryz.t79⟩ (.node 78 ⟨Tryz.t78.desc,Tryz.t78⟩ .leaf .leaf) .leaf) (.node 81 ⟨Tryz.t81.desc,Tryz.t81⟩ .leaf .leaf)) (.node 84 ⟨Tryz.t84.desc,Tryz.t84⟩ (.node 83 ⟨Tryz.t83.desc,Tryz.t83⟩ .leaf .leaf) (.node 85 ⟨Tryz.t85.desc,Tryz.t85⟩ .leaf .leaf))) (.node 90 ⟨Tryz.t90.desc,Tryz.t90⟩ (.node 88 ⟨Tryz.t88.desc,Tryz.t88⟩ (.node 87 ⟨Tryz.t87.desc,Tryz.t87⟩ .leaf .leaf) (.node 89 ⟨Tryz.t89.desc,Tryz.t89⟩ .leaf .leaf)) (.node 92 ⟨Tryz.t92.desc,Tryz.t92⟩ (.node 91 ⟨Tryz.t91.desc,Tryz.t91⟩ .leaf .leaf) (.node 93 ⟨Tryz.t93.desc,Tryz.t93⟩ .leaf .leaf)))) (.node 103 ⟨Tryz.t103.desc,Tryz.t103⟩ (.node 99 ⟨Tryz.t99.desc,Tryz.t99⟩ (.node 97 ⟨Tryz.t96.desc,Tryz.t97⟩ (.node 96 ⟨Tryz.t96.desc,Tryz.t96⟩ (.node 95 ⟨Tryz.t95.desc,Tryz.t95⟩ .leaf .leaf) .leaf) (.node 98 ⟨Tryz.t98.desc,Tryz.t98⟩ .leaf .leaf)) (.node 101 ⟨Tryz.t100.desc,Tryz.t101⟩ (.node 100 ⟨Tryz.t100.desc,Tryz.t100⟩ .leaf .leaf) (.node 102 ⟨Tryz.t102.desc,Tryz.t102⟩ .leaf .leaf))) (.node 109 ⟨Tryz.t109.desc,Tryz.t109⟩ (.node 106 ⟨Tryz.t106.desc,Tryz.t106⟩ (.node 105 ⟨Tryz.t105.desc,Tryz.t105⟩ .leaf .leaf) (.node 108 ⟨Tryz.t108.desc,Tryz.t108⟩ .leaf .leaf)) (.node 111 ⟨Tryz.t111.desc,Tryz.t111⟩ (.node 110 ⟨Tryz.t110.desc,Tryz.t110⟩ .leaf .leaf) (.node 112 ⟨Tryz.t112.desc,Tryz.t112⟩ .leaf .leaf))))) (.node 132 ⟨Tryz.t132.desc,Tryz.t132⟩ (.node 123 ⟨Tryz.t123.desc,Tryz.t123⟩ (.node 118 ⟨Tryz.t118.desc,Tryz.t118⟩ (.node 116 ⟨Tryz.t116.desc,Tryz.t116⟩ (.node 115 ⟨Tryz.t115.desc,Tryz.t115⟩ (.node 114 ⟨Tryz.t114.desc,Tryz.t114⟩ .leaf .leaf) .leaf) (.node 117 ⟨Tryz.t117.desc,Tryz.t117⟩ .leaf .leaf)) (.node 121 ⟨Tryz.t121.desc,Tryz.t121⟩ (.node 120 ⟨Tryz.t120.desc,Tryz.t120⟩ .leaf .leaf) (.node 122 ⟨Tryz.t122.desc,Tryz.t122⟩ .leaf .leaf))) (.node 128 ⟨Tryz.t128.desc,Tryz.t128⟩ (.node 126 ⟨Tryz.t126.desc,Tryz.t126⟩ (.node 124 ⟨Tryz.t124.desc,Tryz.t124⟩ .leaf .leaf) (.node 127 ⟨Tryz.t127.desc,Tryz.t127⟩ .leaf .leaf)) (.node 130 ⟨Tryz.t130.desc,Tryz.t130⟩ (.node 129 ⟨Tryz.t129.desc,Tryz.t129⟩ .leaf .leaf) (.node 131 ⟨Tryz.t131.desc,Tryz.t131⟩ .leaf .leaf)))) (.node 141 ⟨Tryz.t141.desc,Tryz.t141⟩ (.node 137 ⟨Tryz.t136.desc,Tryz.t137⟩ (.node 135 ⟨Tryz.t135.desc,Tryz.t135⟩ (.node 134 ⟨Tryz.t134.desc,Tryz.t134⟩ (.node 133 ⟨Tryz.t133.desc,Tryz.t133⟩ .leaf .leaf) .leaf) (.node 136 ⟨Tryz.t136.desc,Tryz.t136⟩ .leaf .leaf)) (.node 139 ⟨Tryz.t139.desc,Tryz.t139⟩ (.node 138 ⟨Tryz.t138.desc,Tryz.t138⟩ .leaf .leaf) (.node 140 ⟨Tryz.t140.desc,Tryz.t140⟩ .leaf .leaf))) (.node 146 ⟨Tryz.t146.desc,Tryz.t146⟩ (.node 144 ⟨Tryz.t144.desc,Tryz.t144⟩ (.node 143 ⟨Tryz.t143.desc,Tryz.t143⟩ .leaf .leaf) (.node 145 ⟨Tryz.t145.desc,Tryz.t145⟩ .leaf .leaf)) (.node 149 ⟨Tryz.t149.desc,Tryz.t149⟩ (.node 147 ⟨Tryz.t147.desc,Tryz.t147⟩ .leaf .leaf) (.node 150 ⟨Tryz.t150.desc,Tryz.t150⟩ .leaf .leaf))))))) (.node 230 ⟨Tryz.t230.desc,Tryz.t230⟩ (.node 192 ⟨Tryz.t191.desc,Tryz.t192⟩ (.node 172 ⟨Tryz.t172.desc,Tryz.t172⟩ (.node 161 ⟨Tryz.t160.desc,Tryz.t161⟩ (.node 156 ⟨Tryz.t155.desc,Tryz.t156⟩ (.node 154 ⟨Tryz.t154.desc,Tryz.t154⟩ (.node 153 ⟨Tryz.t153.desc,Tryz.t153⟩ (.node 152 ⟨Tryz.t152.desc,Tryz.t152⟩ .leaf .leaf) .leaf) (.node 155 ⟨Tryz.t155.desc,Tryz.t155⟩ .leaf .leaf)) (.node 159 ⟨Tryz.t159.desc,Tryz.t159⟩ (.node 157 ⟨Tryz.t157.desc,Tryz.t157⟩ .leaf .leaf) (.node 160 ⟨Tryz.t160.desc,Tryz.t160⟩ .leaf .leaf))) (.node 168 ⟨Tryz.t168.desc,Tryz.t168⟩ (.node 166 ⟨Tryz.t166.desc,Tryz.t166⟩ (.node 165 ⟨Tryz.t165.desc,Tryz.t165⟩ (.node 163 ⟨Tryz.t163.desc,Tryz.t163⟩ .leaf .leaf) .leaf) (.node 167 ⟨Tryz.t167.desc,Tryz.t167⟩ .leaf .leaf)) (.node 170 ⟨Tryz.t170.desc,Tryz.t170⟩ (.node 169 ⟨Tryz.t169.desc,Tryz.t169⟩ .leaf .leaf) (.node 171 ⟨Tryz.t170.desc,Tryz.t171⟩ .leaf .leaf)))) (.node 183 ⟨Tryz.t183.desc,Tryz.t183⟩ (.node 179 ⟨Tryz.t179.desc,Tryz.t179⟩ (.node 176 ⟨Tryz.t176.desc,Tryz.t176⟩ (.node 174 ⟨Tryz.t173.desc,Tryz.t174⟩ (.node 173 ⟨Tryz.t173.desc,Tryz.t173⟩ .leaf .leaf) .leaf) (.node 178 ⟨Tryz.t178.desc,Tryz.t178⟩ .leaf .leaf)) (.node 181 ⟨Tryz.t181.desc,Tryz.t181⟩ (.node 180 ⟨Tryz.t180.desc,Tryz.t180⟩ .leaf .leaf) (.node 182 ⟨Tryz.t182.desc,Tryz.t182⟩ .leaf .leaf))) (.node 188 ⟨Tryz.t188.desc,Tryz.t188⟩ (.node 185 ⟨Tryz.t185.desc,Tryz.t185⟩ (.node 184 ⟨Tryz.t184.desc,Tryz.t184⟩ .leaf .leaf) (.node 186 ⟨Tryz.t186.desc,Tryz.t186⟩ .leaf .leaf)) (.node 190 ⟨Tryz.t190.desc,Tryz.t190⟩ (.node 189 ⟨Tryz.t189.desc,Tryz.t189⟩ .leaf .leaf) (.node 191 ⟨Tryz.t191.desc,Tryz.t191⟩ .leaf .leaf))))) (.node 210 ⟨Tryz.t210.desc,Tryz.t210⟩ (.node 202 ⟨Tryz.t202.desc,Tryz.t202⟩ (.node 197 ⟨Tryz.t196.desc,Tryz.t197⟩ (.node 195 ⟨Tryz.t195.desc,Tryz.t195⟩ (.node 194 ⟨Tryz.t194.desc,Tryz.t194⟩ (.node 193 ⟨Tryz.t193.desc,Tryz.t193⟩ .leaf .leaf) .leaf) (.node 196 ⟨Tryz.t196.desc,Tryz.t196⟩ .leaf .leaf)) (.node 199 ⟨Tryz.t199.desc,Tryz.t199⟩ (.node 198 ⟨Tryz.t198.desc,Tryz.t198⟩ .leaf .leaf) (.node 201 ⟨Tryz.t201.desc,Tryz.t201⟩ .leaf .leaf))) (.node 206 ⟨Tryz.t206.desc,Tryz.t206⟩ (.node 204 ⟨Tryz.t204.desc,Tryz.t204⟩ (.node 203 ⟨Tryz.t203.desc,Tryz.t203⟩ .leaf .leaf) (.node 205 ⟨Tryz.t205.desc,Tryz.t205⟩ .leaf .leaf)) (.node 208 ⟨Tryz.t208.desc,Tryz.t208⟩ (.node 207 ⟨Tryz.t207.desc,Tryz.t207⟩ .leaf .leaf) (.node 209 ⟨Tryz.t209.desc,Tryz.t209⟩ .leaf .leaf)))) (.node 220 ⟨Tryz.t220.desc,Tryz.t220⟩ (.node 215 ⟨Tryz.t215.desc,Tryz.t215⟩ (.node 213 ⟨Tryz.t213.desc,Tryz.t213⟩ (.node 212 ⟨Tryz.t212.desc,Tryz.t212⟩ (.node 211 ⟨Tryz.t211.desc,Tryz.t211⟩ .leaf .leaf) .leaf) (.node 214 ⟨Tryz.t214.desc,Tryz.t214⟩ .leaf .leaf)) (.node 217 ⟨Tryz.t151.desc,Tryz.t217⟩ (.node 216 ⟨Tryz.t216.desc,Tryz.t216⟩ .leaf .leaf) (.node 218 ⟨Tryz.t218.desc,Tryz.t218⟩ .leaf .leaf))) (.node 225 ⟨Tryz.t225.desc,Tryz.t225⟩ (.node 222 ⟨Tryz.t222.desc,Tryz.t222⟩ (.node 221 ⟨Tryz.t221.desc,Tryz.t221⟩ .leaf .leaf) (.node 223 ⟨Tryz.t223.desc,Tryz.t223⟩ .leaf .leaf)) (.node 227 ⟨Tryz.t227.desc,Tryz.t227⟩ (.node 226 ⟨Tryz.t226.desc,Tryz.t226⟩ .leaf .leaf) (.node 228 ⟨Tryz.t228.desc,Tryz.t228⟩ .leaf .leaf)))))) (.node 269 ⟨Tryz.t269.desc,Tryz.t269⟩ (.node 249 ⟨Tryz.t248.desc,Tryz.t249⟩ (.node 240 ⟨Tryz.t240.desc,Tryz.t240⟩ (.node 236 ⟨Tryz.t236.desc,Tryz.t236⟩ (.node 234 ⟨Tryz.t234.desc,Tryz.t234⟩ (.node 233 ⟨Tryz.t233.desc,Tryz.t233⟩ (.node 232 ⟨Tryz.t232.desc,Tryz.t232⟩ .leaf .leaf) .leaf) (.node 235 ⟨Tryz.t235.desc,Tryz.t235⟩ .leaf .leaf)) (.node 238 ⟨Tryz.t238.desc,Tryz.t238⟩ (.node 237 ⟨Tryz.t237.desc,Tryz.t237⟩ .leaf .leaf) (.node 239 ⟨Tryz.t239.desc,Tryz.t239⟩ .leaf .leaf))) (.node 245 ⟨Tryz.t245.desc,Tryz.t245⟩ (.node 242 ⟨Tryz.t242.desc,Tryz.t242⟩ (.node 241 ⟨Tryz.t241.desc,Tryz.t241⟩ .leaf .leaf) (.node 244 ⟨Tryz.t244.desc,Tryz.t244⟩ .leaf .leaf)) (.node 247 ⟨Tryz.t247.desc,Tryz.t247⟩ (.node 246 ⟨Tryz.t246.desc,Tryz.t246⟩ .leaf .leaf) (.node 248 ⟨Tryz.t248.desc,Tryz.t248⟩ .leaf .leaf)))) (.node 260 ⟨Tryz.t260.desc,Tryz.t260⟩ (.node 256 ⟨Tryz.t256.desc,Tryz.t256⟩ (.node 253 ⟨Tryz.t253.desc,Tryz.t253⟩ (.node 252 ⟨Tryz.t252.desc,Tryz.t252⟩ (.node 250 ⟨Tryz.t250.desc,Tryz.t250⟩ .leaf .leaf) .leaf) (.node 254 ⟨Tryz.t254.desc,Tryz.t254⟩ .leaf .leaf)) (.node 258 ⟨Tryz.t258.desc,Tryz.t258⟩ (.node 257 ⟨Tryz.t257.desc,Tryz.t257⟩ .leaf .leaf) (.node 259 ⟨Tryz.t258.desc,Tryz.t259⟩ .leaf .leaf))) (.node 264 ⟨Tryz.t264.desc,Tryz.t264⟩ (.node 262 ⟨Tryz.t261.desc,Tryz.t262⟩ (.node 261 ⟨Tryz.t261.desc,Tryz.t261⟩ .leaf .leaf) (.node 263 ⟨Tryz.t263.desc,Tryz.t263⟩ .leaf .leaf)) (.node 267 ⟨Tryz.t267.desc,Tryz.t267⟩ (.node 265 ⟨Tryz.t3.desc,Tryz.t265⟩ .leaf .leaf) (.node 268 ⟨Tryz.t268.desc,Tryz.t268⟩ .leaf .leaf))))) (.node 288 ⟨Tryz.t288.desc,Tryz.t288⟩ (.node 280 ⟨Tryz.t280.desc,Tryz.t280⟩ (.node 274 ⟨Tryz.t274.desc,Tryz.t274⟩ (.node 272 ⟨Tryz.t272.desc,Tryz.t272⟩ (.node 271 ⟨Tryz.t271.desc,Tryz.t271⟩ (.node 270 ⟨Tryz.t270.desc,Tryz.t270⟩ .leaf .leaf) .leaf) (.node 273 ⟨Tryz.t273.desc,Tryz.t273⟩ .leaf .leaf)) (.node 278 ⟨Tryz.t278.desc,Tryz.t278⟩ (.node 276 ⟨Tryz.t276.desc,Tryz.t276⟩ .leaf .leaf) (.node 279 ⟨Tryz.t279.desc,Tryz.t279⟩ .leaf .leaf))) (.node 284 ⟨Tryz.t284.desc,Tryz.t284⟩ (.node 282 ⟨Tryz.t133.desc,Tryz.t282⟩ (.node 281 ⟨Tryz.t281.desc,Tryz.t281⟩ .leaf .leaf) (.node 283 ⟨Tryz.t283.desc,Tryz.t283⟩ .leaf .leaf)) (.node 286 ⟨Tryz.t286.desc,Tryz.t286⟩ (.node 285 ⟨Tryz.t285.desc,Tryz.t285⟩ .leaf .leaf) (.node 287 ⟨Tryz.t287.desc,Tryz.t287⟩ .leaf .leaf)))) (.node 298 ⟨Tryz.t5.desc,Tryz.t298⟩ (.node 294 ⟨Tryz.t294.desc,Tryz.t294⟩ (.node 292 ⟨Tryz.t292.desc,Tryz.t292⟩ (.node 291 ⟨Tryz.t291.desc,Tryz.t291⟩ (.node 290 ⟨Tryz.t290.desc,Tryz.t290⟩ .leaf .leaf) .leaf) (.node 293 ⟨Tryz.t292.desc,Tryz.t293⟩ .leaf .leaf)) (.node 296 ⟨Tryz.t295.desc,Tryz.t296⟩ (.node 295 ⟨Tryz.t295.desc,Tryz.t295⟩ .leaf .leaf) (.node 297 ⟨Tryz.t5.desc,Tryz.t297⟩ .leaf .leaf))) (.node 302 ⟨Tryz.t21.desc,Tryz.t302⟩ (.node 300 ⟨Tryz.t300.desc,Tryz.t300⟩ (.node 299 ⟨Tryz.t299.desc,Tryz.t299⟩ .leaf .leaf) (.node 301 ⟨Tryz.t21.desc,Tryz.t301⟩ .leaf .leaf)) (.node 304 ⟨Tryz.t303.desc,Tryz.t304⟩ (.node 303 ⟨Tryz.t303.desc,Tryz.t303⟩ .leaf .leaf) (.node 305 ⟨Tryz.t305.desc,Tryz.t305⟩ .leaf .leaf))))))))
instance kR:gq Tryz.prog aR:=⟨⟨Yc,⟨aa7,⟨abF,⟨abW,⟨adR,⟨adV,⟨adX,⟨adY,⟨adZ,trivial,trivial⟩,trivial⟩,⟨adW,trivial,trivial⟩⟩,⟨adT,⟨adU,trivial,trivial⟩,⟨adS,trivial,trivial⟩⟩⟩,⟨ab0,⟨ab2,⟨ab3,⟨ab4,trivial,trivial⟩,trivial⟩,⟨ab1,trivial,trivial⟩⟩,⟨abY,⟨abZ,trivial,trivial⟩,⟨abX,trivial,trivial⟩⟩⟩⟩,⟨abN,⟨abR,⟨abT,⟨abU,⟨abV,trivial,trivial⟩,trivial⟩,⟨abS,trivial,trivial⟩⟩,⟨abP,⟨abQ,trivial,trivial⟩,⟨abO,trivial,trivial⟩⟩⟩,⟨abJ,⟨abL,⟨abM,trivial,trivial⟩,⟨abK,trivial,trivial⟩⟩,⟨abH,⟨abI,trivial,trivial⟩,⟨abG,trivial,trivial⟩⟩⟩⟩⟩,⟨abn,⟨abw,⟨abA,⟨abC,⟨abD,⟨abE,trivial,trivial⟩,trivial⟩,⟨abB,trivial,trivial⟩⟩,⟨aby,⟨abz,trivial,trivial⟩,⟨abx,trivial,trivial⟩⟩⟩,⟨abr,⟨abu,⟨abv,trivial,trivial⟩,⟨abt,trivial,trivial⟩⟩,⟨abp,⟨abq,trivial,trivial⟩,⟨abo,trivial,trivial⟩⟩⟩⟩,⟨abe,⟨abi,⟨abk,⟨abl,⟨abm,trivial,trivial⟩,trivial⟩,⟨abj,trivial,trivial⟩⟩,⟨abg,⟨abh,trivial,trivial⟩,⟨abf,trivial,trivial⟩⟩⟩,⟨aba,⟨abc,⟨abd,trivial,trivial⟩,⟨abb,trivial,trivial⟩⟩,⟨aa9,⟨aa',trivial,trivial⟩,⟨aa8,trivial,trivial⟩⟩⟩⟩⟩⟩,⟨YL,⟨aaQ,⟨aaY,⟨aa2,⟨aa4,⟨aa5,⟨aa6,trivial,trivial⟩,trivial⟩,⟨aa3,trivial,trivial⟩⟩,⟨aa0,⟨aa1,trivial,trivial⟩,⟨aaZ,trivial,trivial⟩⟩⟩,⟨aaU,⟨aaW,⟨aaX,trivial,trivial⟩,⟨aaV,trivial,trivial⟩⟩,⟨aaS,⟨aaT,trivial,trivial⟩,⟨aaR,trivial,trivial⟩⟩⟩⟩,⟨YT,⟨aaL,⟨aaN,⟨aaO,⟨aaP,trivial,trivial⟩,trivial⟩,⟨aaM,trivial,trivial⟩⟩,⟨YV,⟨YW,trivial,trivial⟩,⟨YU,trivial,trivial⟩⟩⟩,⟨YP,⟨YR,⟨YS,trivial,trivial⟩,⟨YQ,trivial,trivial⟩⟩,⟨YN,⟨YO,trivial,trivial⟩,⟨YM,trivial,trivial⟩⟩⟩⟩⟩,⟨Yu,⟨YC,⟨YG,⟨YI,⟨YJ,⟨YK,trivial,trivial⟩,trivial⟩,⟨YH,trivial,trivial⟩⟩,⟨YE,⟨YF,trivial,trivial⟩,⟨YD,trivial,trivial⟩⟩⟩,⟨Yy,⟨YA,⟨YB,trivial,trivial⟩,⟨Yz,trivial,trivial⟩⟩,⟨Yw,⟨Yx,trivial,trivial⟩,⟨Yv,trivial,trivial⟩⟩⟩⟩,⟨Yk,⟨Yo,⟨Yq,⟨Yr,⟨Yt,trivial,trivial⟩,trivial⟩,⟨Yp,trivial,trivial⟩⟩,⟨Ym,⟨Yn,trivial,trivial⟩,⟨Yl,trivial,trivial⟩⟩⟩,⟨Yg,⟨Yi,⟨Yj,trivial,trivial⟩,⟨Yh,trivial,trivial⟩⟩,⟨Ye,⟨Yf,trivial,trivial⟩,⟨Yd,trivial,trivial⟩⟩⟩⟩⟩⟩⟩,⟨W5,⟨XE,⟨XV,⟨X4,⟨X8,⟨X',⟨Ya,⟨Yb,trivial,trivial⟩,trivial⟩,⟨X9,trivial,trivial⟩⟩,⟨X6,⟨X7,trivial,trivial⟩,⟨X5,trivial,trivial⟩⟩⟩,⟨XZ,⟨X1,⟨X2,⟨X3,trivial,trivial⟩,trivial⟩,⟨X0,trivial,trivial⟩⟩,⟨XX,⟨XY,trivial,trivial⟩,⟨XW,trivial,trivial⟩⟩⟩⟩,⟨XM,⟨XQ,⟨XS,⟨XT,⟨XU,trivial,trivial⟩,trivial⟩,⟨XR,trivial,trivial⟩⟩,⟨XO,⟨XP,trivial,trivial⟩,⟨XN,trivial,trivial⟩⟩⟩,⟨XI,⟨XK,⟨XL,trivial,trivial⟩,⟨XJ,trivial,trivial⟩⟩,⟨XG,⟨XH,trivial,trivial⟩,⟨XF,trivial,trivial⟩⟩⟩⟩⟩,⟨Xm,⟨Xv,⟨Xz,⟨XB,⟨XC,⟨XD,trivial,trivial⟩,trivial⟩,⟨XA,trivial,trivial⟩⟩,⟨Xx,⟨Xy,trivial,trivial⟩,⟨Xw,trivial,trivial⟩⟩⟩,⟨Xq,⟨Xt,⟨Xu,trivial,trivial⟩,⟨Xr,trivial,trivial⟩⟩,⟨Xo,⟨Xp,trivial,trivial⟩,⟨Xn,trivial,trivial⟩⟩⟩⟩,⟨Xd,⟨Xh,⟨Xj,⟨Xk,⟨Xl,trivial,trivial⟩,trivial⟩,⟨Xi,trivial,trivial⟩⟩,⟨Xf,⟨Xg,trivial,trivial⟩,⟨Xe,trivial,trivial⟩⟩⟩,⟨W9,⟨Xb,⟨Xc,trivial,trivial⟩,⟨Xa,trivial,trivial⟩⟩,⟨W7,⟨W8,trivial,trivial⟩,⟨W6,trivial,trivial⟩⟩⟩⟩⟩⟩,⟨Wv,⟨WN,⟨WW,⟨W0,⟨W2,⟨W3,⟨W4,trivial,trivial⟩,trivial⟩,⟨W1,trivial,trivial⟩⟩,⟨WY,⟨WZ,trivial,trivial⟩,⟨WX,trivial,trivial⟩⟩⟩,⟨WS,⟨WU,⟨WV,trivial,trivial⟩,⟨WT,trivial,trivial⟩⟩,⟨WQ,⟨WR,trivial,trivial⟩,⟨WO,trivial,trivial⟩⟩⟩⟩,⟨WD,⟨WI,⟨WK,⟨WL,⟨WM,trivial,trivial⟩,trivial⟩,⟨WJ,trivial,trivial⟩⟩,⟨WG,⟨WH,trivial,trivial⟩,⟨WE,trivial,trivial⟩⟩⟩,⟨Wz,⟨WB,⟨WC,trivial,trivial⟩,⟨WA,trivial,trivial⟩⟩,⟨Wx,⟨Wy,trivial,trivial⟩,⟨Ww,trivial,trivial⟩⟩⟩⟩⟩,⟨Wd,⟨Wl,⟨Wp,⟨Ws,⟨Wt,⟨Wu,trivial,trivial⟩,trivial⟩,⟨Wq,trivial,trivial⟩⟩,⟨Wn,⟨Wo,trivial,trivial⟩,⟨Wm,trivial,trivial⟩⟩⟩,⟨Wh,⟨Wj,⟨Wk,trivial,trivial⟩,⟨Wi,trivial,trivial⟩⟩,⟨Wf,⟨Wg,trivial,trivial⟩,⟨We,trivial,trivial⟩⟩⟩⟩,⟨V5,⟨V9,⟨Wa,⟨Wb,⟨Wc,trivial,trivial⟩,trivial⟩,⟨V',trivial,trivial⟩⟩,⟨V7,⟨V8,trivial,trivial⟩,⟨V6,trivial,trivial⟩⟩⟩,⟨V1,⟨V3,⟨V4,trivial,trivial⟩,⟨V2,trivial,trivial⟩⟩,⟨VZ,⟨V0,trivial,trivial⟩,⟨VY,trivial,trivial⟩⟩⟩⟩⟩⟩⟩⟩⟩
def mixed:Tryz.prog.follows .mixedOrders=true:=by kernel_rfl
def go{A B:Prop}(a:A)(h:aaF A→B:=by(intro h;(repeat'(first|refine HD (U:=aR) rfl ?_|(refine LJ ?_;first|refine vz zr zr zr zr ?_|refine vB zr zr zr zr zr zr zr ?_|refine vy zr zr zr zr zr zr ?_|refine rQ zr zr zr zr zr zr ?_)|(refine aK ?_;first|refine fz (U:=aR) 0 zr zr zr zr zr zr ?_|refine fz (U:=aR) 1 zr zr zr zr zr zr ?_|refine fz (U:=aR) 2 zr zr zr zr zr zr ?_|refine fz (U:=aR) 3 zr zr zr zr zr zr ?_|refine fz (U:=aR) 4 zr zr zr zr zr zr ?_|refine fz (U:=aR) 5 zr zr zr zr zr zr ?_|refine iI (U:=aR) 0 zr zr zr zr zr zr ?_|refine iI (U:=aR) 1 zr zr zr zr zr zr ?_|refine iI (U:=aR) 2 zr zr zr zr zr zr ?_)|(refine vx ?_;first|refine yD zr zr zr ?_|refine yE zr zr zr ?_)|(refine mj ?_;first|refine LO zr zr zr (by simp only[gy];omega) ?_|refine Ei zr zr zr (by simp only[gy];omega) ?_)|(refine fb ?_;refine AW (U:=aR) zr zr zr zr zr zr (by simp only[gy];omega) ?_)|(refine aV ?_;first|refine fj (U:=aR) 0 gf zr zr zr zr zr zr zr zr zr ?_|refine fj (U:=aR) 1 gf zr zr zr zr zr zr zr zr zr ?_|refine fj (U:=aR) 2 gf zr zr zr zr zr zr zr zr zr ?_|refine fj (U:=aR) 3 gf zr zr zr zr zr zr zr zr zr ?_)|refine HC ?_|refine aB rfl ?_|refine pV zr zr ?_|refine nR zr zr ?_));exact h.out)):B:=h ⟨a⟩
def eZ{A B:Prop}(a:A)(h:aaF A→B:=by(intro h;(first|refine HD (U:=aR) rfl ?_|(refine LJ ?_;first|refine vz zr zr zr zr ?_|refine vB zr zr zr zr zr zr zr ?_|refine vy zr zr zr zr zr zr ?_|refine rQ zr zr zr zr zr zr ?_)|(refine aK ?_;first|refine fz (U:=aR) 0 zr zr zr zr zr zr ?_|refine fz (U:=aR) 1 zr zr zr zr zr zr ?_|refine fz (U:=aR) 2 zr zr zr zr zr zr ?_|refine fz (U:=aR) 3 zr zr zr zr zr zr ?_|refine fz (U:=aR) 4 zr zr zr zr zr zr ?_|refine fz (U:=aR) 5 zr zr zr zr zr zr ?_|refine iI (U:=aR) 0 zr zr zr zr zr zr ?_|refine iI (U:=aR) 1 zr zr zr zr zr zr ?_|refine iI (U:=aR) 2 zr zr zr zr zr zr ?_)|(refine vx ?_;first|refine yD zr zr zr ?_|refine yE zr zr zr ?_)|(refine mj ?_;first|refine LO zr zr zr (by simp only[gy];omega) ?_|refine Ei zr zr zr (by simp only[gy];omega) ?_)|(refine fb ?_;refine AW (U:=aR) zr zr zr zr zr zr (by simp only[gy];omega) ?_)|(refine aV ?_;first|refine fj (U:=aR) 0 gf zr zr zr zr zr zr zr zr zr ?_|refine fj (U:=aR) 1 gf zr zr zr zr zr zr zr zr zr ?_|refine fj (U:=aR) 2 gf zr zr zr zr zr zr zr zr zr ?_|refine fj (U:=aR) 3 gf zr zr zr zr zr zr zr zr zr ?_)|refine HC ?_|refine aB rfl ?_|refine pV zr zr ?_|refine nR zr zr ?_);(repeat'(first|refine HD (U:=aR) rfl ?_|(refine LJ ?_;first|refine vz zr zr zr zr ?_|refine vB zr zr zr zr zr zr zr ?_|refine vy zr zr zr zr zr zr ?_|refine rQ zr zr zr zr zr zr ?_)|(refine aK ?_;first|refine fz (U:=aR) 0 zr zr zr zr zr zr ?_|refine fz (U:=aR) 1 zr zr zr zr zr zr ?_|refine fz (U:=aR) 2 zr zr zr zr zr zr ?_|refine fz (U:=aR) 3 zr zr zr zr zr zr ?_|refine fz (U:=aR) 4 zr zr zr zr zr zr ?_|refine fz (U:=aR) 5 zr zr zr zr zr zr ?_|refine iI (U:=aR) 0 zr zr zr zr zr zr ?_|refine iI (U:=aR) 1 zr zr zr zr zr zr ?_|refine iI (U:=aR) 2 zr zr zr zr zr zr ?_)|(refine vx ?_;first|refine yD zr zr zr ?_|refine yE zr zr zr ?_)|(refine mj ?_;first|refine LO zr zr zr (by simp only[gy];omega) ?_|refine Ei zr zr zr (by simp only[gy];omega) ?_)|(refine fb ?_;refine AW (U:=aR) zr zr zr zr zr zr (by simp only[gy];omega) ?_)|(refine aV ?_;first|refine fj (U:=aR) 0 gf zr zr zr zr zr zr zr zr zr ?_|refine fj (U:=aR) 1 gf zr zr zr zr zr zr zr zr zr ?_|refine fj (U:=aR) 2 gf zr zr zr zr zr zr zr zr zr ?_|refine fj (U:=aR) 3 gf zr zr zr zr zr zr zr zr zr ?_)|refine HC ?_|refine aB rfl ?_|refine pV zr zr ?_|refine nR zr zr ?_));exact h.out)):B:=h ⟨a⟩
def ln{A B:Prop}(a:A)(h:aaF A→B:=by(intro h;(repeat'(first|refine HD (U:=aR) rfl ?_|(refine LJ ?_;first|refine vz zr zr zr zr ?_|refine vB zr zr zr zr zr zr zr ?_|refine vy zr zr zr zr zr zr ?_|refine rQ zr zr zr zr zr zr ?_)|(refine aK ?_;first|refine fz (U:=aR) 0 zr zr zr zr zr zr ?_|refine fz (U:=aR) 1 zr zr zr zr zr zr ?_|refine fz (U:=aR) 2 zr zr zr zr zr zr ?_|refine fz (U:=aR) 3 zr zr zr zr zr zr ?_|refine fz (U:=aR) 4 zr zr zr zr zr zr ?_|refine fz (U:=aR) 5 zr zr zr zr zr zr ?_|refine iI (U:=aR) 0 zr zr zr zr zr zr ?_|refine iI (U:=aR) 1 zr zr zr zr zr zr ?_|refine iI (U:=aR) 2 zr zr zr zr zr zr ?_)|(refine vx ?_;first|refine yD zr zr zr ?_|refine yE zr zr zr ?_)|(refine mj ?_;first|refine LO zr zr zr (by simp only[gy];omega) ?_|refine Ei zr zr zr (by simp only[gy];omega) ?_)|(refine fb ?_;refine AW (U:=aR) zr zr zr zr zr zr (by simp only[gy];omega) ?_)|(refine aV ?_;first|refine fj (U:=aR) 0 gf zr zr zr zr zr zr zr zr zr ?_|refine fj (U:=aR) 1 gf zr zr zr zr zr zr zr zr zr ?_|refine fj (U:=aR) 2 gf zr zr zr zr zr zr zr zr zr ?_|refine fj (U:=aR) 3 gf zr zr zr zr zr zr zr zr zr ?_)|refine HC ?_));exact h.out)):B:=h ⟨a⟩
def jv := @LM Tryz.prog aR kR
def ao := @By Tryz.prog aR kR
def aT := @Sd Tryz.prog aR kR
def bR := @adL Tryz.prog aR kR
def aX := @R9 Tryz.prog aR kR
def bt := @J' Tryz.prog aR kR
def mC := @US Tryz.prog aR kR
def gF := @Sa Tryz.prog aR kR
def eV := @Hy Tryz.prog aR kR
def mD := @Em Tryz.prog aR kR
def cF := @fj Tryz.prog aR kR
def bZ := @adM Tryz.prog aR kR
def aC := @UW Tryz.prog aR kR
def dT := @Ou Tryz.prog aR kR
def bW := @Ot Tryz.prog aR kR
def ju := @AU Tryz.prog aR kR
def iX := @R8 Tryz.prog aR kR
def mE := @iI Tryz.prog aR kR
end Go.Proofs.YthnfckodljbgbaaGreatDoor
namespace Go.Proofs.YthnfckodljbgbaaGreatDoor
open Go Go.SL
def RF{A:HP}{v:Value}{bs:List UInt8}(hv:Vw A v bs.length (bV bs))(h:0<bs.length):∃b o c,v = .slice (some ⟨b,o,none⟩) bs.length c:=hv.some (by cases bs with
 | nil=>simp at h
 | cons x l=>simp[bV])
theorem yz{bs:List UInt8}{i:Nat}(h:i<bs.length):(bV bs)[i]?=some (u8 (bs.getD i 0)):=by
 grind [bV]
theorem y8{x q:Nat}(y:Nat)(h:x*2 ^ (min q 64)=y)(hy:y<9223372036854775808):Value.int .i64 (IntKind.i64.wrap ((x:Int)*2 ^ (min ((q:Int).toNat) IntKind.i64.bits))) = .int .i64 (y:Int):=by
 have e:(x:Int)*2 ^ (min ((q:Int).toNat) IntKind.i64.bits)=(y:Int):=by
  show(x:Int)*2 ^ (min q 64)=_
  grind
 grind [cV,gy]
end Go.Proofs.YthnfckodljbgbaaGreatDoor
