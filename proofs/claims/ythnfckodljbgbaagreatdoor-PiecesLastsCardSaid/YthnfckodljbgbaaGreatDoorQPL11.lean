import Derived.Test.YthnfckodljbgbaaGreatDoorQPL3
import Derived.Test.YthnfckodljbgbaaGreatDoorQPL5
import Derived.Test.YthnfckodljbgbaaGreatDoorQPL6
import Derived.Test.YthnfckodljbgbaaGreatDoorQPL7
import Derived.Test.YthnfckodljbgbaaGreatDoorQPL8
import Derived.Test.YthnfckodljbgbaaGreatDoorQPL9
import Derived.Test.YthnfckodljbgbaaGreatDoorQPL10
set_option linter.unusedSimpArgs false
set_option linter.unusedVariables false
set_option maxHeartbeats 1000000
set_option maxRecDepth 20000
set_option linter.defProp false
namespace Go.Proofs.YthnfckodljbgbaaGreatDoor
open Go Go.SL
def nu:Int→List (List UInt8)→List (Int × List UInt8)
 | _,[]=>[]
 | i,x::l=>(i,x)::nu (i+1) l
def we(k:UInt8)(d:Dg)(ls:List (List UInt8)):List (Int × List UInt8):=(1,[k])::(2,d.bs)::nu 3 ls
def lE(k:UInt8)(d:Dg)(ls:List (List UInt8)):List UInt8:=eT (we k d ls)
theorem Fy:∀(i:Int) (l:List (List UInt8)) (x:List UInt8),nu i (l++[x])=nu i l++[(i+l.length,x)]
 | i,[],x=>by simp[nu]
 | i,y::l,x=>by
  simp only[List.cons_append,nu,Fy (i+1) l x,List.length_cons,List.cons_append]
  grind
theorem v8:∀(i:Int) (l:List (List UInt8)) (last:Int),last<i→i+l.length≤64→fT last (nu i l)=true
 | i,[],last,h,h2=>rfl
 | i,y::l,last,h,h2=>by
  simp only[nu,fT,List.length_cons]at h2 ⊢
  rw[decide_eq_true h,decide_eq_true (show i≤63 by omega),v8 (i+1) l i ag ag]
  rfl
theorem MU{n:Int}{b:List UInt8}(h:b.length≤32):(mQ (n,b)).length≤34:=by
 grind [uv,gl,mQ]
theorem zo:∀(i:Int) (l:List (List UInt8)) (z:Int × List UInt8),z∈nu i l→z.2∈l
 | i,[],z,h=>by cases h
 | i,y::l,z,h=>by
  rcases List.mem_cons.1 h with rfl|h
  ·grind
  ·exact List.mem_cons_of_mem _ (zo (i+1) l z h)
theorem ur:∀(i:Int) (l:List (List UInt8)),(nu i l).length=l.length
 | i,[]=>rfl
 | i,y::l=>by simp[nu,ur (i+1) l]
theorem KD:∀(l:List (Int × List UInt8)),(∀z∈l,z.2.length≤32)→(eT l).length≤34*l.length
 | [],_=>by simp[eT]
 | z::l,h=>by
  have h1:=KD l (fun w hw=>h w (List.mem_cons_of_mem _ hw))
  grind [MU,eT,mQ]
theorem iu(k:UInt8)(d:Dg)(ls:List (List UInt8))(hl:ls.length≤20)(hx:∀x∈ls,x.length≤32):(lE k d ls).length≤748:=by
 have:=KD (we k d ls) (fun z hz=>by
  unfold we at hz
  rcases List.mem_cons.1 hz with rfl|hz
  ·simp
  rcases List.mem_cons.1 hz with rfl|hz
  ·simp only;rw[d.len];omega
  ·exact hx _ (zo 3 ls z hz))
 grind [we,ur,lE]
theorem Ml(k:UInt8)(d:Dg)(ls:List (List UInt8))(hl:ls.length≤20):fT 0 (we k d ls)=true:=by
 grind [we,fT,v8]
attribute [local irreducible] J K aD Ends ae aF aL bU bo aU bh bq cg aE
theorem sY(k:UInt8)(d:Dg)(Z:HP)(mv:Value)(ls:List (List UInt8))(hv:sJ Z mv ls)(hl:ls.length≤20)(ad':∀x∈ls,x.length≤32) :
  aD Tryz.prog 86 [u8 k,dV d,mv] [Z] (fun r H=>H=[aF 5 1 r (lE k d ls).length (bV (lE k d ls)),Z]):=by
 have Ew:=iu k d ls hl ad'
 have hrr:=Ml k d ls hl
 obtain⟨cs,dO,ki,⟨a2,c2,rfl,ya⟩,sw⟩:=hv
 unfold dV
 refine aD.aw Tryz.func86 Tryz.ntmps86 fun G F R hE=>?_
 refine aB rfl ?_
 refine bG zr zr bE ?_
 intro b4
 refine go ?_
 refine ao (cs:=bV [k]) zr zr zr zr zr zr zr zr zr bE ?_
 intro r0
 refine go ?_
 refine iW (U:=aR) zr zr zr zr zr (go ?_)
 obtain⟨xZ,zU⟩:∃xZ:List It,xZ=[⟨1,.slice (some ⟨r0,0,none⟩) 1 1,[k]⟩,⟨2,.slice (some ⟨b4,0,none⟩) 32 32,d.bs⟩]:=⟨_,rfl⟩
 have h2l:xZ.length=2:=by rw[zU];rfl
 refine ao (cs:=xZ.flatMap my) zr zr zr zr zr zr zr zr (by rw[zU];rfl) bE ?_
 intro row
 refine go ?_
 obtain⟨Y,hY⟩:∃Y,Y=Sep [ae r0 (cl (bV [k]) 5),ae b4 (cl (dC d) 37),Z]:=⟨_,rfl⟩
 have hYZ:∀h,Y h→∃h',sub h' h∧Z h':=by rw[hY];exact aY (i:=2) rfl
 have hB0:∀z∈xZ,eO Y z.v z.b:=by
  intro z hz
  rw[zU]at hz
  simp only[List.mem_cons,List.not_mem_nil,or_false]at hz
  rcases hz with rfl|rfl
  ·rw[hY];exact eO.mono (⟨Vw.ae rfl,_,_,rfl,Nat.le_refl _⟩) (aY (i:=0) rfl)
  ·rw[hY];exact(eO.block d.len (dL d)).mono (aY (i:=1) rfl)
 have Ez:xZ.map It.p=(1,[k])::(2,d.bs)::nu 3 (ls.take 0):=by rw[zU];rfl
 refine ai (H':=aF 192 2 (.slice (some ⟨row,0,none⟩) xZ.length 2) xZ.length (xZ.flatMap my)::Y::F) ?_ ?_
 ·rw[hY]
  refine ak.trans (H2:=ae r0 (cl (bV [k]) 5)::ae b4 (cl (dC d) 37)::Z::ae row (cl (xZ.flatMap my++[]) 192)::F) (by rw[List.append_nil];exact ah) ?_
  refine(ak.bX [_,_,_] _).trans ?_
  refine(ak.perm (List.Perm.swap ..)).trans ?_
  rw[h2l]
  exact eS 192 2 row 2 2 (xZ.flatMap my) [] _ (by rw[zU];rfl) (Nat.le_refl _) (by rw[zU];simp[my])
 refine bB (fun y:Nat × List It × Option Addr × Nat=>y.1≤ls.length∧y.2.1.map It.p=(1,[k])::(2,d.bs)::nu 3 (ls.take y.1)∧∀z∈y.2.1,eO Y z.v z.b) (fun y=>ls.length-y.1)
  (fun y=>[(7,.slice y.2.2.1 y.2.1.length y.2.2.2),(18,.slice a2 ls.length c2),(19,.int .i64 (ls.length:Int)),(20,.int .i64 (y.1:Int))])
  (fun y=>aF 192 2 (.slice y.2.2.1 y.2.1.length y.2.2.2) y.2.1.length (y.2.1.flatMap my)::Y::F) (0,xZ,some ⟨row,0,none⟩,2) ⟨Nat.zero_le _,Ez,hB0⟩ rfl (by rw[h2l];exact ck) ah ?_
 clear Ez hB0 h2l zU
 rintro⟨i,fX,ia,ic⟩⟨hi,rW,xO⟩ ih
 simp only at hi rW xO
 dsimp only
 have acY:fX.length=i+2:=by
  have:=congrArg List.length rW
  grind [ur]
 refine go ?_
 refine au zr zr ?_ ?_
 ·intro dJ
  have gz:i<ls.length:=by omega
  obtain⟨x,hx⟩:∃x,ls[i]?=some x:=⟨ls[i],by simp⟩
  obtain⟨cv,Jq,zZ⟩:=sw i x hx
  obtain⟨xa,xc,rfl,hxc⟩:=zZ.2
  obtain⟨b,o,gZ,fL⟩:=dO.some (by intro h;rw[h]at ki;simp at ki;omega)
  simp only[Value.slice.injEq]at fL
  obtain⟨rfl,_,rfl⟩:=fL
  have aed:=dO.mono hYZ
  refine go ?_
  refine bR i zr zr zr zr zr zr zr zr gz ?_
  refine aK ?_
  refine aX 1 i zr zr zr aed rfl Jq zr zr (go ?_)
  refine ao (cs:=my ⟨3+(i:Int),.slice xa x.length xc,x⟩) zr zr zr zr zr zr zr zr zr bE ?_
  intro SZ
  refine go ?_
  refine aT (mm:=1) (news:=my ⟨3+(i:Int),.slice xa x.length xc,x⟩) 1 0 rfl rfl rfl rfl rfl rfl rfl rfl rfl rfl rfl rfl (Vw.ae rfl) rfl (by intro v hv;simp[my]at hv;rcases hv with rfl|rfl <;> rfl) ag (by show(_+_)*32≤_;omega) (fun _=>rfl) bE ?_
  intro v1
  rw[show fX.flatMap my++my (⟨3+(i:Int),.slice xa x.length xc,x⟩:It)=(fX++[(⟨3+(i:Int),.slice xa x.length xc,x⟩:It)]).flatMap my from by simp,show fX.length+1=(fX++[(⟨3+(i:Int),.slice xa x.length xc,x⟩:It)]).length from by simp]
  refine aP 1 rfl ?_
  rintro ja jc rfl
  have Q8:(fX++[(⟨3+(i:Int),.slice xa x.length xc,x⟩:It)]).map It.p=(1,[k])::(2,d.bs)::nu 3 (ls.take (i+1)):=by
   rw[List.map_append,rW,List.take_add_one,hx,Option.toList_some,Fy,List.length_take,Nat.min_eq_left ag]
   rfl
  refine go ?_
  refine aM ih (i+1,fX++[(⟨3+(i:Int),.slice xa x.length xc,x⟩:It)],ja,jc) rfl ⟨by simp only;omega,Q8,fun z hz=>(by rcases List.mem_append.1 hz with h|h;exact xO z h;rw[List.mem_singleton.1 h];exact zZ.mono hYZ)⟩ (by simp only;omega) ck ah
 ·intro fO
  have tR:i=ls.length:=by omega
  subst tR
  rw[List.take_length]at rW
  have ZR:fX.map It.p=we k d ls:=rW
  clear ih
  refine dg 0 rfl ?_
  intro Zj
  have Gr:=nW (Sep [aF 192 2 (.slice ia fX.length ic) fX.length (fX.flatMap my),Y]) (.slice ia fX.length ic) fX ⟨Zj.mono (aY (i:=0) rfl),fun z hz=>(xO z hz).mono (aY (i:=1) rfl)⟩ ag (by rw[ZR];exact hrr) (by rw[ZR];exact Nat.le_trans Ew ag)
  rw[ZR]at Gr
  refine go ?_
  refine aJ (ak.bX [_,_] _) ?_
  refine aI Gr ?_
  rintro _ _⟨rr,rfl,rfl⟩
  refine go ?_
  refine ai (ak.cons _ (ak.cK [_,_] _)) ?_
  refine ai (H':=Y::aF 5 1 rr (lE k d ls).length (bV (lE k d ls))::F) ah ?_
  rw[hY]
  refine ai (ak.cK [_,_,_] _) ?_
  refine ai (H':=aF 5 1 rr (lE k d ls).length (bV (lE k d ls))::Z::F) ah ?_
  refine aO hE Tryz.func86 rfl _ zr zr ah
def iD(x:Bl):List (List UInt8):=[uv x.size.toNat,uv x.piece.toNat,x.root.bs]
def cD(x:Bl):List UInt8:=lE 1 x.d (iD x)
theorem lp(x:Bl)(hs:x.size≤1000000000000)(hp:x.piece≤1000000000000):∀b∈iD x,b.length≤32:=fun b hb=>by
 simp only[iD,List.mem_cons,List.not_mem_nil,or_false]at hb
 rcases hb with rfl|rfl|rfl
 ·grind [qh]
 ·grind [qh]
 ·rw[x.root.len];omega
def sG(x:Bl)(hs:0≤x.size∧x.size≤1000000000000)(hp:0≤x.piece∧x.piece≤1000000000000) :
  aD Tryz.prog 30 [dG x] [] (fun r H=>H=[aF 5 1 r (cD x).length (bV (cD x))]):=by
 obtain⟨sz,iY⟩:∃m:Nat,x.size=m:=⟨x.size.toNat,ag⟩
 obtain⟨pc,ys⟩:∃m:Nat,x.piece=m:=⟨x.piece.toNat,ag⟩
 have hlen:=lp x hs.2 hp.2
 unfold dG
 refine aD.aw Tryz.func30 Tryz.ntmps30 fun G F R hE=>?_
 refine aB rfl ?_
 refine bG zr zr bE ?_
 intro b1
 refine go ?_
 refine aG (fun w=>Sat G w ([ae b1 (cl (bH x) 39)])) (dj 0 5 (dj 6 3 (.st 10 (.st 11 (.act 5 (.act 9 (.act 12 (.act 13 (.st 14 .nil))))))))) rfl aq aq aq eo ?_
 (repeat(first|refine eZ ?_|refine cJ (U:=aR) 0 zr zr zr zr zr zr ?_|refine iW (U:=aR) zr zr zr zr zr ?_))
 refine az 7 ((.int .u64 (sz:Int))) rfl ((congrArg (Value.int .u64) iY)) ?_
 refine az 11 ((.int .u64 (pc:Int))) rfl ((congrArg (Value.int .u64) ys)) ?_
 refine dy (nc sz ag) ?_
 rintro r8 _ rfl
 refine aP 0 rfl ?_
 rintro a8 c8 rfl
 refine go ?_
 refine dy (nc pc ag) ?_
 rintro r9 _ rfl
 refine aP 0 rfl ?_
 rintro a9 c9 rfl
 refine gX (bs:=uv pc) 0 rfl ?_
 intro hb9
 refine gX (bs:=uv sz) 1 rfl ?_
 intro O0
 refine go ?_
 obtain⟨cs,kP⟩:∃cs:List Value,cs=[.slice a8 (uv sz).length c8,.slice a9 (uv pc).length c9,.slice (some ⟨b1,34,none⟩) 32 32]:=⟨_,rfl⟩
 refine ao (cs:=cs) zr zr zr zr zr zr zr zr (by rw[kP];rfl) (fun _ _ hw=>hw.cL ah) ?_
 intro row
 have nw:sJ (Sep [ae row (cl cs 40),aF 5 1 (.slice a8 (uv sz).length c8) (uv sz).length (bV (uv sz)),aF 5 1 (.slice a9 (uv pc).length c9) (uv pc).length (bV (uv pc)),ae b1 (cl (bH x) 39)]) (.slice (some ⟨row,0,none⟩) 3 3) (iD x):=by
  refine⟨cs,(Vw.ae (by rw[kP];rfl)).mono (aY (i:=0) rfl),by rw[kP];rfl,⟨_,_,rfl,Nat.le_refl _⟩,fun i y hy=>?_⟩
  have aep:x.size.toNat=sz:=by omega
  have aeA:x.piece.toNat=pc:=by omega
  unfold iD at hy
  rw[aep,aeA]at hy
  match i,hy with
  | 0,hy=>cases hy;exact⟨_,by rw[kP];rfl,O0.mono (aY (i:=1) rfl)⟩
  | 1,hy=>cases hy;exact⟨_,by rw[kP];rfl,hb9.mono (aY (i:=2) rfl)⟩
  | 2,hy=>cases hy;exact⟨_,by rw[kP];rfl,(eO.Y3 x.root.len (by rw[← dL];exact Rx x)).mono (aY (i:=3) rfl)⟩
  | i+3,hy=>simp at hy
 have TG:=sY 1 x.d _ _ (iD x) nw (by simp[iD]) hlen
 unfold dV at TG
 clear nw
 clear kP
 refine go ?_
 refine aJ (ak.trans (H2:=ae row (cl cs 40)::aF 5 1 (.slice a8 (uv sz).length c8) (uv sz).length (bV (uv sz))::aF 5 1 (.slice a9 (uv pc).length c9) (uv pc).length (bV (uv pc))::ae b1 (cl (bH x) 39)::F) ah (ak.bX [_,_,_,_] _)) ?_
 refine fk rfl rfl rfl rfl TG ah ?_ (fun _ _ w hp hw=>by obtain rfl:=hp;exact hw.cL (ak.trans (ak.pick [1] rfl) (ak.trans (ak.cK [_,_,_,_] _) ah)))
 rintro rr _ rfl
 refine go ?_
 refine ai (H':=aF 5 1 rr (cD x).length (bV (cD x))::F) ah ?_
 refine aO hE Tryz.func30 rfl _ zr zr ah
end Go.Proofs.YthnfckodljbgbaaGreatDoor
namespace Go.Proofs.YthnfckodljbgbaaGreatDoor
open Go Go.SL
def NR(e:TypeId)(H:List HP):ak H (bh e []::H):=ak.pS H
attribute [local irreducible] J K aD Ends ae aF aL bU bo aU bh bq cg aE
def Ct(x:Bl):aD Tryz.prog 32 [dG x] [] (fun r H=>∃y:Tk,r=ptr y.yb∧H=[rn y]∧y.x=x∧(y.n:Int)=cC x∧y.ws=List.replicate ((y.n+63)/64) 0#64∧y.pf=fun _=>none):=by
 have ki:=wM x
 obtain⟨n,hn⟩:∃n:Nat,cC x=n:=⟨(cC x).toNat,ag⟩
 have hc:=xh x
 rw[hn]at hc
 have zQ:=Sm n ag
 unfold dG at hc ⊢
 unfold eF at zQ
 refine aD.aw Tryz.func32 Tryz.ntmps32 fun G F R hE=>?_
 refine aB rfl ?_
 refine bG zr zr bE ?_
 intro b1
 refine go ?_
 refine aH (U:=aR) (l:=bH x) 0 zr zr zr zr zr zr ?_
 refine aN hc ?_
 refine go ?_
 refine aI zQ ?_
 rintro _ _⟨sb,wv,rfl,rfl⟩
 refine go ?_
 refine aJ (H':=ae b1 (cl (bH x) 39)::ae sb (cl [.int .i64 (n:Int),wv] 137)::aF 133 1 wv (List.replicate ((n+63)/64) 0#64).length (qV (List.replicate ((n+63)/64) 0#64))::F) ah (go ?_)
 refine aH (U:=aR) (l:=bH x) 0 zr zr zr zr zr zr (go ?_)
 refine j9 rfl bE ?_
 intro mb
 refine aJ (ak.fold (B:=[_]) (A:=aL (Value.int .i64) mb []) (fun h hs=>⟨h,sub.refl h,lG (Value.int .i64) mb h (ez hs)⟩)) ?_
 refine go ?_
 refine bG zr zr bE ?_
 intro yb
 refine go ?_
 obtain⟨y,hy⟩:∃y:Tk,y=⟨yb,sb,mb,x,n,List.replicate ((n+63)/64) 0#64,fun _=>none⟩:=⟨_,rfl⟩
 have hR:LA (wv,[],[]) y:=fun k=>by rw[hy];rfl
 refine ai (H':=rS y (wv,[],[])++F) ?_ ?_
 ·rw[hy]
  unfold rS
  exact ak.trans (NR 37 _) ah
 refine ai (iM hR F) ?_
 ((refine ad hE Tryz.func32 zr zr ⟨y,by rw[hy];rfl,rfl,by rw[hy],by rw[hy];exact hn.symm,by rw[hy],by rw[hy]⟩))
end Go.Proofs.YthnfckodljbgbaaGreatDoor
namespace Go.Proofs.YthnfckodljbgbaaGreatDoor
open Go Go.SL
def Y5(x:jB):jB:=(x >>> 1 &&& BitVec.ofInt 64 6148914691236517205)+(x &&& BitVec.ofInt 64 6148914691236517205)
def Y4(x:jB):jB:=(x >>> 2 &&& BitVec.ofInt 64 3689348814741910323)+(x &&& BitVec.ofInt 64 3689348814741910323)
def Tb(x:jB):jB:=(x >>> 4+x) &&& BitVec.ofInt 64 1085102592571150095
def Dr(k:Nat)(x:jB):jB:=x+x >>> k
def Mt(x:jB):jB:=Dr 32 (Dr 16 (Dr 8 (Tb (Y4 (Y5 x)))))
def Mu(y:jB):Int:=IntKind.i64.wrap ((BitVec.ofInt IntKind.i64.bits (IntKind.i64.wrap (y.toNat:Int)) &&& BitVec.ofInt IntKind.i64.bits 127).toNat:Int)
theorem KH(y:jB):0≤Mu y∧Mu y≤127:=by
 have h:(BitVec.ofInt IntKind.i64.bits (IntKind.i64.wrap (y.toNat:Int)) &&& BitVec.ofInt IntKind.i64.bits 127).toNat≤127:=by
  rw[BitVec.toNat_and]
  exact Nat.le_trans Nat.and_le_right (by decide)
 grind [Mu,cV,gy]
def wU(p:jB)(c:Int):IntKind.u64.wrap ((BitVec.ofInt IntKind.u64.bits (p.toNat:Int) &&& BitVec.ofInt IntKind.u64.bits c).toNat:Int)=((p &&& BitVec.ofInt 64 c).toNat:Int):=by
 rw[ox]
 exact nz (p &&& BitVec.ofInt 64 c)
def u9(ws:List jB):Int:=(ws.map fun w=>Mu (Mt w)).sum
theorem Lv(ws:List jB):0≤u9 ws∧u9 ws≤127*ws.length:=by
 unfold u9
 induction ws with
 | nil=>simp
 | cons w ws ih =>
  have:=KH (Mt w)
  grind
attribute [local irreducible] J K aD Ends ae aF aL bU bo aU bh bq cg aE
def RX(x:jB):aD Tryz.prog 100 [.int .u64 (x.toNat:Int)] [] (fun r H=>r = .int .i64 (Mu (Mt x))∧H=[]):=by
 refine aD.aw Tryz.func100 Tryz.ntmps100 fun G F R hE=>?_
 refine go ?_
 refine qZ (p:=x) 1 zr zr zr zr ag (go ?_)
 refine az 5 ((.int .u64 ((x >>> 1 &&& BitVec.ofInt 64 6148914691236517205).toNat:Int))) rfl ((congrArg (Value.int .u64) (wU _ _))) ?_
 refine az 7 ((.int .u64 ((x &&& BitVec.ofInt 64 6148914691236517205).toNat:Int))) rfl ((congrArg (Value.int .u64) (wU _ _))) ?_
 refine xe (p:=x >>> 1 &&& BitVec.ofInt 64 6148914691236517205) (q:=x &&& BitVec.ofInt 64 6148914691236517205) zr zr zr ?_
 rw[show(x >>> 1 &&& BitVec.ofInt 64 6148914691236517205)+(x &&& BitVec.ofInt 64 6148914691236517205)=Y5 x from rfl]
 obtain⟨a,ha⟩:∃a,a=Y5 x:=⟨_,rfl⟩
 rw[← ha]
 refine go ?_
 refine qZ (p:=a) 2 zr zr zr zr ag (go ?_)
 refine az 11 ((.int .u64 ((a >>> 2 &&& BitVec.ofInt 64 3689348814741910323).toNat:Int))) rfl ((congrArg (Value.int .u64) (wU _ _))) ?_
 refine az 13 ((.int .u64 ((a &&& BitVec.ofInt 64 3689348814741910323).toNat:Int))) rfl ((congrArg (Value.int .u64) (wU _ _))) ?_
 refine xe (p:=a >>> 2 &&& BitVec.ofInt 64 3689348814741910323) (q:=a &&& BitVec.ofInt 64 3689348814741910323) zr zr zr ?_
 rw[show(a >>> 2 &&& BitVec.ofInt 64 3689348814741910323)+(a &&& BitVec.ofInt 64 3689348814741910323)=Y4 a from rfl]
 obtain⟨b,hb⟩:∃b,b=Y4 a:=⟨_,rfl⟩
 rw[← hb]
 refine go ?_
 refine qZ (p:=b) 4 zr zr zr zr ag (go ?_)
 refine xe (p:=b >>> 4) (q:=b) zr zr zr (go ?_)
 refine az 20 ((.int .u64 ((Tb b).toNat:Int))) rfl ((congrArg (Value.int .u64) (wU _ _))) ?_
 refine az 21 ((.int .u64 ((Tb b).toNat:Int))) rfl ((congrArg (Value.int .u64) (wU _ _))) ?_
 obtain⟨c,hc⟩:∃c,c=Tb b:=⟨_,rfl⟩
 rw[← hc]
 refine qZ (p:=c) 8 zr zr zr zr ag (go ?_)
 refine xe (p:=c) (q:=c >>> 8) zr zr zr ?_
 rw[show c+c >>> 8=Dr 8 c from rfl]
 obtain⟨d,hd⟩:∃d,d=Dr 8 c:=⟨_,rfl⟩
 rw[← hd]
 refine go ?_
 refine qZ (p:=d) 16 zr zr zr zr ag (go ?_)
 refine xe (p:=d) (q:=d >>> 16) zr zr zr ?_
 rw[show d+d >>> 16=Dr 16 d from rfl]
 obtain⟨e,he⟩:∃e,e=Dr 16 d:=⟨_,rfl⟩
 rw[← he]
 refine go ?_
 refine qZ (p:=e) 32 zr zr zr zr ag (go ?_)
 refine xe (p:=e) (q:=e >>> 32) zr zr zr ?_
 rw[show e+e >>> 32=Dr 32 e from rfl,show Dr 32 e=Mt x from by rw[he,hd,hc,hb,ha];rfl]
 refine go ?_
 refine jv zr zr zr zr zr zr (go ?_)
 refine ad hE Tryz.func100 zr zr ⟨rfl,rfl⟩
def A6(sb n:Nat)(wv:Value)(ws:List jB)(hl:ws.length≤65536):aD Tryz.prog 43 [ptr sb] (eF sb n wv ws) (fun r H=>r = .int .i64 (u9 ws)∧H=eF sb n wv ws):=by
 unfold eF
 refine aD.aw Tryz.func43 Tryz.ntmps43 fun G F R hE=>?_
 refine dN 1 rfl ?_
 rintro a c rfl
 refine dg 1 rfl ?_
 intro dO
 refine go ?_
 refine bB (fun i:Nat=>i≤ws.length) (fun i=>ws.length-i) (fun i=>[(3,.int .i64 (u9 (ws.take i))),(9,.slice a ws.length c),(10,.int .i64 (ws.length:Int)),(11,.int .i64 (i:Int))])
  (fun _=>ae sb (cl [.int .i64 (n:Int),.slice a ws.length c] 137)::aF 133 1 (.slice a ws.length c) ws.length (qV ws)::F) 0 (Nat.zero_le _) rfl ck ah ?_
 intro i hi ih
 have VE:=Lv (ws.take i)
 rw[List.length_take,Nat.min_eq_left hi]at VE
 refine go ?_
 refine au zr zr ?_ ?_
 ·intro dJ
  have gz:i<ws.length:=by omega
  obtain⟨w,hw⟩:∃w,ws[i]?=some w:=⟨ws[i],by simp[gz]⟩
  have kV:u9 (ws.take (i+1))=u9 (ws.take i)+Mu (Mt w):=by
   unfold u9
   rw[List.take_add_one,hw];simp
  have K3:=KH (Mt w)
  obtain⟨b,o,gZ,fL⟩:=dO.some (qNe gz)
  simp only[Value.slice.injEq]at fL
  obtain⟨rfl,_,rfl⟩:=fL
  refine go ?_
  refine bR i zr zr zr zr zr zr zr zr gz ?_
  refine aK ?_
  refine aX 1 i zr zr zr dO rfl (Dl hw) zr zr ?_
  unfold Pa
  refine go ?_
  refine aN (RX w) ?_
  refine go ?_
  refine bj 3 ((.int .i64 (u9 (ws.take (i+1))))) rfl ((congrArg (Value.int .i64) kV.symm)) ?_
  refine aM ih (i+1) rfl ag ag ck ah
 ·intro fO
  have tR:i=ws.length:=by omega
  subst tR
  rw[List.take_length]
  clear ih
  refine go ?_
  refine ad hE Tryz.func43 zr zr ⟨rfl,rfl⟩
def Tk.put(y:Tk)(i:Nat)(l:List Dg):Tk:=⟨y.yb,y.sb,y.mb,y.x,y.n,ku y.ws i true,fun j=>if j=(i:Int)then some l else y.pf j⟩
def EL(y:Tk)(i:Nat)(hi:i<y.n)(hn:y.n≤65536)(hw:y.n≤y.ws.length*64)(P:HP)(pv:Value)(l:List Dg)(hv:Vw P pv l.length (l.flatMap dC))(hl:l.length≤1000000) :
  aD Tryz.prog 42 [ptr y.yb,.int .i64 (i:Int),pv] [rn y,P] (fun r H=>r = .tuple #[]∧H=[rn (y.put i l),P]):=by
 have ki:=AZ P pv l hv hl
 obtain⟨a,c,rfl⟩:=hv.shape
 refine aD.aw Tryz.func42 Tryz.ntmps42 fun G F R hE=>?_
 refine eB (fQ y) ?_
 rintro⟨wv,cs,M⟩ hz
 have wA:=HW y.sb y.n wv y.ws hn hw i hi true
 unfold eF at wA
 refine ai (H':=ae y.yb (cl (nA y) 80)::ae y.sb (cl [.int .i64 (y.n:Int),wv] 137)::aF 133 1 wv y.ws.length (qV y.ws)::aL (Value.int .i64) y.mb cs::bh 37 M::P::F) (by unfold rS;exact ah) ?_
 refine go ?_
 refine aN wA ?_
 refine go ?_
 refine aG (fun w=>Sat G w ([ae y.yb (cl (nA y) 80)])) (dj 0 6 (.act 6 (.act 7 .nil))) rfl aq aq aq eo ?_
 refine go ?_
 refine dy ki ?_
 rintro r8 _ rfl
 refine go ?_
 refine aJ (H':=aL (Value.int .i64) y.mb cs::aF 37 32 r8 l.length (l.flatMap dC)::bh 37 M::ae y.yb (cl (nA y) 80)::ae y.sb (cl [.int .i64 (y.n:Int),wv] 137)::aF 133 1 wv (ku y.ws i true).length (qV (ku y.ws i true))::P::F) ah ?_
 refine eV (kv:=Value.int .i64) (es:=cs) (key:=(i:Int)) (v:=r8) 0 (tw Tryz.underlying3) gf zr zr zr zr zr zr zr zr (go ?_)
 refine ai (ak.perm (List.Perm.swap ..)) ?_
 refine ai (H':=aF 37 32 r8 l.length (l.flatMap dC)::bh 37 M::aL (Value.int .i64) y.mb (gG cs (i:Int) r8)::ae y.yb (cl (nA y) 80)::ae y.sb (cl [.int .i64 (y.n:Int),wv] 137)::aF 133 1 wv (ku y.ws i true).length (qV (ku y.ws i true))::P::F) ah ?_
 refine ai (ak.join _ _ _) ?_
 refine eB (Fg 37 32 l.length r8 (l.flatMap dC) M) ?_
 rintro M'⟨afr,dU⟩
 have hz':LA (wv,gG cs (i:Int) r8,M') (y.put i l):=LA.put hz (i:Int) r8 wv l M' dU afr _ rfl
 refine ai (H':=rS (y.put i l) (wv,gG cs (i:Int) r8,M')++(P::F)) (by unfold rS;exact ah) ?_
 refine ai (iM hz' _) ?_
 refine cd hE Tryz.func42 rfl _ rfl ⟨rfl,rfl⟩ ah
theorem j5{ts:List Tk}{x:Bl}{y:Tk}(h:fH ts x=some y):∃i:Nat,ts[i]?=some y∧y.x=x:=by
 unfold fH at h
 have h1:=List.find?_some h
 obtain⟨i,hi⟩:=List.mem_iff_getElem?.1 (List.mem_of_find?_eq_some h)
 grind
def Qj(o:Option Tk):Value:=match o with
 | none => .tuple #[.int .i64 0,.int .i64 4]
 | some y => .tuple #[.int .i64 ((y.n:Int)-u9 y.ws),.int .i64 0]
def Hm(tb bs jb:Nat)(tv:Value)(br:Bool)(ts:List Tk)(x:Bl)(hl:ts.length≤1000000)(hn:∀y∈ts,y.n≤65536)(hw:∀y∈ts,y.ws.length≤65536) :
  aD Tryz.prog 19 [ptr tb,dG x] (fe tb bs jb tv ts br) (fun r H=>r=Qj (fH ts x)∧H=fe tb bs jb tv ts br):=by
 have hf:=mz tb bs jb tv br ts x hl
 unfold fe at hf ⊢
 unfold dG at hf ⊢
 refine aD.aw Tryz.func19 Tryz.ntmps19 fun G F R hE=>?_
 refine aB rfl ?_
 refine bG zr zr bE ?_
 intro b3
 refine go ?_
 refine aH (U:=aR) (l:=bH x) 0 zr zr zr zr zr zr (go ?_)
 refine aN hf ?_
 refine go ?_
 cases oY:fH ts x with
 | none =>
  rw[oY]at hE
  unfold SR
  refine go ?_
  refine ad hE Tryz.func19 zr zr ⟨rfl,rfl⟩
 | some y =>
  rw[oY]at hE
  obtain⟨i,hi,hx⟩:=j5 oY
  have wu:y∈ts:=List.mem_of_getElem? hi
  have MY:=hn y wu
  have Dz:=hw y wu
  have VE:=Lv y.ws
  unfold SR
  refine go ?_
  refine ai (H':=bD ts::ae tb (cl [ptr bs,ptr jb,tv,.bool br] 74)::aF 76 1 tv ts.length (ts.map cT)::F) ah ?_
  refine ai (kq hi _) ?_
  refine eB (fQ y) ?_
  rintro⟨wv,cs,M⟩ hz
  refine ai (H':=ae y.yb (cl (nA y) 80)::ae y.sb (cl [.int .i64 (y.n:Int),wv] 137)::aF 133 1 wv y.ws.length (qV y.ws)::aL (Value.int .i64) y.mb cs::bh 37 M::bD (ts.take i++ts.drop (i+1))::ae tb (cl [ptr bs,ptr jb,tv,.bool br] 74)::aF 76 1 tv ts.length (ts.map cT)::F) (by unfold rS;exact ah) ?_
  have Jn:=A6 y.sb y.n wv y.ws Dz
  unfold eF at Jn
  refine aG (fun w=>Sat G w ([ae y.yb (cl (nA y) 80)])) (dj 0 4 (dj 5 4 (.act 4 (.act 9 (dj 10 3 .nil))))) rfl aq aq aq eo ?_
  refine go ?_
  refine bp (lR y.sb y.n wv) ?_
  refine go ?_
  refine bp Jn ?_
  refine go ?_
  refine ai (H':=rS y (wv,cs,M)++(bD (ts.take i++ts.drop (i+1))::ae tb (cl [ptr bs,ptr jb,tv,.bool br] 74)::aF 76 1 tv ts.length (ts.map cT)::F)) (by unfold rS;exact ah) ?_
  refine ai (iM hz _) ?_
  refine ai (lx hi _) ?_
  refine ai (H':=ae tb (cl [ptr bs,ptr jb,tv,.bool br] 74)::aF 76 1 tv ts.length (ts.map cT)::bD ts::F) ah ?_
  refine ad hE Tryz.func19 zr zr ⟨rfl,rfl⟩
theorem BA(v:Value)(l:List Tk)(X:HP)(g:FuncId)(cap:List Value)(p:Tk→Bool)(hlen:l.length≤1000000)(hf:∀x∈l,aD Tryz.prog g (ptr x.yb::cap) [X] (fun v H=>v = .bool (p x)∧H=[X])) :
  aD Tryz.prog 164 [v,.func (.func g) #[] cap.toArray] [aF 76 1 v l.length (l.map cT),X]
   (fun r H=>H=[aF 76 1 r (l.filter fun x => !p x).length ((l.filter fun x => !p x).map cT),X]):=by
 refine aD.aw Tryz.func164 Tryz.ntmps164 fun G F R hE=>?_
 refine dN 0 rfl ?_
 rintro a0 c rfl
 refine go ?_
 refine jt 0 rfl ?_
 intro hv
 refine cO [0,1] zr zr zr zr (vE _ X _ l hv hlen g cap p hf) rfl nq ?_
 rintro _ _⟨rfl,rfl⟩
 refine go ?_
 refine au zr zr ?_ ?_
 ·intro h0
  have rY:l.any p=false:=oD.1 ag
  have oH:(l.filter fun x => !p x)=l:=List.filter_eq_self.2 fun x hx=>by
   grind
  rw[oH]at hE
  refine go ?_
  refine aO hE Tryz.func164 rfl _ zr zr (ak.fin [0,1] 0 zr zr)
 ·intro h0
  obtain⟨i0,x0,OX,hx0,Ez,wF⟩:=zL h0
  have ae1:i0<l.length:=by
   grind
  rw[OX]
  refine go ?_
  refine tK (fun a kT hn _=>by omega) ?_
  rintro b o c' pre cf vI nv hnc kj ki
  simp only[Value.slice.injEq,true_and]at vI
  obtain⟨rfl,rfl⟩:=vI
  have h1:l.take (i0+1)=l.take i0++[x0]:=by rw[List.take_add_one,hx0];rfl
  have K9:(l.take i0).filter (fun x => !p x)=l.take i0:=List.filter_eq_self.2 fun x hx=>by simp[wF x hx]
  refine bB (fun s:Nat × Nat × List Tk=>s.1<s.2.1∧s.2.1≤l.length∧s.2.2.length=l.length∧s.2.2.take s.1=(l.take s.2.1).filter (fun x => !p x)∧s.2.2.drop s.2.1=l.drop s.2.1) (fun s=>l.length-s.2.1)
   (fun s=>[(0,.slice (some ⟨b,o,none⟩) l.length c),(1,.func (.func g) #[] cap.toArray),(5,.int .i64 s.1),(6,.int .i64 s.2.1)])
   (fun s=>ae b (cl (pre++s.2.2.map cT++cf) 76)::X::F) (i0,i0+1,l) ⟨by simp,by simp only;omega,rfl,by simp only[h1,List.filter_append,K9];simp[Ez],rfl⟩ rfl ck (ak.refl _) ?_
  rintro⟨i,j,E⟩⟨DG,uL,SE,GF,Uf⟩ ih
  simp only at DG uL SE GF Uf
  have eW:(E.map cT).length=l.length:=by rw[List.length_map,SE]
  have hvE:Vw (ae b (cl (pre++E.map cT++cf) 76)) (.slice (some ⟨b,o,none⟩) l.length c) l.length (E.map cT):=Vw.ae (by rw[List.append_assoc,← nv,List.drop_left,List.take_left])
  refine go ?_
  refine au zr zr ?_ ?_
  ·intro dJ
   simp only at dJ
   have oX:j<l.length:=by omega
   obtain⟨x,hx⟩:∃x,l[j]?=some x:=⟨l[j],by simp[oX]⟩
   have hEx:E[j]?=some x:=by
    have:=congrArg (·[0]?) Uf
    grind
   have gp:=List.mem_of_getElem? hx
   have ZW:=hf _ gp
   refine go ?_
   refine bR j zr zr zr zr zr zr zr zr oX ?_
   refine aK ?_
   refine aX 0 j zr zr zr hvE rfl (rl hEx) zr zr (go ?_)
   refine cO [1] zr zr zr zr (ZW) rfl nq ?_
   rintro _ _⟨rfl,rfl⟩
   refine go ?_
   refine fZ zr zr ?_ ?_
   ·intro hp
    have tx:p x=false:=by simpa using hp
    refine go ?_
    refine bR i zr zr zr zr zr zr zr zr ag ?_
    refine lq (U:=aR) (l':=pre++(E.set i x).map cT++cf) 1 gf zr zr zr zr zr zr zr ?_ ?_ rfl ?_
    ·show o+i+1≤_
     rw[List.length_append,List.length_append,eW];omega
    ·show _=List.take (o+i) (pre++E.map cT++cf)++[cT x]++List.drop (o+i+1) (pre++E.map cT++cf)
     have hs:=pk pre (E.map cT) cf [cT x] i (by rw[eW];simp only[List.length_singleton];omega)
     rw[← nv]
     simp only[List.length_singleton]at hs
     rw[hs,List.map_set,List.set_eq_take_append_cons_drop,if_pos (by rw[eW];omega)]
     simp
    refine go ?_
    refine aM ih (i+1,j+1,E.set i x) rfl ⟨by simp only;omega,by simp only;omega,by simp only[List.length_set];exact SE,?_,?_⟩ (by simp only;omega) ck ah
    ·simp only
     rw[List.take_add_one,List.take_set_of_le (Nat.le_refl i),GF,List.take_add_one (l:=l),hx,List.getElem?_set_self ag]
     simp[List.filter_append,tx]
    ·simp only
     rw[List.drop_set_of_lt ag,← List.drop_drop,Uf,List.drop_drop]
   ·intro hp
    have tx:p x=true:=by simpa using hp
    refine go ?_
    refine aM ih (i,j+1,E) rfl ⟨by simp only;omega,by simp only;omega,SE,by simp only;rw[GF,List.take_add_one,hx];simp[List.filter_append,tx],by simp only;rw[← List.drop_drop,Uf,List.drop_drop]⟩ (by simp only;omega) ck ah
  ·intro fO
   refine go ?_
   simp only at fO
   have TU:j=l.length:=by omega
   subst TU
   rw[List.take_length]at GF
   have zS:(l.filter fun x => !p x).length=i:=by rw[← GF,List.length_take];omega
   refine mC zr zr zr zr zr zr zr ag ag (.inl rfl) ?_
   intro o1 QX ho2
   simp only[Int.toNat_natCast]at QX ho2
   have QW:i≠c→o1=o+i:=fun h=>by have h2:o1=o+i*1:=QX h;omega
   have hL:(pre++E.map cT++cf).length=o+l.length+cf.length:=by rw[List.length_append,List.length_append,eW,nv]
   obtain⟨sr,Q5,aeX⟩:∃sr,(pre++E.map cT++cf).take o1++(List.replicate (((l.length:Int).toNat-(i:Int).toNat)) [Value.pointer none]).flatten++(pre++E.map cT++cf).drop (o1+((l.length:Int).toNat-(i:Int).toNat)*1)=pre++(E.take i).map cT++sr∧c*1≤i*1+sr.length:=by
    have ZS:i≠c:=by omega
    rw[QW ZS,← nv,List.append_assoc pre,List.take_length_add_append,List.take_append_of_le_length (by rw[eW];omega),List.map_take]
    grind [mV]
   refine LN (U:=aR) (l':=pre++(E.take i).map cT++sr) 0 gf zr zr zr zr zr zr zr zr ?_ ?_ rfl ?_
   ·have ZS:i≠c:=by omega
    show o1+((l.length:Int).toNat-(i:Int).toNat)*1≤_
    rw[QW ZS,hL];omega
   ·rw[← Q5];rfl
   refine go ?_
   refine mC zr zr zr zr zr zr zr ag ag (.inr ag) ?_
   intro o2 ho3 ho4
   have ZC:o2=o:=by
    grind
   subst ZC
   refine go ?_
   refine ai (mK (sz:=1) (nn:=i) (c:=c) nv ag (by rw[List.length_map,List.length_take,Nat.min_eq_left ag];omega) (by rw[List.length_map,List.length_take];omega) _) ?_
   rw[← GF,GF,zS,← GF]at hE
   refine aO hE Tryz.func164 rfl _ zr zr (ak.fin [0,1] 0 zr zr)
def Fs(ts:List Tk)(d:Dg)(bx:Nat)(y:Tk)(hy:y∈ts):aD Tryz.prog 165 [ptr y.yb,ptr bx] [Sep [bD ts,ae bx (cl (dC d) 37)] ] (fun r H=>r = .bool (decide (y.x.d=d))∧H=[Sep [bD ts,ae bx (cl (dC d) 37)] ]):=by
 obtain⟨i,hi⟩:=List.mem_iff_getElem?.1 hy
 refine aD.aw Tryz.func165 Tryz.ntmps165 fun G F R hE=>?_
 refine ai (ak.cK [_,_] _) ?_
 refine ai (kq hi _) ?_
 refine eB (fQ y) ?_
 rintro z hz
 refine ai (H':=ae y.yb (cl (nA y) 80)::ae bx (cl (dC d) 37)::ae y.sb (cl [.int .i64 (y.n:Int),z.1] 137)::aF 133 1 z.1 y.ws.length (qV y.ws)::aL (Value.int .i64) y.mb z.2.1::bh 37 z.2.2::bD (ts.take i++ts.drop (i+1))::F) ah (go ?_)
 refine aG (fun w=>Sat G w ([ae y.yb (cl (nA y) 80),ae bx (cl (dC d) 37)])) (dj 0 8 .nil) rfl aq aq aq eo ?_
 refine go ?_
 refine cJ (U:=aR) 0 zr zr zr zr zr zr (go ?_)
 refine bT (U:=aR) (l:=dC d) 1 zr zr zr zr zr zr (go ?_)
 refine lC (b:=decide (y.x.d=d)) zr zr zr Jx (fun w=>JH y.x.d d w) ?_
 refine go ?_
 refine ai (H':=rS y z++(bD (ts.take i++ts.drop (i+1))::ae bx (cl (dC d) 37)::F)) (by unfold rS;exact ah) ?_
 refine ai (iM hz _) ?_
 refine ai (lx hi _) ?_
 refine ai (ak.bX [_,_] _) ?_
 refine ad hE Tryz.func165 zr zr ⟨rfl,rfl⟩
end Go.Proofs.YthnfckodljbgbaaGreatDoor
namespace Go.Proofs.YthnfckodljbgbaaGreatDoor
open Go Go.SL
def sQ(q:Tk→Bool):∀(ts:List Tk) (H:List HP),ak (bD ts::H) (bD (ts.filter q)::H)
 | [],H=>ak.refl _
 | y::ts,H=>by
  have h1:ak (bD (y::ts)::H) (rn y::bD ts::H):=C3 [] ts y H
  by_cases hq:q y=true
  ·rw[List.filter_cons_of_pos hq]
   have h2:ak (rn y::bD (ts.filter q)::H) (bD (y::ts.filter q)::H):=vQ [] (ts.filter q) y H
   exact h1.trans ((ak.cons _ (sQ q ts H)).trans h2)
  ·rw[List.filter_cons_of_neg hq]
   exact h1.trans ((ak.drop _ _).trans (sQ q ts H))
def sg(ts:List Tk)(d:Dg):List Tk:=ts.filter fun y => !decide (y.x.d=d)
attribute [local irreducible] J K aD Ends ae aF aL bU bo aU bh bq cg aE
def zl(tb bs jb:Nat)(tv:Value)(br:Bool)(ts:List Tk)(d:Dg)(hl:ts.length≤1000000):aD Tryz.prog 104 [ptr tb,dV d] (fe tb bs jb tv ts br)
  (fun r H=>r = .tuple #[]∧∃mI,H=fe tb bs jb mI (sg ts d) br):=by
 refine aD.aw Tryz.func104 Tryz.ntmps104 fun G F R hE=>?_
 refine dN 1 rfl ?_
 rintro a c rfl
 refine aB rfl ?_
 refine bG zr zr bE ?_
 intro b3
 refine go ?_
 refine aJ (ak.pick [1,2,3] rfl) ?_
 refine aJ (ak.cons _ (ak.cons _ (ak.bX [_,_] _))) (go ?_)
 refine aI (BA _ ts _ 165 [ptr b3] (fun y=>decide (y.x.d=d)) hl (fun y hy=>Fs ts d b3 y hy)) ?_
 rintro r _ rfl
 refine aP 0 rfl ?_
 rintro a2 c2 rfl
 refine go ?_
 refine ai (ak.pick [1,2] rfl) ?_
 refine ai (ak.cK [_,_] _) ?_
 refine ai (sQ (fun y => !decide (y.x.d=d)) ts _) ?_
 refine cd hE Tryz.func104 rfl _ rfl ⟨rfl,_,rfl⟩ ah
end Go.Proofs.YthnfckodljbgbaaGreatDoor
namespace Go.Proofs.YthnfckodljbgbaaGreatDoor
open Go Go.SL
def cR(bs bd jb:Nat)(q:Int)(mb:Nat)(Xs:List HP)(x:SJ):HP:=Sep (du bs bd q mb x.1++(rT jb bd cZ x.2::Xs))
def sO(l:List HP):ak [Sep l] l:=by have:=ak.cK l [];rwa[List.append_nil]at this
def sX(l:List HP):ak l [Sep l]:=by have:=ak.bX l [];rwa[List.append_nil]at this
def SQ(m:Nat)(i:Nat)(y:SJ):Prop:=0≤y.2.n∧(0≤y.2.s∧y.2.s≤1000000)∧y.1.A.aj.length≤m+10*i∧y.1.A.writes.length≤m+10*i
theorem SQ.append{m i:Nat}{x y:SJ}{b:List UInt8}{e:Nat}(h:SQ m i x)(hS:y9 b x e y):SQ m (i+1) y:=by
 obtain⟨h1,h2⟩:=hS
 grind [vf,cZ,SQ,cW]
attribute [local irreducible] J K aD Ends ae aF aL bU bo aU bh bq cg aE
def wi(tb bs jb bd b2 b3:Nat)(tv:Value)(q:Int)(mb:Nat)(x:SJ)(Z:HP)(Ys:List HP)(a:Option Addr)(c:Nat)(b:List UInt8)(hb:eO Z (.slice a b.length c) b)(hl:b.length≤1000000)(hs:0≤x.2.s∧x.2.s≤1000000000)(eW:x.1.A.writes.length≤1000000000) :
  aD Tryz.prog 83 [ptr b2,ptr b3] [jE tb bs jb tv false,cR bs bd jb q mb (ae b2 (cl [ptr tb] 31)::ae b3 (cl [.slice a b.length c] 40)::Z::Ys) x]
  (fun r H=>∃(e:Nat) (x':SJ),r = .int .i64 (e:Int)∧H=[jE tb bs jb tv false,cR bs bd jb q mb (ae b2 (cl [ptr tb] 31)::ae b3 (cl [.slice a b.length c] 40)::Z::Ys) x']∧y9 b x e x'):=by
 have c0:=aD.frame ([ae bs (cl (eR bd q mb x.1.brk) 113),aL dV mb (eb x.1.bz)]++Ys) (IU tb bs jb bd b2 b3 tv x.1.A x.2 Z a c b hb ag hs eW)
 refine c0.conv ?_ ?_
 ·unfold cR du
  exact(ak.cons _ (sO _)).trans ah
 ·rintro v H⟨H',⟨rfl,rfl⟩,rfl⟩
  refine⟨[jE tb bs jb tv false,cR bs bd jb q mb _ (⟨(cW cZ x.1.A x.2 b).2.1,x.1.bz,x.1.brk⟩,(cW cZ x.1.A x.2 b).2.2)],⟨_,_,rfl,rfl,rfl,rfl⟩,?_⟩
  unfold cR du
  exact ak.trans ah (ak.cons _ (sX _))
def qP(tb bs jb bd:Nat)(tv:Value)(q:Int)(mb:Nat)(x:SJ)(Xs:List HP)(hn:0≤x.2.n)(hs:0≤x.2.s∧x.2.s≤1000000000)(bP:x.1.A.aj.length≤900000000)(uI:x.1.A.writes.length≤900000000) :
  aD Tryz.prog 85 [ptr jb] [jE tb bs jb tv false,cR bs bd jb q mb Xs x]
  (fun r H=>∃(e:Nat) (x':SJ),r = .int .i64 (e:Int)∧H=[jE tb bs jb tv false,cR bs bd jb q mb Xs x']∧E5 x e x'):=by
 have c0:=aD.frame ([jE tb bs jb tv false,ae bs (cl (eR bd q mb x.1.brk) 113),aL dV mb (eb x.1.bz)]++Xs) (Kg jb bd cZ x.1.A x.2 hn hs bP uI)
 refine c0.conv ?_ ?_
 ·unfold cR du
  exact(ak.cons _ (sO _)).trans ah
 ·rintro v H⟨H',⟨e,A',x',rfl,rfl,hC⟩,rfl⟩
  refine⟨[jE tb bs jb tv false,cR bs bd jb q mb _ (⟨A',x.1.bz,x.1.brk⟩,x')],⟨e,_,rfl,rfl,A',x',hC,rfl⟩,?_⟩
  unfold cR du
  exact ak.trans ah (ak.cons _ (sX _))
theorem Fe(tb bs jb bd b2 b3 row:Nat)(tv:Value)(q:Int)(mb:Nat)(x:SJ)(Z:HP)(Ys:List HP)(a:Option Addr)(c:Nat)(b:List UInt8)(hb:eO Z (.slice a b.length c) b)(hl:b.length≤1000000)(m:Nat)(hm:m≤800000000)(hx:SQ m 0 x) :
  aD Tryz.prog 31 [ptr tb,.slice (some ⟨row,0,none⟩) 2 2] [ae row (cl (jH b2 b3 jb) 83),jE tb bs jb tv false,cR bs bd jb q mb (ae b2 (cl [ptr tb] 31)::ae b3 (cl [.slice a b.length c] 40)::Z::Ys) x]
  (fun r H=>∃(e:Nat) (x':SJ),r = .int .i64 (e:Int)∧H=[ae row (cl (jH b2 b3 jb) 83),jE tb bs jb tv (dR e),cR bs bd jb q mb (ae b2 (cl [ptr tb] 31)::ae b3 (cl [.slice a b.length c] 40)::Z::Ys) x']∧gi (iQ b) x e x'):=by
 refine ru (cR bs bd jb q mb (ae b2 (cl [ptr tb] 31)::ae b3 (cl [.slice a b.length c] 40)::Z::Ys)) tb bs jb tv _ _ (jH b2 b3 jb) (Vw.ae rfl) (by simp[jH]) (iQ b) rfl (fun i y=>i≤1→SQ m i y) ?_ x (fun _=>hx)
 intro i fv s nH hs
 match i,nH,hs with
 | 0,nH,hs =>
  cases nH
  cases hs
  refine⟨_,_,_,rfl,fun y hy=>?_⟩
  have hq:=hy ag
  obtain⟨a1,⟨a2,a3⟩,a4,a5⟩:=hq
  refine aD.post (wi tb bs jb bd b2 b3 tv q mb y Z Ys a c b hb hl ⟨a2,ag⟩ ag) ?_
  grind [SQ.append]
 | 1,nH,hs =>
  cases nH
  cases hs
  refine⟨_,_,_,rfl,fun y hy=>?_⟩
  have hq:=hy ag
  obtain⟨a1,⟨a2,a3⟩,a4,a5⟩:=hq
  refine aD.post (qP tb bs jb bd tv q mb y _ a1 ⟨a2,ag⟩ ag ag) ?_
  grind
 | n+2,nH,hs=>cases hs
end Go.Proofs.YthnfckodljbgbaaGreatDoor
namespace Go.Proofs.YthnfckodljbgbaaGreatDoor
open Go Go.SL
def AK(bs bd jb:Nat)(q:Int)(mb:Nat)(Xs:List HP)(x:SJ)(F:List HP):ak (cR bs bd jb q mb [] x::(Xs++F)) (cR bs bd jb q mb Xs x::F):=by
 refine(ak.cK _ _).trans ?_
 have h:du bs bd q mb x.1++[rT jb bd cZ x.2]++(Xs++F)=(du bs bd q mb x.1++(rT jb bd cZ x.2::Xs))++F:=by simp
 rw[h]
 exact ak.bX _ _
def vo(bs bd jb:Nat)(q:Int)(mb:Nat)(Xs:List HP)(x:SJ)(F:List HP):ak (cR bs bd jb q mb Xs x::F) (cR bs bd jb q mb [] x::(Xs++F)):=by
 refine(ak.cK _ _).trans ?_
 have h:(du bs bd q mb x.1++(rT jb bd cZ x.2::Xs))++F=du bs bd q mb x.1++[rT jb bd cZ x.2]++(Xs++F):=by simp
 rw[h]
 exact ak.bX _ _
def R0(X:HP):sJ X (.slice none 0 0) []:=⟨[],Vw.nil X none 0,rfl,⟨none,0,rfl,Nat.le_refl _⟩,fun i x h=>by simp at h⟩
def Af(d:Dg):List UInt8:=lE 3 d []
attribute [local irreducible] J K aD Ends ae aF aL bU bo aU bh bq cg aE cR
theorem Lj(tb bs jb bd:Nat)(tv:Value)(q:Int)(mb:Nat)(ts:List Tk)(s:SJ)(x:Bl)(hl:ts.length≤1000000)(m:Nat)(hm:m≤800000000)(hx:SQ m 0 s) :
  aD Tryz.prog 46 [ptr tb,dG x] (fe tb bs jb tv ts false++[cR bs bd jb q mb [] s])
  (fun r H=>∃(e:Nat) (s':SJ) (mI:Value),r = .int .i64 (e:Int)∧H=fe tb bs jb mI (if e=0 then sg ts x.d else ts) (dR e)++[cR bs bd jb q mb [] s']∧gi (iQ (Af x.d)) s e s'):=by
 have hlen:=iu 3 x.d [] (by simp) (by simp)
 have TF:=fun tv=>zl tb bs jb tv false ts x.d hl
 have hnt:=fun a n c=>wh tb bs jb tv a n c
 have kh:=fun b2 b3 row Z Ys a c b hb hl=>Fe tb bs jb bd b2 b3 row tv q mb s Z Ys a c b hb hl m hm hx
 refine aD.aw Tryz.func46 Tryz.ntmps46 fun G F R hE=>?_
 refine aB rfl ?_
 refine bG zr zr bE ?_
 intro b3
 refine go ?_
 refine dT 0 zr zr zr zr zr zr ?_
 refine aI (sY 3 x.d (ae b3 (cl (bH x) 39)) (.slice none 0 0) [] (R0 _) (by simp) (by simp)) ?_
 rintro r _ rfl
 refine aP 0 rfl ?_
 rintro a8 c8 rfl
 refine go ?_
 refine aI (hnt a8 (lE 3 x.d []).length c8) ?_
 rintro _ _⟨c2,c3,row,rfl,rfl⟩
 refine go ?_
 refine aJ (ak.pick [4,8,1,2,0,3,6,7] rfl) ?_
 refine gX (bs:=lE 3 x.d []) 0 rfl ?_
 intro O0
 refine aJ (H':=cR bs bd jb q mb [] s::([ae c2 (cl [ptr tb] 31),ae c3 (cl [.slice a8 (lE 3 x.d []).length c8] 40),aF 5 1 (.slice a8 (lE 3 x.d []).length c8) (lE 3 x.d []).length (bV (lE 3 x.d []))]++(ae row (cl (jH c2 c3 jb) 83)::ae tb (cl [ptr bs,ptr jb,tv,.bool false] 74)::aF 76 1 tv ts.length (ts.map cT)::bD ts::ae b3 (cl (bH x) 39)::F))) ah ?_
 refine aJ (AK bs bd jb q mb _ s _) ?_
 refine aI (kh c2 c3 row _ [] a8 c8 (lE 3 x.d []) O0 ag) ?_
 rintro _ _⟨e,s',rfl,rfl,hR⟩
 refine aJ (H':=cR bs bd jb q mb (ae c2 (cl [ptr tb] 31)::ae c3 (cl [.slice a8 (lE 3 x.d []).length c8] 40)::aF 5 1 (.slice a8 (lE 3 x.d []).length c8) (lE 3 x.d []).length (bV (lE 3 x.d []))::[]) s'::ae tb (cl [ptr bs,ptr jb,tv,.bool (dR e)] 74)::aF 76 1 tv ts.length (ts.map cT)::bD ts::ae b3 (cl (bH x) 39)::F) ah ?_
 refine aJ (vo bs bd jb q mb _ s' _) ?_
 by_cases he:e=0
 ·subst he
  refine aJ (H':=ae b3 (cl (bH x) 39)::ae tb (cl [ptr bs,ptr jb,tv,.bool false] 74)::aF 76 1 tv ts.length (ts.map cT)::bD ts::cR bs bd jb q mb [] s'::F) ah (go ?_)
  refine dT 0 zr zr zr zr zr zr ?_
  refine aI (TF tv) ?_
  rintro _ _⟨rfl,mI,rfl⟩
  refine go ?_
  refine ad hE Tryz.func46 zr zr ⟨0,s',mI,rfl,rfl,hR⟩
 ·refine aJ (H':=ae tb (cl [ptr bs,ptr jb,tv,.bool (dR e)] 74)::aF 76 1 tv ts.length (ts.map cT)::bD ts::cR bs bd jb q mb [] s'::F) ah (go ?_)
  refine au zr zr ?_ ?_
  ·intro _
   refine go ?_
   (refine ad hE Tryz.func46 zr zr ⟨e,s',tv,rfl,by rw[if_neg he],hR⟩)
  grind
end Go.Proofs.YthnfckodljbgbaaGreatDoor
namespace Go.Proofs.YthnfckodljbgbaaGreatDoor
open Go Go.SL
attribute [local irreducible] J K aD Ends ae aF aL bU bo aU bh bq cg aE
def Hc(tb bs jb bd b2 b3:Nat)(q:Int)(mb:Nat)(tv:Value)(s:fg)(x:Bl)(bP:s.A.aj.length≤900000000)(eW:s.A.writes.length≤900000000) :
  aD Tryz.prog 47 [ptr b2,ptr b3] (jE tb bs jb tv false::(du bs bd q mb s++[ae b2 (cl [ptr tb] 31),ae b3 (cl (bH x) 39)]))
  (fun r H=>∃(e:Nat) (t:fg),r = .int .i64 (e:Int)∧H=jE tb bs jb tv false::(du bs bd q mb t++[ae b2 (cl [ptr tb] 31),ae b3 (cl (bH x) 39)])∧iq x s e t):=by
 have pI:=HX bs bd q mb s x bP eW
 unfold dG at pI
 unfold jE
 refine aD.aw Tryz.func47 Tryz.ntmps47 fun G F R hE=>?_
 refine go ?_
 refine aG (fun w=>Sat G w ([ae tb (cl [ptr bs,ptr jb,tv,.bool false] 74),ae b2 (cl [ptr tb] 31),ae b3 (cl (bH x) 39)])) (dj 0 5 (.act 5 (.st 6 .nil))) rfl aq aq aq eo ?_
 refine go ?_
 refine bT (U:=aR) (l:=bH x) 2 zr zr zr zr zr zr (go ?_)
 refine fk rfl rfl rfl rfl pI ah ?_ (fun _ _ w hp hw=>by obtain⟨_,_,rfl,rfl,_⟩:=hp;exact hw.cL ah)
 rintro _ _⟨e,t,rfl,rfl,hR⟩
 refine go ?_
 refine ai (H':=ae tb (cl [ptr bs,ptr jb,tv,.bool false] 74)::(du bs bd q mb t++(ae b2 (cl [ptr tb] 31)::ae b3 (cl (bH x) 39)::F))) ah ?_
 refine ad hE Tryz.func47 zr zr ⟨e,t,rfl,rfl,hR⟩
def DN(X:HP)(hK:oZ X)(tb bs jb bd b2 b3:Nat)(q:Int)(mb:Nat)(tv:Value)(s:fg)(x:Bl)(bP:s.A.aj.length≤900000000)(eW:s.A.writes.length≤900000000) :
  aD Tryz.prog 44 [ptr b2,ptr b3] (jE tb bs jb tv false::(du bs bd q mb s++[X,ae b2 (cl [ptr tb] 31),ae b3 (cl (bH x) 39)]))
  (fun r H=>∃(e:Nat) (t:fg),r = .int .i64 (e:Int)∧H=jE tb bs jb tv false::(du bs bd q mb t++[X,ae b2 (cl [ptr tb] 31),ae b3 (cl (bH x) 39)])∧fC x s e t):=by
 have pI:=Kc X hK bs bd q mb s x bP eW
 unfold dG at pI
 unfold jE
 refine aD.aw Tryz.func44 Tryz.ntmps44 fun G F R hE=>?_
 refine go ?_
 refine aG (fun w=>Sat G w ([ae tb (cl [ptr bs,ptr jb,tv,.bool false] 74),ae b2 (cl [ptr tb] 31),ae b3 (cl (bH x) 39)])) (dj 0 5 (.act 5 (.st 6 .nil))) rfl aq aq aq eo ?_
 refine go ?_
 refine bT (U:=aR) (l:=bH x) 2 zr zr zr zr zr zr (go ?_)
 refine fk rfl rfl rfl rfl pI ah ?_ (fun _ _ w hp hw=>by obtain⟨_,_,rfl,rfl,_⟩:=hp;exact hw.cL ah)
 rintro _ _⟨e,t,rfl,rfl,hR⟩
 refine go ?_
 refine ai (H':=ae tb (cl [ptr bs,ptr jb,tv,.bool false] 74)::(du bs bd q mb t++(X::ae b2 (cl [ptr tb] 31)::ae b3 (cl (bH x) 39)::F))) ah ?_
 refine ad hE Tryz.func44 zr zr ⟨e,t,rfl,rfl,hR⟩
def Hd(tb bs jb bd b2 b3:Nat)(q:Int)(mb:Nat)(tv:Value)(s:SJ)(x:Bl)(Ys:List HP)(bP:s.1.A.aj.length≤900000000)(eW:s.1.A.writes.length≤900000000) :
  aD Tryz.prog 47 [ptr b2,ptr b3] [jE tb bs jb tv false,cR bs bd jb q mb (ae b2 (cl [ptr tb] 31)::ae b3 (cl (bH x) 39)::Ys) s]
  (fun r H=>∃(e:Nat) (t:SJ),r = .int .i64 (e:Int)∧H=[jE tb bs jb tv false,cR bs bd jb q mb (ae b2 (cl [ptr tb] 31)::ae b3 (cl (bH x) 39)::Ys) t]∧dx (iq x) s e t):=by
 have c0:=aD.frame ([rT jb bd cZ s.2]++Ys) (Hc tb bs jb bd b2 b3 q mb tv s.1 x bP eW)
 refine c0.conv ?_ ?_
 ·unfold cR du
  exact(ak.cons _ (sO _)).trans ah
 ·rintro v H⟨H',⟨e,t,rfl,rfl,hC⟩,rfl⟩
  refine⟨[jE tb bs jb tv false,cR bs bd jb q mb _ (t,s.2)],⟨e,_,rfl,rfl,hC,rfl⟩,?_⟩
  unfold cR du
  exact ak.trans ah (ak.cons _ (sX _))
def DO(X:HP)(hK:oZ X)(tb bs jb bd b2 b3:Nat)(q:Int)(mb:Nat)(tv:Value)(s:SJ)(x:Bl)(Ys:List HP)(bP:s.1.A.aj.length≤900000000)(eW:s.1.A.writes.length≤900000000) :
  aD Tryz.prog 44 [ptr b2,ptr b3] [jE tb bs jb tv false,cR bs bd jb q mb (ae b2 (cl [ptr tb] 31)::ae b3 (cl (bH x) 39)::X::Ys) s]
  (fun r H=>∃(e:Nat) (t:SJ),r = .int .i64 (e:Int)∧H=[jE tb bs jb tv false,cR bs bd jb q mb (ae b2 (cl [ptr tb] 31)::ae b3 (cl (bH x) 39)::X::Ys) t]∧dx (fC x) s e t):=by
 have c0:=aD.frame ([rT jb bd cZ s.2]++Ys) (DN X hK tb bs jb bd b2 b3 q mb tv s.1 x bP eW)
 refine c0.conv ?_ ?_
 ·unfold cR du
  exact(ak.cons _ (sO _)).trans ah
 ·rintro v H⟨H',⟨e,t,rfl,rfl,hC⟩,rfl⟩
  refine⟨[jE tb bs jb tv false,cR bs bd jb q mb _ (t,s.2)],⟨e,_,rfl,rfl,hC,rfl⟩,?_⟩
  unfold cR du
  exact ak.trans ah (ak.cons _ (sX _))
theorem Ff(tb bs jb bd row:Nat)(tv:Value)(q:Int)(mb:Nat)(s:SJ)(Xs:List HP)(g:FuncId)(cap:List Value)(S:SJ→Nat→SJ→Prop)(hc:aD Tryz.prog g cap [jE tb bs jb tv false,cR bs bd jb q mb Xs s] (fun r H=>∃(e:Nat) (t:SJ),r = .int .i64 (e:Int)∧H=[jE tb bs jb tv false,cR bs bd jb q mb Xs t]∧S s e t)) :
  aD Tryz.prog 31 [ptr tb,.slice (some ⟨row,0,none⟩) 1 1] [ae row (cl [.func (.func g) #[] cap.toArray] 83),jE tb bs jb tv false,cR bs bd jb q mb Xs s]
  (fun r H=>∃(e:Nat) (t:SJ),r = .int .i64 (e:Int)∧H=[ae row (cl [.func (.func g) #[] cap.toArray] 83),jE tb bs jb tv (dR e),cR bs bd jb q mb Xs t]∧S s e t):=by
 have h0:=ru (cR bs bd jb q mb Xs) tb bs jb tv (ae row (cl [.func (.func g) #[] cap.toArray] 83)) (.slice (some ⟨row,0,none⟩) 1 1) [.func (.func g) #[] cap.toArray] (Vw.ae rfl) (by simp) [S] rfl (fun i y=>i=0→y=s) (by
  intro i fv S' nH hs
  match i,nH,hs with
  | 0,nH,hs =>
   cases nH
   cases hs
   grind
  | n+1,nH,hs=>cases hs) s (fun _=>rfl)
 refine aD.post h0 ?_
 rintro v H⟨e,t,rfl,rfl,hR⟩
 refine⟨e,t,rfl,rfl,?_⟩
 obtain⟨e1,t1,hS,c1⟩:=hR
 rcases c1 with⟨_,rfl,rfl⟩|⟨rfl,rfl,rfl⟩
 ·exact hS
 ·exact hS
attribute [local irreducible] cR
def Kl(tb bs jb bd:Nat)(tv:Value)(q:Int)(mb:Nat)(ts:List Tk)(br:Bool)(s:SJ)(x:Bl)(hl:ts.length≤1000000)(bP:s.1.A.aj.length≤900000000)(eW:s.1.A.writes.length≤900000000)(m:Nat)(hm:m≤800000000)(hx:∀t,dx (iq x) s 0 t→SQ m 0 t) :
  aD Tryz.prog 12 [ptr tb,dG x] (fe tb bs jb tv ts br++[cR bs bd jb q mb [] s])
  (fun r H=>(br=true∧r = .int .i64 10∧H=fe tb bs jb tv ts br++[cR bs bd jb q mb [] s])∨(br=false∧fH ts x=none∧r = .int .i64 4∧H=fe tb bs jb tv ts br++[cR bs bd jb q mb [] s]) ∨
   (br=false∧(fH ts x).isSome=true∧∃(e:Nat) (t:SJ),dx (iq x) s e t∧((e≠0∧r = .int .i64 (e:Int)∧H=fe tb bs jb tv ts (dR e)++[cR bs bd jb q mb [] t]) ∨
    (e=0∧∃(e':Nat) (t':SJ) (mI:Value),r = .int .i64 (e':Int)∧H=fe tb bs jb mI (if e'=0 then sg ts x.d else ts) (dR e')++[cR bs bd jb q mb [] t']∧gi (iQ (Af x.d)) t e' t')))):=by
 have hf:=mz tb bs jb tv br ts x hl
 have ij:=fun t h=>Lj tb bs jb bd tv q mb ts t x hl m hm (hx t h)
 unfold fe dG at hf ij ⊢
 refine aD.aw Tryz.func12 Tryz.ntmps12 fun G F R hE=>?_
 refine aB rfl ?_
 refine bG zr zr bE ?_
 intro b2
 refine bG zr zr bE ?_
 intro b3
 cases br with
 | true =>
  refine go ?_
  refine ai (H':=ae tb (cl [ptr bs,ptr jb,tv,.bool true] 74)::aF 76 1 tv ts.length (ts.map cT)::bD ts::cR bs bd jb q mb [] s::F) ah ?_
  refine ad hE Tryz.func12 zr zr (.inl ⟨rfl,rfl,rfl⟩)
 | false =>
  refine go ?_
  refine aH (U:=aR) (l:=bH x) 0 zr zr zr zr zr zr ?_
  refine aN hf ?_
  cases oY:fH ts x with
  | none =>
   unfold SR
   refine go ?_
   refine ai (H':=ae tb (cl [ptr bs,ptr jb,tv,.bool false] 74)::aF 76 1 tv ts.length (ts.map cT)::bD ts::cR bs bd jb q mb [] s::F) ah ?_
   refine ad hE Tryz.func12 zr zr (.inr (.inl ⟨rfl,oY,rfl,rfl⟩))
  | some y =>
   unfold SR
   refine go ?_
   refine ao (cs:=[.func (.func 47) #[] #[ptr b2,ptr b3] ]) zr zr zr zr zr zr zr zr zr bE ?_
   intro row
   refine aJ (H':=cR bs bd jb q mb [] s::([ae b2 (cl [ptr tb] 31),ae b3 (cl (bH x) 39)]++(ae row (cl [.func (.func 47) #[] #[ptr b2,ptr b3] ] 83)::ae tb (cl [ptr bs,ptr jb,tv,.bool false] 74)::aF 76 1 tv ts.length (ts.map cT)::bD ts::F))) ah ?_
   refine aJ (AK bs bd jb q mb _ s _) ?_
   have kh:=Ff tb bs jb bd row tv q mb s _ _ [ptr b2,ptr b3] _ (Hd tb bs jb bd b2 b3 q mb tv s x [] bP eW)
   unfold jE at kh
   refine aI kh ?_
   rintro _ _⟨e,t,rfl,rfl,hS⟩
   refine aJ (H':=cR bs bd jb q mb (ae b2 (cl [ptr tb] 31)::ae b3 (cl (bH x) 39)::[]) t::ae tb (cl [ptr bs,ptr jb,tv,.bool (dR e)] 74)::aF 76 1 tv ts.length (ts.map cT)::bD ts::F) ah ?_
   refine aJ (vo bs bd jb q mb _ t _) ?_
   by_cases he:e=0
   ·subst he
    refine aJ (H':=ae b3 (cl (bH x) 39)::ae b2 (cl [ptr tb] 31)::ae tb (cl [ptr bs,ptr jb,tv,.bool false] 74)::aF 76 1 tv ts.length (ts.map cT)::bD ts::cR bs bd jb q mb [] t::F) ah (go ?_)
    refine aH (U:=aR) (l:=bH x) 0 zr zr zr zr zr zr ?_
    refine aI (ij t hS) ?_
    rintro _ _⟨e',t',mI,rfl,rfl,hR⟩
    refine go ?_
    refine ai (H':=ae tb (cl [ptr bs,ptr jb,mI,.bool (dR e')] 74)::aF 76 1 mI (if e'=0 then sg ts x.d else ts).length ((if e'=0 then sg ts x.d else ts).map cT)::bD (if e'=0 then sg ts x.d else ts)::cR bs bd jb q mb [] t'::F) ah ?_
    ((refine ad hE Tryz.func12 zr zr (.inr (.inr ⟨rfl,by rw[oY];rfl,0,t,hS,.inr ⟨rfl,e',t',mI,rfl,rfl,hR⟩⟩))))
   ·refine aJ (H':=ae tb (cl [ptr bs,ptr jb,tv,.bool (dR e)] 74)::aF 76 1 tv ts.length (ts.map cT)::bD ts::cR bs bd jb q mb [] t::F) ah (go ?_)
    refine au zr zr ?_ ?_
    ·intro _
     refine go ?_
     ((refine ad hE Tryz.func12 zr zr (.inr (.inr ⟨rfl,by rw[oY];rfl,e,t,hS,.inl ⟨he,rfl,rfl⟩⟩))))
    ·intro h;exfalso;omega
def UY(x:Bl)(ts:List Tk)(s:SJ)(br:Bool)(r:Int)(ts':List Tk)(iZ:Bool)(t:SJ):Prop :=
 (br=true∧r=10∧ts'=ts∧iZ=br∧t=s)∨(br=false∧fH ts x=none∧r=4∧ts'=ts∧iZ=br∧t=s) ∨
 (br=false∧∃y,fH ts x=some y∧((u9 y.ws<y.n∧r=9∧ts'=ts∧iZ=br∧t=s) ∨
  (¬u9 y.ws<y.n∧∃(e:Nat) (u:SJ),dx (fC x) s e u∧((e≠0∧e≠8∧r=e∧ts'=ts∧iZ=dR e∧t=u) ∨
   ((e=0∨e=8)∧∃e':Nat,r=(if e'=0 then(e:Int)else e')∧ts'=(if e'=0 then sg ts x.d else ts)∧iZ=dR e'∧gi (iQ (Af x.d)) u e' t)))))
theorem HF(X:HP)(hK:oZ X)(tb bs jb bd:Nat)(tv:Value)(q:Int)(mb:Nat)(ts:List Tk)(br:Bool)(s:SJ)(x:Bl)(hl:ts.length≤1000000)(hn:∀y∈ts,y.n≤65536)(hw:∀y∈ts,y.ws.length≤65536)(bP:s.1.A.aj.length≤900000000)(eW:s.1.A.writes.length≤900000000)(m:Nat)(hm:m≤800000000)(hx:∀e t,dx (fC x) s e t→SQ m 0 t) :
  aD Tryz.prog 11 [ptr tb,dG x] (fe tb bs jb tv ts br++[cR bs bd jb q mb [] s,X])
  (fun r H=>∃(ri:Int) (ts':List Tk) (mI:Value) (iZ:Bool) (t:SJ),r = .int .i64 ri∧H=fe tb bs jb mI ts' iZ++[cR bs bd jb q mb [] t,X]∧UY x ts s br ri ts' iZ t):=by
 have hf:=mz tb bs jb tv br ts x hl
 have ij:=fun e t h=>Lj tb bs jb bd tv q mb ts t x hl m hm (hx e t h)
 refine aD.aw Tryz.func11 Tryz.ntmps11 fun G F R hE=>?_
 refine aB rfl ?_
 refine bG zr zr bE ?_
 intro b2
 refine bG zr zr bE ?_
 intro b3
 refine go ?_
 refine aH (U:=aR) (l:=bH x) 0 zr zr zr zr zr zr ?_
 refine aN hf ?_
 cases br with
 | true =>
  refine go ?_
  refine ad hE Tryz.func11 zr zr ⟨10,ts,tv,true,s,rfl,rfl,.inl ⟨rfl,rfl,rfl,rfl,rfl⟩⟩
 | false =>
  cases oY:fH ts x with
  | none =>
   refine go ?_
   refine ad hE Tryz.func11 zr zr ⟨4,ts,tv,false,s,rfl,rfl,.inr (.inl ⟨rfl,oY,rfl,rfl,rfl,rfl⟩)⟩
  | some y =>
   obtain⟨i,hi,Bj⟩:=j5 oY
   have wu:y∈ts:=List.mem_of_getElem? hi
   have Dz:=hw y wu
   refine go ?_
   refine ai (ak.pick [2,0,1,5,6,4] rfl) ?_
   refine ai (kq hi _) ?_
   refine eB (fQ y) ?_
   rintro⟨wv,cs,M⟩ hz
   have Jn:=A6 y.sb y.n wv y.ws Dz
   refine aG (fun w=>Sat G w ([ae y.yb (cl (nA y) 80)])) (dj 0 4 (dj 5 4 (.act 4 (.act 9 (.st 10 (.st 11 .nil)))))) rfl aq aq aq eo ?_
   refine go ?_
   refine bp Jn ?_
   refine go ?_
   refine bp (lR y.sb y.n wv) ?_
   refine go ?_
   refine ai (ak.pick [2] rfl) ?_
   refine ai (iM hz _) ?_
   refine ai (lx hi _) ?_
   refine ai (H':=ae b3 (cl (bH x) 39)::ae b2 (cl [ptr tb] 31)::ae tb (cl [ptr bs,ptr jb,tv,.bool false] 74)::aF 76 1 tv ts.length (ts.map cT)::bD ts::cR bs bd jb q mb [] s::X::F) ah ?_
   refine fZ zr zr ?_ ?_
   ·intro dJ
    refine go ?_
    refine ad hE Tryz.func11 zr zr ⟨9,ts,tv,false,s,rfl,rfl,.inr (.inr ⟨rfl,y,oY,.inl ⟨by simpa using dJ,rfl,rfl,rfl,rfl⟩⟩)⟩
   intro fO
   have ZU:¬u9 y.ws<y.n:=by simpa using fO
   refine go ?_
   refine ao (cs:=[.func (.func 44) #[] #[ptr b2,ptr b3] ]) zr zr zr zr zr zr zr zr zr bE ?_
   intro row
   refine aJ (ak.pick [6,2,1,7] rfl) ?_
   refine aJ (AK bs bd jb q mb _ s _) ?_
   have kh:=Ff tb bs jb bd row tv q mb s _ _ [ptr b2,ptr b3] _ (DO X hK tb bs jb bd b2 b3 q mb tv s x [] bP eW)
   refine aI kh ?_
   rintro _ _⟨e,t,rfl,rfl,hS⟩
   refine aJ (H':=cR bs bd jb q mb (ae b2 (cl [ptr tb] 31)::ae b3 (cl (bH x) 39)::X::[]) t::ae tb (cl [ptr bs,ptr jb,tv,.bool (dR e)] 74)::aF 76 1 tv ts.length (ts.map cT)::bD ts::F) ah ?_
   refine aJ (vo bs bd jb q mb _ t _) ?_
   refine aJ (H':=ae b3 (cl (bH x) 39)::ae b2 (cl [ptr tb] 31)::ae tb (cl [ptr bs,ptr jb,tv,.bool (dR e)] 74)::aF 76 1 tv ts.length (ts.map cT)::bD ts::cR bs bd jb q mb [] t::X::F) ah ?_
   by_cases QL:e=0∨e=8
   ·have hb:dR e=false:=decide_eq_false ag
    rcases QL with rfl|rfl
    all_goals(
     refine go ?_
     refine aH (U:=aR) (l:=bH x) 0 zr zr zr zr zr zr ?_
     refine aI (ij _ t hS) ?_
     rintro _ _⟨e',t',mI,rfl,rfl,hR⟩
     by_cases he':e'=0
     ·subst he'
      refine go ?_
      refine ai (H':=ae tb (cl [ptr bs,ptr jb,mI,.bool (dR 0)] 74)::aF 76 1 mI (sg ts x.d).length ((sg ts x.d).map cT)::bD (sg ts x.d)::cR bs bd jb q mb [] t'::X::F) ah ?_
      refine ad hE Tryz.func11 zr zr ⟨_,sg ts x.d,mI,dR 0,t',rfl,rfl,.inr (.inr ⟨rfl,y,oY,.inr ⟨ZU,_,t,hS,.inr ⟨ag,0,rfl,rfl,rfl,hR⟩⟩⟩)⟩
     ·refine go ?_
      refine au zr zr ?_ ?_
      ·intro _
       refine go ?_
       refine ai (H':=ae tb (cl [ptr bs,ptr jb,mI,.bool (dR e')] 74)::aF 76 1 mI (if e'=0 then sg ts x.d else ts).length ((if e'=0 then sg ts x.d else ts).map cT)::bD (if e'=0 then sg ts x.d else ts)::cR bs bd jb q mb [] t'::X::F) ah ?_
       refine ad hE Tryz.func11 zr zr ⟨e',_,mI,dR e',t',rfl,rfl,.inr (.inr ⟨rfl,y,oY,.inr ⟨ZU,_,t,hS,.inr ⟨ag,e',(if_neg he').symm,rfl,rfl,hR⟩⟩⟩)⟩
      ·intro h;exfalso;omega)
   ·refine go ?_
    ((refine az 37 ((.bool true)) rfl ((congrArg Value.bool (by simp;omega))) ?_))
    refine go ?_
    refine fZ zr zr ?_ ?_
    ·intro _
     refine go ?_
     refine ad hE Tryz.func11 zr zr ⟨e,ts,tv,dR e,t,rfl,rfl,.inr (.inr ⟨rfl,y,oY,.inr ⟨ZU,e,t,hS,.inl ⟨ag,ag,rfl,rfl,rfl,rfl⟩⟩⟩)⟩
    grind
end Go.Proofs.YthnfckodljbgbaaGreatDoor
namespace Go.Proofs.YthnfckodljbgbaaGreatDoor
open Go Go.SL
attribute [local irreducible] J K aD Ends ae aF aL bU bo aU bh bq cg aE
def cB(s:fg)(x:Bl)(i:Int):List UInt8 × Nat:=if pX s.bz x then(match dI x i with
 | none=>([],1)
 | some (a,n)=>s.A.read (dv kS x.d) a n)else([],4)
def AH(bs bd:Nat)(q:Int)(mb:Nat)(s:fg)(x:Bl)(i:Int):aD Tryz.prog 109 [ptr bs,dG x,.int .i64 i] (du bs bd q mb s)
  (fun r H=>∃rv,r = .tuple #[rv,.int .i64 ((cB s x i).2:Int)]∧H=aF 5 1 rv (cB s x i).1.length (bV (cB s x i).1)::du bs bd q mb s):=by
 obtain⟨A,bz,brk⟩:=s
 have ho:=FN bs bd q mb brk bz x
 have iC:=AJ x i
 have hf:=oO kS x.d (by decide)
 unfold dG dV at *
 unfold du
 dsimp only
 refine aD.aw Tryz.func109 Tryz.ntmps109 fun G F R hE=>?_
 refine aB rfl ?_
 refine bG zr zr bE ?_
 intro b4
 refine go ?_
 refine aH (U:=aR) (l:=bH x) 0 zr zr zr zr zr zr ?_
 refine aN ho ?_
 cases hh:pX bz x with
 | false =>
  have h1:cB ⟨A,bz,brk⟩ x i=([],4):=by unfold cB;rw[if_neg (by simp[hh])]
  rw[h1]at hE
  refine go ?_
  refine ai (bK 5 1 none _) ?_
  refine ai (H':=aF 5 1 (.slice none 0 0) 0 []::ae bs (cl (eR bd q mb brk) 113)::aL dV mb (eb bz)::aE bd A::F) ah ?_
  refine ad hE Tryz.func109 zr zr ⟨_,rfl,rfl⟩
 | true =>
  refine go ?_
  refine aH (U:=aR) (l:=bH x) 2 zr zr zr zr zr zr ?_
  ((refine go ?_;(refine aI iC ?_)))
  rintro _ _⟨rfl,rfl⟩
  cases hs:dI x i with
  | none =>
   have h1:cB ⟨A,bz,brk⟩ x i=([],1):=by unfold cB;rw[if_pos (by simp[hh]),hs]
   rw[h1]at hE
   refine go ?_
   refine ai (bK 5 1 none _) ?_
   refine ai (H':=aF 5 1 (.slice none 0 0) 0 []::ae bs (cl (eR bd q mb brk) 113)::aL dV mb (eb bz)::aE bd A::F) ah ?_
   refine ad hE Tryz.func109 zr zr ⟨_,rfl,rfl⟩
  | some an =>
   obtain⟨a,n⟩:=an
   have h1:cB ⟨A,bz,brk⟩ x i=A.read (dv kS x.d) a n:=by unfold cB;rw[if_pos (by simp[hh]),hs]
   rw[h1]at hE
   have yq:=Ed bd A (dv kS x.d) a n
   refine go ?_
   refine ai (H':=ae b4 (cl (bH x) 39)::ae bs (cl (eR bd q mb brk) 113)::aL dV mb (eb bz)::aE bd A::F) ah ?_
   refine aG (fun w=>Sat G w ([ae b4 (cl (bH x) 39),ae bs (cl (eR bd q mb brk) 113)])) (dj 0 6 (.st 7 (.st 8 (.act 6 (.act 9 (dj 10 4 .nil)))))) rfl aq aq aq eo ?_
   refine go ?_
   refine cJ (U:=aR) 0 zr zr zr zr zr zr (go ?_)
   refine bp hf ?_
   refine go ?_
   ((refine fk zr zr zr zr (yq) ah ?_ (fun _ _ w hp hw=>by obtain⟨r,rfl,rfl⟩:=hp;exact hw.cL ah)))
   rintro _ _⟨r,rfl,rfl⟩
   refine go ?_
   refine ai (H':=aF 5 1 r (A.read (dv kS x.d) a n).1.length (bV (A.read (dv kS x.d) a n).1)::ae bs (cl (eR bd q mb brk) 113)::aL dV mb (eb bz)::aE bd A::F) ah ?_
   refine ad hE Tryz.func109 zr zr ⟨_,rfl,rfl⟩
end Go.Proofs.YthnfckodljbgbaaGreatDoor
namespace Go.Proofs.YthnfckodljbgbaaGreatDoor
open Go Go.SL
def S9(W:List jB):∀v∈qV W,v.oneCell'=true:=by
 intro v hv
 obtain⟨x,_,rfl⟩:=List.mem_map.1 hv
 rfl
attribute [local irreducible] J K aD Ends ae aF aL bU bo aU bh bq cg aE
theorem U0(A:HP)(v:Value)(W:List jB)(hv:Vw A v W.length (qV W))(hlen:W.length≤1000000) :
  aD Tryz.prog 207 [v] [A] (fun r H=>H=[aF 133 1 r W.length (qV W),A]):=by
 obtain⟨a,c0,rfl⟩:=hv.shape
 cases a with
 | none =>
  have hb:W=[]:=by
   obtain⟨a,cap,h1,h2|⟨b,o,h2,_⟩⟩:=hv
   ·grind [IJ]
   grind
  subst hb
  refine aD.enter Tryz.func207 aq rfl Tryz.ntmps207 zr zr ?_
  intro G F R hR
  refine go ?_
  refine ai (bK 133 1 none _) ?_
  refine aO hR Tryz.func207 rfl _ zr zr (ak.fin [0,1] 0 zr zr)
 | some a =>
  refine aD.enter Tryz.func207 aq rfl Tryz.ntmps207 zr zr ?_
  intro G F R hR
  refine go ?_
  refine ao (cs:=[]) zr zr zr zr zr zr zr zr zr bE ?_
  intro b0
  refine go ?_
  refine aJ (eS 133 1 b0 0 0 [] [] _ rfl (Nat.le_refl _) (by simp)) ?_
  refine aT (mm:=W.length) (news:=qV W) 0 1 zr zr zr zr zr zr zr zr zr zr zr zr hv (by rw[IJ];exact(Nat.mul_one _).symm) (S9 W) ag (by show _*8≤_;omega) (fun _=>rfl) bE ?_
  intro v'
  have e1:(0:Nat)+W.length=W.length:=by omega
  rw[e1,List.nil_append]
  refine go ?_
  refine aO hR Tryz.func207 rfl _ zr zr (ak.fin [0,1] 0 zr zr)
def UN(p q:jB):aD Tryz.prog 168 [.int .u64 (p.toNat:Int),.int .u64 (q.toNat:Int)] [] (fun r H=>r = .int .u64 ((orW p q).toNat:Int)∧H=[]):=by
 refine aD.aw Tryz.func168 Tryz.ntmps168 fun G F R hE=>?_
 refine go ?_
 refine bj 4 ((.int .u64 ((orW p q).toNat:Int))) rfl ((congrArg (Value.int .u64) (ab9 _ _))) ?_
 refine ad hE Tryz.func168 zr zr ⟨rfl,rfl⟩
def Mp(tb bs jb bd b2 b3:Nat)(q:Int)(mb:Nat)(tv:Value)(s:fg)(x:Bl)(bP:s.A.aj.length≤900000000)(eW:s.A.writes.length≤900000000) :
  aD Tryz.prog 39 [ptr b2,ptr b3] (jE tb bs jb tv false::(du bs bd q mb s++[ae b2 (cl [ptr tb] 31),ae b3 (cl (bH x) 39)]))
  (fun r H=>∃(e:Nat) (t:fg),r = .int .i64 (e:Int)∧H=jE tb bs jb tv false::(du bs bd q mb t++[ae b2 (cl [ptr tb] 31),ae b3 (cl (bH x) 39)])∧kY x s e t):=by
 have pI:=UK bs bd q mb s x bP eW
 unfold dG at pI
 unfold jE
 refine aD.aw Tryz.func39 Tryz.ntmps39 fun G F R hE=>?_
 refine go ?_
 refine aG (fun w=>Sat G w ([ae tb (cl [ptr bs,ptr jb,tv,.bool false] 74),ae b2 (cl [ptr tb] 31),ae b3 (cl (bH x) 39)])) (dj 0 5 (.act 5 (.st 6 .nil))) rfl aq aq aq eo ?_
 refine go ?_
 refine bT (U:=aR) (l:=bH x) 2 zr zr zr zr zr zr (go ?_)
 refine fk rfl rfl rfl rfl pI ah ?_ (fun _ _ w hp hw=>by obtain⟨_,_,rfl,rfl,_⟩:=hp;exact hw.cL ah)
 rintro _ _⟨e,t,rfl,rfl,hR⟩
 refine go ?_
 refine ai (H':=ae tb (cl [ptr bs,ptr jb,tv,.bool false] 74)::(du bs bd q mb t++(ae b2 (cl [ptr tb] 31)::ae b3 (cl (bH x) 39)::F))) ah ?_
 refine ad hE Tryz.func39 zr zr ⟨e,t,rfl,rfl,hR⟩
def Mr(X:HP)(tb bs jb bd b2 b3 b4 b5:Nat)(q:Int)(mb:Nat)(tv:Value)(s:fg)(x:Bl)(i:Int)(a:Option Addr)(c:Nat)(b:List UInt8)(hv:Vw X (.slice a b.length c) b.length (bV b))(kQ:b.length≤1000000000)(hi : -9223372036854775808≤i∧i≤9223372036854775807)(bP:s.A.aj.length≤900000000)(eW:s.A.writes.length≤900000000) :
  aD Tryz.prog 37 [ptr b2,ptr b3,ptr b4,ptr b5] (jE tb bs jb tv false::(du bs bd q mb s++[X,ae b2 (cl [ptr tb] 31),ae b3 (cl (bH x) 39),ae b4 (cl [.int .i64 i] 3),ae b5 (cl [.slice a b.length c] 40)]))
  (fun r H=>∃(e:Nat) (t:fg),r = .int .i64 (e:Int)∧H=jE tb bs jb tv false::(du bs bd q mb t++[X,ae b2 (cl [ptr tb] 31),ae b3 (cl (bH x) 39),ae b4 (cl [.int .i64 i] 3),ae b5 (cl [.slice a b.length c] 40)])∧mh x i b s e t):=by
 have pI:=aaw X bs bd q mb s x i _ b hv kQ hi bP eW
 unfold dG at pI
 unfold jE
 refine aD.aw Tryz.func37 Tryz.ntmps37 fun G F R hE=>?_
 refine go ?_
 refine aG (fun w=>Sat G w ([ae tb (cl [ptr bs,ptr jb,tv,.bool false] 74),ae b2 (cl [ptr tb] 31),ae b3 (cl (bH x) 39),ae b4 (cl [.int .i64 i] 3),ae b5 (cl [.slice a b.length c] 40)])) (dj 0 7 (.act 7 (.st 8 .nil))) rfl aq aq aq eo ?_
 refine go ?_
 refine bT (U:=aR) (l:=bH x) 2 zr zr zr zr zr zr ?_
 (repeat((refine aK ?_;first|refine mE 3 zr zr zr zr zr zr ?_|refine mE 4 zr zr zr zr zr zr ?_)))
 refine fk rfl rfl rfl rfl pI ah ?_ (fun _ _ w hp hw=>by obtain⟨_,_,rfl,rfl,_⟩:=hp;exact hw.cL ah)
 rintro _ _⟨e,t,rfl,rfl,hR⟩
 refine go ?_
 refine ai (H':=ae tb (cl [ptr bs,ptr jb,tv,.bool false] 74)::(du bs bd q mb t++(X::ae b2 (cl [ptr tb] 31)::ae b3 (cl (bH x) 39)::ae b4 (cl [.int .i64 i] 3)::ae b5 (cl [.slice a b.length c] 40)::F))) ah ?_
 refine ad hE Tryz.func37 zr zr ⟨e,t,rfl,rfl,hR⟩
attribute [local irreducible] LI xG
theorem HK(jb bd:Nat)(name:ByteArray)(K5:name.size≤1000000000)(A:Ab)(x:JN)(V:HP)(lv:Value)(ls:List (List UInt8))(hv:sJ V lv ls)(hl:(ls.flatMap aS).length≤100000000)(hn:ls.length≤1000000000)(bP:A.aj.length≤900000000)(uI:A.writes.length≤900000000) :
    aD Tryz.prog 71 [ptr jb,lv] [aE bd A,rT jb bd name x,V]
      (fun r H=>∃(e:Nat) (A':Ab) (x':JN),r = .int .i64 (e:Int)∧H=[aE bd A',rT jb bd name x',V]∧np name A x ls e A' x'):=by
  obtain⟨n,s,c,bk⟩:=x
  have kT:=hv
  obtain⟨cs,dO,ki,⟨a,cc,rfl,hcc⟩,tB⟩:=hv
  dsimp only [rT,jr]
  refine aD.aw Tryz.func71 Tryz.ntmps71 fun G F R hE=>?_
  unfold np at hE
  cases bk with
  | true =>
    simp only[if_true]at hE
    refine go ?_
    refine ad hE Tryz.func71 zr zr ⟨10,_,⟨n,s,c,true⟩,rfl,rfl,rfl,rfl,rfl⟩
  | false =>
    simp only[Bool.false_eq_true,if_false]at hE
    refine go ?_
    refine bB (fun i:Nat=>i≤ls.length∧∀(j:Nat) (y:List UInt8),j<i→ls[j]?=some y→y.length≤4096) (fun i=>ls.length-i)
      (fun i=>[(0,ptr jb),(0+1,.slice a ls.length cc),(5,.int .i64 (((ls.take i).flatMap aS).length:Int)),(12,.slice a ls.length cc),(13,.int .i64 ls.length),(14,.int .i64 (i:Int))])
      (fun _=>aE bd A::ae jb (cl [ptr bd,.string name,.int .i64 n,.int .i64 s,.int .i64 c,.bool false] 174)::V::F) 0 ⟨Nat.zero_le _,fun j y hj=>by omega⟩ rfl ck ah ?_
    rintro i⟨hi,xM⟩ ih
    refine go ?_
    refine au zr zr ?_ ?_
    case' refine_1 =>
      intro dJ
      have Gn:i<ls.length:=by omega
      obtain⟨y,hy⟩:∃y,ls[i]?=some y:=⟨ls[i],by simp⟩
      obtain⟨cv,sw,hby⟩:=tB i y hy
      obtain⟨b1,o1,k1,zN⟩:=dO.some (by intro e;rw[e]at sw;simp at sw)
      simp only[Value.slice.injEq,true_and]at zN
      obtain⟨rfl,rfl⟩:=zN
      obtain⟨ay,ky,rfl,hky⟩:=hby.2
      have K9:=Cv hy
      have oH:((ls.take (i+1)).flatMap aS).length=((ls.take i).flatMap aS).length+(aS y).length:=by rw[K9,List.length_append]
      have hle:=Li ls (i+1)
      refine go ?_
      refine bR i zr zr zr zr zr zr zr zr Gn ?_
      refine aX 2 i zr zr zr dO rfl sw zr zr (go ?_)
      refine au zr zr ?_ ?_
      · intro yc
        have rY:(ls.any fun b=>decide (4096<b.length))=true:=List.any_eq_true.2 ⟨y,List.mem_of_getElem? hy,decide_eq_true ag⟩
        simp only[if_pos rY]at hE
        refine go ?_
        refine ad hE Tryz.func71 zr zr ⟨1,_,⟨n,s,c,false⟩,rfl,rfl,rfl,rfl,rfl⟩
      intro iJ
      have af8:=oP y ag
      refine go ?_
      refine aI (qK V _ y hby ag) ?_
      rintro r _ rfl
      refine aP 0 rfl ?_
      rintro ra rc rfl
      refine go ?_
      ((refine bj 5 ((.int .i64 (((ls.take (i+1)).flatMap aS).length:Int))) rfl ((congrArg (Value.int .i64) (by rw[oH];simp))) ?_))
      refine go ?_
      refine aM ih (i+1) rfl (⟨ag,fun j z hj hz=>by
        rcases Nat.lt_or_ge j i with h|h
        · exact xM j z h hz
        · have:j=i:=by omega
          subst this
          rw[hy]at hz;cases hz;omega⟩) ag ck ah
    intro fO
    have tR:i=ls.length:=by omega
    subst tR
    rw[List.take_length]
    have rY:¬(ls.any fun b=>decide (4096<b.length))=true:=fun h=>by
      obtain⟨y,hy,hb⟩:=List.any_eq_true.1 h
      obtain⟨j,hj,rfl⟩:=List.getElem_of_mem hy
      have:=xM j _ ag (List.getElem?_eq_getElem hj)
      grind
    simp only[if_neg rY]at hE
    refine go ?_
    refine au zr zr ?_ ?_
    · intro yc
      have tC:524288<(ls.flatMap aS).length:=by omega
      simp only[if_pos tC]at hE
      refine go ?_
      refine ad hE Tryz.func71 zr zr ⟨3,_,⟨n,s,c,false⟩,rfl,rfl,rfl,rfl,rfl⟩
    intro iJ
    have tC:¬524288<(ls.flatMap aS).length:=by omega
    simp only[if_neg tC]at hE
    refine go ?_
    refine aI (KG jb bd name n s c false A V _ ls kT ag hn K5 bP uI) ?_
    rintro _ _⟨e,⟨A',n',s',c'⟩,rfl,rfl,wA⟩
    refine go ?_
    refine aN (tF jb bd name n' s' c' false e) ?_
    refine go ?_
    refine ad hE Tryz.func71 zr zr ⟨e,A',⟨n',s',c',decide (e≠0)⟩,rfl,rfl,_,wA,rfl,rfl⟩
end Go.Proofs.YthnfckodljbgbaaGreatDoor
namespace Go.Proofs.YthnfckodljbgbaaGreatDoor
open Go Go.SL
def jy(b:List UInt8):Option (UInt8 × Dg × List (List UInt8)):=match qb b with
 | some (x1::x2::l)=>if((x1::x2::l).getLast?.map (·.1))=some ((2+l.length:Nat):Int)∧x1.2.length=1∧x2.2.length=32 then some (x1.2.headD 0,u0 x2.2,l.map (·.2))else none
 | _=>none
def qx(b:List UInt8):Option Nat:=(dr b).bind fun n=>if n≤1048576 then some n else none
def ix(b:List UInt8):Option Dg:=if b.length=32 then some (u0 b)else none
def FU(n:Nat):Int:=IntKind.u64.wrap ((BitVec.ofInt IntKind.u64.bits (n:Int) &&& BitVec.ofInt IntKind.u64.bits 4294967295).toNat:Int)
theorem Cc(n:Nat):∃k:Nat,FU n=k∧k<4294967296∧(n≤1048576→k=n):=by
 have e1:(BitVec.ofInt IntKind.u64.bits (4294967295:Int)).toNat=4294967295:=by decide
 obtain⟨k,hk⟩:∃k,k=(BitVec.ofInt IntKind.u64.bits (n:Int) &&& BitVec.ofInt IntKind.u64.bits 4294967295).toNat:=⟨_,rfl⟩
 have hle:k≤4294967295:=by
  rw[hk,BitVec.toNat_and,e1]
  exact Nat.and_le_right
 refine⟨k,?_,ag,fun hn=>?_⟩
 ·grind [FU,cV,gy]
 ·rw[hk,BitVec.toNat_and,e1]
  have e2:(BitVec.ofInt IntKind.u64.bits (n:Int)).toNat=n:=by
   grind
  rw[e2,show(4294967295:Nat)=2 ^ 32-1 from rfl,Nat.and_two_pow_sub_one_eq_mod]
  grind
attribute [local irreducible] J K aD Ends ae aF aL bU bo aU bh bq cg Sha.chunks Sha.chunk Sha.rounds Sha.sched dW cy cS FU
def qw(X:HP)(v:Value)(b:List UInt8)(hb:eO X v b)(hl:b.length≤1000000) :
  aD Tryz.prog 129 [v] [X] (fun r H=>H=[X]∧∃k:Nat,k<4294967296∧r = .tuple #[.int .i64 (k:Int),.bool (qx b).isSome]∧∀m,qx b=some m→k=m):=by
 have htu:=nf X v b hb ag
 refine aD.aw Tryz.func129 Tryz.ntmps129 fun G F R hE=>?_
 refine go ?_
 refine aN htu ?_
 unfold qx at hE
 cases hu:dr b with
 | none =>
  rw[hu]at hE
  obtain⟨k,xN,rV,_⟩:=Cc 0
  refine go ?_
  ((refine az 12 ((.int .u64 (k:Int))) rfl ((congrArg (Value.int .u64) (by rw[← xN];unfold FU;rfl))) ?_))
  refine go ?_
  (refine ad hE Tryz.func129 zr zr ⟨rfl,k,rV,rfl,fun m h=>by cases h⟩)
 | some n =>
  rw[hu]at hE
  simp only[Option.bind_some]at hE ⊢
  obtain⟨k,xN,rV,hk3⟩:=Cc n
  refine go ?_
  ((refine az 12 ((.int .u64 (k:Int))) rfl ((congrArg (Value.int .u64) (by rw[← xN];unfold FU;rfl))) ?_))
  refine go ?_
  by_cases hn:n≤1048576
  ·rw[if_pos hn]at hE
   refine bj 3 ((.bool true)) rfl ((congrArg Value.bool (decide_eq_true ag))) (go ?_)
   ((refine ad hE Tryz.func129 zr zr ⟨rfl,k,rV,rfl,fun m h=>by injection h with h;rw[← h];exact hk3 hn⟩))
  ·rw[if_neg hn]at hE
   refine bj 3 ((.bool false)) rfl ((congrArg Value.bool (decide_eq_false ag))) (go ?_)
   (refine ad hE Tryz.func129 zr zr ⟨rfl,k,rV,rfl,fun m h=>by cases h⟩)
def wg(X:HP)(v:Value)(b:List UInt8)(hb:eO X v b)(hl:b.length≤1000000) :
  aD Tryz.prog 130 [v] [X] (fun r H=>H=[X]∧r = .tuple #[dV ((ix b).getD Dg.zero),.bool (ix b).isSome]):=by
 obtain⟨dO,a,c,rfl,hc⟩:=hb
 refine aD.aw Tryz.func130 Tryz.ntmps130 fun G F R hE=>?_
 refine aB rfl ?_
 refine aC zr zr zr bE ?_
 intro b2
 unfold ix at hE
 refine go ?_
 refine au zr zr ?_ ?_
 ·intro df
  rw[if_neg ag]at hE
  refine go ?_
  refine kK (U:=aR) zr zr zr zr zr (go ?_)
  (refine aZ hE ?_;apply aW (U:=aR) hE Tryz.func130 rfl (ak.refl _);(repeat(first|exact aQ.nil|apply aQ.tmp rfl|apply aQ.agg 0 zr zr zr zr zr));exact⟨rfl,rfl⟩;exact ah)
 ·intro heq
  have h32:b.length=32:=by omega
  rw[if_pos h32]at hE
  rw[Ai h32]at dO
  obtain⟨bb,oo,cc,he⟩:=dO.some (by intro h;have:=congrArg List.length h;rw[dD]at this;cases this)
  obtain⟨rfl,rfl⟩:=he
  refine go ?_
  refine CU (U:=aR) zr zr zr zr ag (go ?_)
  refine aK ?_
  refine cI (U:=aR) (es:=dC (u0 b)) 1 0 zr zr zr dO rfl (fun j v hj=>by rw[Nat.zero_add];exact hj) zr zr zr ?_
  refine go ?_
  (refine aZ hE ?_;apply aW (U:=aR) hE Tryz.func130 rfl (ak.refl _);(repeat(first|exact aQ.nil|apply aQ.tmp rfl|apply aQ.agg 0 zr zr zr zr zr));exact⟨rfl,rfl⟩;exact ah)
def II{b:List UInt8}(h:qb b=none):jy b=none:=by unfold jy;rw[h]
theorem FB{b:List UInt8}{xs:List (Int × List UInt8)}(h:qb b=some xs)(hl:xs.length<2):jy b=none:=by
 grind [jy]
theorem Mm{b:List UInt8}{n1 n2:Int}{b1 b2:List UInt8}{l:List (Int × List UInt8)}{n:Int}(h:qb b=some ((n1,b1)::(n2,b2)::l))(hn:(((n1,b1)::(n2,b2)::l).getLast?.map (·.1))=some n) :
  jy b=if n=((2+l.length:Nat):Int)∧b1.length=1∧b2.length=32 then some (b1.headD 0,u0 b2,l.map (·.2))else none:=by
 grind [jy]
def sJ.ofP{X:HP}{a:Option Addr}{c:Nat}{ls:List (List UInt8)}{cs:List Value}(hv:Vw (aF 40 1 (.slice a ls.length c) ls.length cs) (.slice a ls.length c) ls.length cs)(hc:ls.length≤c)(hl:cs.length=ls.length)(kP:∀(j:Nat) (z:List UInt8),ls[j]?=some z→∃cv,cs[j]?=some cv∧eO X cv z):sJ (Sep [aF 40 1 (.slice a ls.length c) ls.length cs,X]) (.slice a ls.length c) ls :=
  ⟨cs,hv.mono (aY (i:=0) rfl),hl,⟨a,c,rfl,hc⟩,fun i x hx=>by
    obtain⟨cv,h1,h2⟩:=kP i x hx
    exact⟨cv,h1,h2.mono (aY (i:=1) rfl)⟩⟩
def GH(l:List It):l.map It.v=l.flatMap fun x=>[x.v]:=by induction l with|nil=>rfl|cons x l ih=>simp[ih]
theorem Ms(X:HP)(v:Value)(b:List UInt8)(hb:eO X v b)(hl:b.length≤1000000) :
  aD Tryz.prog 128 [v] [X] (fun r H=>(jy b=none∧(∃(k:UInt8) (d:Dg) (a:Option Addr) (n c:Nat),r = .tuple #[u8 k,dV d,.slice a n c,.bool false])∧H=[X]) ∨
   ∃k d more mv Z,jy b=some (k,d,more)∧sJ Z mv more∧(∀x∈more,x.length≤65536)∧more.length≤65536∧r = .tuple #[u8 k,dV d,mv,.bool true]∧H=[Z,X]):=by
 have TA:=nX X v b hb ag
 obtain⟨a,c,rfl,hc⟩:=hb.2
 refine aD.aw Tryz.func128 Tryz.ntmps128 fun G F R hE=>?_
 refine aB rfl (go ?_)
 refine aC zr zr zr bE ?_
 intro b3
 refine go ?_
 refine aI TA ?_
 rintro _ _ (⟨hn,rfl,rfl⟩|⟨xs,fX,Z0,rv,hs,rW,⟨dO,xO⟩,rfl,rfl,ra,rc,rfl,QP⟩)
 ·have hd:=II hn
  refine go ?_
  refine kK (U:=aR) zr zr zr zr zr (go ?_)
  (refine aZ hE ?_;apply aW (U:=aR) hE Tryz.func128 rfl (ak.refl _);(repeat(first|exact aQ.nil|apply aQ.tmp rfl|apply aQ.agg 1 zr zr zr zr zr));exact(.inl ⟨hd,⟨0,Dg.zero,none,0,0,rfl⟩,rfl⟩);exact ah)
 have Sr:=ud hs
 have Ev:fX.length≤65536:=by
  have h1:xs.length≤65536:=by
   unfold qb at hs
   split at hs
   ·cases hs
   ·split at hs
    ·cases hs
     have:=ub _ b (Nat.le_refl _)
     grind [fm]
    ·cases hs
  grind
 by_cases h2:fX.length<2
 ·have hd:=FB hs (by rw[← rW,List.length_map];exact h2)
  refine go ?_
  refine az 25 ((.bool true)) rfl ((congrArg Value.bool (decide_eq_true ag))) (go ?_)
  refine kK (U:=aR) zr zr zr zr zr (go ?_)
  (refine aZ hE ?_;apply aW (U:=aR) hE Tryz.func128 rfl (ak.refl _);(repeat(first|exact aQ.nil|apply aQ.tmp rfl|apply aQ.agg 2 zr zr zr zr zr));exact(.inl ⟨hd,⟨0,Dg.zero,none,0,0,rfl⟩,rfl⟩);exact ah)
 obtain⟨i1,i2,rest,Bn⟩:∃i1 i2 rest,fX=i1::i2::rest:=by
  match fX,h2 with
  | i1::i2::rest,_=>exact⟨i1,i2,rest,rfl⟩
  | [],h=>exact absurd (by simp) h
  | [_],h=>exact absurd (by simp) h
 have hlen:fX.length=rest.length+2:=by rw[Bn];rfl
 obtain⟨lst,ZK⟩:∃x,fX[rest.length+1]?=some x:=⟨fX[rest.length+1]' ag,by simp⟩
 have nG:((fX.map It.p).getLast?.map (·.1))=some lst.n:=by
  rw[List.getLast?_eq_getElem?,List.length_map,List.getElem?_map,show fX.length-1=rest.length+1 from by omega,ZK]
  rfl
 obtain⟨rb,ro,rcc,he⟩:=dO.some (by rw[Bn];intro h;simp[my]at h)
 simp only[Value.slice.injEq,true_and]at he
 obtain⟨rfl,rfl⟩:=he
 have Sz:fX[0]?=some i1:=by rw[Bn];rfl
 have Q':fX[1]?=some i2:=by rw[Bn];rfl
 have pZ:=xO i1 (List.mem_of_getElem? Sz)
 have tC:=xO i2 (List.mem_of_getElem? Q')
 have Ch:(fX.flatMap my)[0*2+1]?=some i1.v:=cU jQ Sz 1 ag
 have Zi:(fX.flatMap my)[1*2+1]?=some i2.v:=cU jQ Q' 1 ag
 have eW:(fX.flatMap my)[(rest.length+1)*2+0]?=some (.int .i64 lst.n):=cU jQ ZK 0 ag
 have Vp:=Sr i2.p (by rw[← rW];exact List.mem_map.2 ⟨_,List.mem_of_getElem? Q',rfl⟩)
 obtain⟨n1,v1,b1⟩:=i1
 obtain⟨n2,v2,b2⟩:=i2
 simp only at pZ tC Ch Zi
 obtain⟨a1,c1,rfl,Jq⟩:=pZ.2
 obtain⟨a2,c2,rfl,ya⟩:=tC.2
 simp only[It.p]at Vp
 have hre:=Mm (n1:=n1) (b1:=b1) (n2:=n2) (b2:=b2) (l:=rest.map It.p) (n:=lst.n) (by rw[hs,← rW,Bn];rfl) (by rw[Bn]at nG;exact nG)
 rw[List.length_map]at hre
 refine go ?_
 refine az 25 ((.bool false)) rfl ((congrArg Value.bool (decide_eq_false ag))) (go ?_)
 refine bZ (rest.length+1) 2 zr zr zr zr zr zr zr ag ag (go ?_)
 refine aK ?_
 refine aX 0 ((rest.length+1)*2+0) zr zr zr dO (Nat.add_assoc _ _ _) eW zr zr (go ?_)
 by_cases zR:lst.n=((2+rest.length:Nat):Int)
 case neg =>
  have hd:jy b=none:=by rw[hre,if_neg (fun h=>zR h.1)]
  refine az 37 ((.bool true)) rfl ((congrArg Value.bool (decide_eq_true ag))) (go ?_)
  refine kK (U:=aR) zr zr zr zr zr (go ?_)
  (refine aZ hE ?_;apply aW (U:=aR) hE Tryz.func128 rfl (ak.refl _);(repeat(first|exact aQ.nil|apply aQ.tmp rfl|apply aQ.agg 2 zr zr zr zr zr));exact(.inl ⟨hd,⟨0,Dg.zero,none,0,0,rfl⟩,rfl⟩);exact ah)
 refine az 37 ((.bool false)) rfl ((congrArg Value.bool (decide_eq_false ag))) (go ?_)
 refine bZ 0 2 zr zr zr zr zr zr zr zr ag (go ?_)
 refine aK ?_
 refine aX 0 (0*2+1) zr zr zr dO (Nat.add_assoc _ _ _) Ch zr zr (go ?_)
 by_cases h1l:b1.length=1
 case neg =>
  have hd:jy b=none:=by rw[hre,if_neg (fun h=>h1l h.2.1)]
  refine bj 44 ((.bool true)) rfl ((congrArg Value.bool (decide_eq_true ag))) (go ?_)
  refine kK (U:=aR) zr zr zr zr zr (go ?_)
  (refine aZ hE ?_;apply aW (U:=aR) hE Tryz.func128 rfl (ak.refl _);(repeat(first|exact aQ.nil|apply aQ.tmp rfl|apply aQ.agg 2 zr zr zr zr zr));exact(.inl ⟨hd,⟨0,Dg.zero,none,0,0,rfl⟩,rfl⟩);exact ah)
 obtain⟨kb,rfl⟩:∃k,b1=[k]:=by
  match b1,h1l with
  | [k],_=>exact⟨k,rfl⟩
 refine bj 44 ((.bool false)) rfl ((congrArg Value.bool (decide_eq_false (by simp)))) (go ?_)
 refine bZ 1 2 zr zr zr zr zr zr zr zr ag (go ?_)
 refine aK ?_
 refine aX 0 (1*2+1) zr zr zr dO (Nat.add_assoc _ _ _) Zi zr zr (go ?_)
 refine aN (wg Z0 _ b2 tC ag) ?_
 unfold dV
 refine go ?_
 refine aC zr zr zr bE ?_
 intro b8
 refine go ?_
 refine bt (p:=2) (q:=(fX.length:Int)) zr zr zr zr zr zr zr ag ag (.inl rfl) ?_
 ((refine az 55 ((.slice (sliceAt (some ⟨rb,ro,none⟩) rc 2 2) rest.length (rc-2))) rfl ((by rw[show(fX.length:Int).toNat=rest.length+2 from by omega,show(2:Int).toNat=2 from rfl,show rest.length+2-2=rest.length by omega];rfl)) ?_))
 have M0:=dO.Rs (s:=2) (cE jQ _) QP 2 ag
 have hdr:(fX.flatMap my).drop (2*2)=rest.flatMap my:=by rw[Bn];rfl
 rw[hdr,show fX.length-2=rest.length from by omega]at M0
 have ac1:∀x∈rest,eO Z0 x.v x.b:=fun x hx=>xO x (by rw[Bn];simp[hx])
 have hxr:∀x∈rest,x.b.length≤65536:=fun x hx=>Sr x.p (by rw[← rW,Bn];simp;right;right;exact⟨x,hx,rfl⟩)
 clear Zi eW ZK nG Sz Q' hs rW xO Sr Bn
 refine go ?_
 refine ai (bK 40 1 none _) ?_
 obtain⟨dh,hdh⟩:∃d,d=(ix b2).getD Dg.zero:=⟨_,rfl⟩
 rw[← hdh]
 refine bB (fun y:Nat × Option Addr × Nat=>y.1≤rest.length) (fun y=>rest.length-y.1)
  (fun y=>[(3,ptr b3),(6,.slice (some ⟨rb,ro,none⟩) fX.length rc),(8,ptr b8),(9,.bool (ix b2).isSome),(10,.slice y.2.1 y.1 y.2.2),(55,.slice (sliceAt (some ⟨rb,ro,none⟩) rc 2 2) rest.length (rc-2)),(56,.int .i64 (rest.length:Int)),(57,.int .i64 (y.1:Int))])
  (fun y=>aF 40 1 (.slice y.2.1 y.1 y.2.2) y.1 ((rest.take y.1).flatMap fun x=>[x.v])::Z0::X::ae b3 (cl (dC Dg.zero) 37)::ae b8 (cl (dC dh) 37)::F) (0,none,0) (Nat.zero_le _) rfl ck ah ?_
 rintro⟨j,ma,mc⟩ hj ih
 simp only at hj
 dsimp only
 refine go ?_
 refine au zr zr ?_ ?_
 ·intro dJ
  have oX:j<rest.length:=by omega
  obtain⟨it,Ng⟩:∃x,rest[j]?=some x:=⟨rest[j],by simp⟩
  have No:=ac1 it (List.mem_of_getElem? Ng)
  obtain⟨xn,xv,xb⟩:=it
  simp only at No
  obtain⟨va,vc,rfl,_⟩:=No.2
  have Vi:sliceAt (some ⟨rb,ro,none⟩) rc 2 2=some ⟨rb,ro+4,none⟩:=by
   unfold sliceAt
   rw[if_neg ag]
   rfl
  rw[Vi]at M0
  refine bj 55 (.slice (some ⟨rb,ro+4,none⟩) rest.length (rc-2)) rfl (by rw[Vi]) (go ?_)
  refine bZ j 2 zr zr zr zr zr zr zr zr oX ?_
  refine aK ?_
  refine cI (U:=aR) (es:=my ⟨xn,.slice va xb.length vc,xb⟩) 1 (j*2) zr zr zr M0 rfl (fun q v hq=>?_) zr zr zr ?_
  ·rw[cU jQ Ng q (by rcases Nat.lt_or_ge q 2 with h|h;exact h;rw[List.getElem?_eq_none (by rw[jQ];exact h)]at hq;cases hq)];exact hq
  refine aC zr zr zr bE ?_
  intro b12
  refine go ?_
  refine ao (cs:=[.slice va xb.length vc]) zr zr zr zr zr zr zr zr zr bE ?_
  intro row
  refine go ?_
  have kU:(rest.take (j+1)).flatMap (fun x=>[x.v])=(rest.take j).flatMap (fun x=>[x.v])++[.slice va xb.length vc]:=by rw[List.take_add_one,Ng];simp
  refine aT (mm:=1) (news:=[.slice va xb.length vc]) 2 0 rfl rfl rfl rfl rfl rfl rfl rfl rfl rfl rfl rfl (Vw.ae rfl) rfl (by intro v hv;simp at hv;rw[hv];rfl) ag (by show(_+_)*24≤_;omega) (fun _=>rfl) bE ?_
  intro v1
  rw[← kU]
  refine aP 2 rfl ?_
  rintro ja jc rfl
  refine go ?_
  refine bj 55 ((.slice (sliceAt (some ⟨rb,ro,none⟩) rc 2 2) rest.length (rc-2))) rfl ((by rw[Vi])) ?_
  refine aM ih (j+1,ja,jc) rfl (by simp only;omega) (by simp only;omega) ck ah
 ·intro fO
  have Nd:j=rest.length:=by omega
  subst Nd
  rw[List.take_length]
  clear ih
  obtain⟨bb1,oo1,cc1,DK⟩:=pZ.1.some (by simp[bV])
  simp only[Value.slice.injEq,true_and]at DK
  obtain⟨rfl,rfl⟩:=DK
  have nr:Vw Z0 (.slice (some ⟨bb1,oo1,none⟩) 1 c1) 1 (bV [kb]):=pZ.1
  have DF:(rest.map It.b).length=rest.length:=List.length_map ..
  refine kH 0 rfl ?_
  intro kj
  refine dg 0 rfl ?_
  intro QI
  have nw:sJ (Sep [aF 40 1 (.slice ma rest.length mc) rest.length (rest.flatMap fun x=>[x.v]),Z0]) (.slice ma rest.length mc) (rest.map It.b):=by
   rw[← DF]at QI kj ⊢
   refine sJ.ofP QI kj (by rw[← GH];simp) (fun i z hz=>?_)
   rw[List.getElem?_map]at hz
   cases hx:rest[i]? with
   | none=>rw[hx]at hz;cases hz
   | some y =>
    rw[hx]at hz
    injection hz with hz
    subst hz
    exact⟨y.v,by rw[← GH,List.getElem?_map,hx];rfl,ac1 y (List.mem_of_getElem? hx)⟩
  have hmb:(rest.map It.p).map (·.2)=rest.map It.b:=by rw[List.map_map];rfl
  rw[hmb]at hre
  have hdd:∀d,ix b2=some d→jy b=some (kb,d,rest.map It.b):=fun d hd=>by
   grind [ix]
  have uP:ix b2=none→jy b=none:=fun hd=>by
   grind [ix]
  refine go ?_
  refine aG (fun w=>Sat G w ([Z0,ae b8 (cl (dC dh) 37)])) (dj 0 10 (.act 10 (.st 11 (.st 12 .nil)))) rfl aq aq aq eo ?_
  refine go ?_
  refine bZ 0 2 zr zr zr zr zr zr zr zr ag (go ?_)
  refine aK ?_
  refine bW 0 (0*2+1) zr zr zr dO (Nat.add_assoc _ _ _) Ch zr zr (go ?_)
  refine bR 0 zr zr zr zr zr zr zr zr (by simp) (go ?_)
  refine aK ?_
  refine bW 0 0 zr zr zr nr zr zr zr zr (go ?_)
  refine bT (U:=aR) (l:=dC dh) 1 zr zr zr zr zr zr (go ?_)
  refine aV ?_
  refine cH (U:=aR) (l':=dC dh) 3 eo rfl rfl rfl rfl (by intro e;cases e) (by rw[dL];exact gU _) rfl rfl rfl ?_
  refine go ?_
  refine ai (H':=Sep [aF 40 1 (.slice ma rest.length mc) rest.length (rest.flatMap fun x=>[x.v]),Z0]::X::ae b3 (cl (dC dh) 37)::ae b8 (cl (dC dh) 37)::F) (ak.trans ah (ak.bX [aF 40 1 (.slice ma rest.length mc) rest.length (rest.flatMap fun x=>[x.v]),Z0] _)) ?_
  cases TY:ix b2 with
  | none =>
   simp only[Option.isSome_none]
   (refine aZ hE ?_;apply aW (U:=aR) hE Tryz.func128 rfl (ak.refl _);(repeat(first|exact aQ.nil|apply aQ.tmp rfl|apply aQ.agg 2 zr zr zr zr zr));exact(.inl ⟨uP TY,⟨kb,dh,_,_,_,rfl⟩,rfl⟩);exact ah)
  | some d =>
   rw[TY]at hdh
   simp only[Option.getD_some]at hdh
   subst hdh
   simp only[Option.isSome_some]
   (refine aZ hE ?_;apply aW (U:=aR) hE Tryz.func128 rfl (ak.refl _);(repeat(first|exact aQ.nil|apply aQ.tmp rfl|apply aQ.agg 2 rfl rfl rfl rfl rfl));exact(.inr ⟨kb,dh,_,_,_,hdd dh TY,nw,(fun x hx=>by obtain⟨y,hy,rfl⟩:=List.mem_map.1 hx;exact hxr y hy),ag,rfl,rfl⟩);exact ah)
end Go.Proofs.YthnfckodljbgbaaGreatDoor
namespace Go.Proofs.YthnfckodljbgbaaGreatDoor
open Go Go.SL
def y6(n i:Nat):Int:=match dS n i with
 | some s=>(s:Int)
 | none => -1
theorem O3(n:Nat):n ^^^ 1=if n%2=1 then n-1 else n+1:=by
 have h1:=Nat.xor_div_two (a:=n) (b:=1)
 have h2:(n ^^^ 1)%2=(n+1)%2:=by
  rcases Nat.mod_two_eq_zero_or_one n with h|h
  ·have:=(Nat.xor_mod_two_eq_one (a:=n) (b:=1)).2 (by simp[h])
   omega
  ·have:=(Nat.xor_mod_two_eq_one (a:=n) (b:=1))
   grind
 grind
theorem O4(n:Nat)(h:n<1000000000):IntKind.i64.wrap ((BitVec.ofInt IntKind.i64.bits (n:Int) ^^^ BitVec.ofInt IntKind.i64.bits 1).toNat:Int)=((if n%2=1 then n-1 else n+1:Nat):Int):=by
 grind [yo,O3,cV,gy]
def bO:Nat→Nat→Nat→List (Nat × Nat)
 | 0,_,_=>[]
 | f+1,n,i=>if n≤1 then []else(n,i)::bO f ((n+1)/2) (i/2)
def uu:∀(f g n i:Nat),n≤f→n≤g→bO f n i=bO g n i
 | 0,0,_,_,_,_=>rfl
 | 0,g+1,n,i,hf,_=>by
  obtain rfl:n=0:=by omega
  rfl
 | f+1,0,n,i,_,hg=>by
  obtain rfl:n=0:=by omega
  rfl
 | f+1,g+1,n,i,hf,hg=>by
  unfold bO
  split
  ·rfl
  ·rw[uu f g ((n+1)/2) (i/2) ag ag]
theorem Ds(f n i:Nat)(hf:n≤f)(hn:1<n):bO f n i=(n,i)::bO f ((n+1)/2) (i/2):=by
 rw[uu f (f+1) n i hf ag]
 grind [bO]
def FH(f n i:Nat)(hn:n≤1):bO f n i=[]:=by
 cases f with
 | zero=>rfl
 | succ f=>unfold bO;rw[if_pos hn]
theorem tj:∀(f n i:Nat),i<n→∀p∈bO f n i,p.2<p.1∧p.1≤n
 | 0,_,_,_,p,h=>by cases h
 | f+1,n,i,hi,p,h=>by
  unfold bO at h
  split at h
  ·cases h
  ·rcases List.mem_cons.1 h with rfl|h
   ·grind
   ·obtain⟨h1,h2⟩:=tj f ((n+1)/2) (i/2) ag p h
    grind
def oR(l:List (Nat × Nat)):Nat:=(l.filter fun p=>(dS p.1 p.2).isSome).length
theorem GX(l:List (Nat × Nat))(p:Nat × Nat):oR (l++[p])=oR l+if(dS p.1 p.2).isSome then 1 else 0:=by
 grind [oR,dS]
theorem wK:∀(f n i:Nat),e7 f n i=oR (bO f n i)
 | 0,_,_=>rfl
 | f+1,n,i=>by
  unfold e7 bO
  split
  ·rfl
  ·rw[wK f]
   grind [oR,dS]
def yZ(z:Dg × List Dg)(p:Nat × Nat):Dg × List Dg:=match dS p.1 p.2 with
 | none=>z
 | some s=>(if s<p.2 then eY (z.2.headD Dg.zero) z.1 else eY z.1 (z.2.headD Dg.zero),z.2.tail)
def qQ(l:List (Nat × Nat))(z:Dg × List Dg):Dg × List Dg:=l.foldl yZ z
def Rv(l:List (Nat × Nat))(p:Nat × Nat)(z:Dg × List Dg):qQ (l++[p]) z=yZ (qQ l z) p:=by unfold qQ;rw[List.foldl_append];rfl
theorem wO:∀(f n i:Nat) (x:Dg) (p:List Dg),im f n i x p=(qQ (bO f n i) (x,p)).1
 | 0,_,_,_,_=>rfl
 | f+1,n,i,x,p=>by
  unfold im bO
  split
  ·rfl
  ·unfold qQ
   rw[List.foldl_cons]
   unfold yZ
   cases h:dS n i with
   | none=>simp only;exact wO f _ _ _ _
   | some s=>simp only;exact wO f _ _ _ _
theorem GY:∀(l:List (Nat × Nat)) (z:Dg × List Dg),(qQ l z).2.length=z.2.length-oR l
 | [],z=>rfl
 | p::l,z=>by
  have:=GY l (yZ z p)
  grind [qQ,yZ,oR,dS]
theorem Lu(l:List (Nat × Nat))(j:Nat):oR (l.take j)≤oR l:=by
 conv=>rhs;rw[← List.take_append_drop j l]
 grind [oR]
attribute [local irreducible] J K aD Ends ae aF aL bU bo aU bh bq cg Sha.chunks Sha.chunk Sha.rounds Sha.sched dW cy cS eY
def mM(n i:Int):Bool:=decide (1≤n∧n≤1024∧0≤i∧i<n)
def zy(n i:Int):aD Tryz.prog 148 [.int .i64 n,.int .i64 i] [] (fun r H=>r = .bool (mM n i)∧H=[]):=by
 have hF:(¬(1≤n∧n≤1024∧0≤i))→Value.bool false = .bool (mM n i):=fun h=>by unfold mM;rw[decide_eq_false ag]
 have hT:(1≤n∧n≤1024∧0≤i)→Value.bool (decide (i<n)) = .bool (mM n i):=fun h=>by unfold mM;exact congrArg Value.bool (decide_eq_decide.2 ag)
 refine aD.aw Tryz.func148 Tryz.ntmps148 fun G F R hE=>?_
 repeat'(first|(with_reducible intro p6)|refine eZ ?_|refine hJ zr zr zr zr ?_ ?_|fail)
 all_goals(first|((refine ad hE Tryz.func148 zr zr ⟨hF ag,rfl⟩))|((refine ad hE Tryz.func148 zr zr ⟨hT ag,rfl⟩)))
theorem Aw(n i:Nat)(hi:i<n)(hn:n≤1000000):aD Tryz.prog 151 [.int .i64 (n:Int),.int .i64 (i:Int)] [] (fun r H=>r = .int .i64 (y6 n i)∧H=[]):=by
 refine aD.aw Tryz.func151 Tryz.ntmps151 fun G F R hE=>?_
 have hx:=O4 i ag
 refine go ?_
 refine au zr zr ?_ ?_
 ·intro dJ
  have hs:y6 n i=((if i%2=1 then i-1 else i+1:Nat):Int):=by
   grind [y6,dS]
  refine go ?_
  refine ad hE Tryz.func151 zr zr ⟨congrArg (Value.int .i64) (hx.trans hs.symm),rfl⟩
 ·intro fO
  have hs:y6 n i = -1:=by
   grind [y6,dS]
  refine go ?_
  refine ad hE Tryz.func151 zr zr ⟨congrArg (Value.int .i64) hs.symm,rfl⟩
def zq(n i:Int):aD Tryz.prog 150 [.int .i64 n,.int .i64 i] [] (fun r H=>∃b1 b2,r = .func (.func 202) #[] #[ptr b1,ptr b2]∧H=[ae b1 (cl [.int .i64 n] 3),ae b2 (cl [.int .i64 i] 3)]):=by
 refine aD.aw Tryz.func150 Tryz.ntmps150 fun G F R hE=>?_
 refine aB rfl ?_
 refine bG zr zr bE ?_
 intro b1
 refine bG zr zr bE ?_
 intro b2
 refine go ?_
 refine ad hE Tryz.func150 zr zr ⟨b1,b2,rfl,rfl⟩
theorem xB(b1 b2 n i:Nat)(hn:n≤1000000)(hi:i≤1000000)(l:Nat)(Lp:HP)(Inv:Nat→HP)(hy:∀j p,(bO n n i)[j]?=some p→cg Tryz.prog l [.int .i64 (p.1:Int),.int .i64 (p.2:Int)] [Lp,Inv j] (fun v H=>v = .bool true∧H=[Lp,Inv (j+1)])) :
  aD Tryz.prog 202 [.func (.yield l) #[] #[],ptr b1,ptr b2] [Lp,Inv 0,ae b1 (cl [.int .i64 (n:Int)] 3),ae b2 (cl [.int .i64 (i:Int)] 3)] (fun _ H=>H=[Lp,Inv (bO n n i).length]):=by
 refine aD.aw Tryz.func202 Tryz.ntmps202 fun G F R hE=>?_
 refine bB (fun y:Nat × Nat × Nat=>y.1≤n∧y.2.1≤i∧(bO n n i).drop y.2.2=bO n y.1 y.2.1∧y.2.2≤(bO n n i).length) (fun y=>y.1)
  (fun _=>[(0,.func (.yield l) #[] #[]),(1,ptr b1),(2,ptr b2)])
  (fun y=>Lp::Inv y.2.2::ae b1 (cl [.int .i64 (y.1:Int)] 3)::ae b2 (cl [.int .i64 (y.2.1:Int)] 3)::F) (n,i,0) ⟨Nat.le_refl _,Nat.le_refl _,rfl,Nat.zero_le _⟩ rfl ck ah ?_
 rintro⟨m,k,j⟩⟨hm,hk,hd,hj⟩ ih
 simp only at hm hk hd hj
 refine go ?_
 refine au zr zr ?_ ?_
 ·intro OY
  have DH:1<m:=by omega
  rw[Ds n m k hm DH]at hd
  have hx:(bO n n i)[j]?=some (m,k):=by
   have:=congrArg (fun l=>l[0]?) hd
   grind
  have uL:=(List.getElem?_eq_some_iff.1 hx).1
  have La:(bO n n i).drop (j+1)=bO n ((m+1)/2) (k/2):=by
   have:=congrArg (fun l=>l.drop 1) hd
   simpa[List.drop_drop]using this
  refine go ?_
  refine lB zr zr zr (hy j (m,k) hx) ah ?_ nq
  rintro _ _⟨rfl,rfl⟩
  refine go ?_
  refine ai (H':=ae b1 (cl [.int .i64 (m:Int)] 3)::ae b2 (cl [.int .i64 (k:Int)] 3)::Lp::Inv (j+1)::F) ah ?_
  refine aG (fun w=>Sat G w ([])) (.fork (.act 0 (.st 1 (.st 2 (.fork (.act 3 (.st 4 (.act 5 (.act 6 .nil)))) (.act 5 (.act 3 (.st 4 (.act 6 .nil)))))))) (.act 3 (.st 4 (.act 0 (.st 1 (.st 2 (.act 5 (.act 6 .nil)))))))) rfl aq aq aq eo ?_
  repeat'(first|refine eZ ?_|refine rh ?_ ?_|(refine mj ?_;refine jN zr zr zr ag ?_;first|(refine az 8 (.int .i64 (((m+1)/2:Nat):Int)) rfl (congrArg (Value.int .i64) (by show((m:Int)+1)/2 ^ 1=_;omega)) ?_)|(refine az 10 (.int .i64 ((k/2:Nat):Int)) rfl (congrArg (Value.int .i64) (by show(k:Int)/2 ^ 1=_;omega)) ?_))|(refine aV ?_;(refine cF 0 eo zr zr zr zr zr zr zr zr zr ?_)))
  all_goals(
   refine aM ih ((m+1)/2,k/2,j+1) rfl ⟨by simp only;omega,by simp only;omega,La,by simp only;omega⟩ (by simp only;omega) ck ah)
 ·intro fO
  have hz:bO n m k=[]:=FH n m k ag
  have Nd:j=(bO n n i).length:=by
   have:=congrArg List.length hd
   grind
  subst Nd
  refine go ?_
  refine cd hE Tryz.func202 rfl _ zr zr ah
theorem CW(n i:Int):aD Tryz.prog 149 [.int .i64 n,.int .i64 i] [] (fun r H=>r = .int .i64 (dB n i:Int)∧H=[]):=by
 refine aD.aw Tryz.func149 Tryz.ntmps149 fun G F R hE=>?_
 refine go ?_
 refine aC zr zr zr bE ?_
 intro b5
 refine go ?_
 refine aN (zy n i) ?_
 cases hr:mM n i with
 | false =>
  have hd:dB n i=0:=by
   grind [dB,mM]
  rw[hd]at hE
  refine go ?_
  refine ad hE Tryz.func149 zr zr ⟨rfl,rfl⟩
 | true =>
  have QQ:1≤n∧n≤1024∧0≤i∧i<n:=by unfold mM at hr;simpa using hr
  obtain⟨m,rfl⟩:∃m:Nat,n=m:=⟨n.toNat,ag⟩
  obtain⟨k,rfl⟩:∃m:Nat,i=m:=⟨i.toNat,ag⟩
  have hd:dB (m:Int) (k:Int)=oR (bO m m k):=by
   grind [dB,wK]
  have qe:=tj m m k ag
  have ED:=oQ (m:Int) (k:Int)
  rw[hd]at hE ED
  refine go ?_
  refine aI (zq (m:Int) (k:Int)) ?_
  rintro _ _⟨b1,b2,rfl,rfl⟩
  refine go ?_
  refine gE rfl ?_
  have Lc:oR ((bO m m k).take 0)=0:=rfl
  refine qW (Fr:=F) (Pre:=fun _ _=>[ae b5 (cl [.int .i64 (oR ((bO m m k).take 0):Int)] 3),ae b1 (cl [.int .i64 (m:Int)] 3),ae b2 (cl [.int .i64 (k:Int)] 3)]) (fun _ _ Lp v H=>H=[Lp .ready none,ae b5 (cl [.int .i64 (oR ((bO m m k).take (bO m m k).length):Int)] 3)]) rfl hE.1.1 rfl ?c (fun l r=>ah) ?ij
  case c =>
   intro l r
   refine xB b1 b2 m k ag ag l _ (fun j=>ae b5 (cl [.int .i64 (oR ((bO m m k).take j):Int)] 3)) ?_
   rintro j⟨p,q⟩ hp
   obtain⟨h1,h2⟩:=qe _ (List.mem_of_getElem? hp)
   have kU:(bO m m k).take (j+1)=(bO m m k).take j++[(p,q)]:=by rw[List.take_add_one,hp];rfl
   have VD:oR ((bO m m k).take (j+1))=oR ((bO m m k).take j)+if(dS p q).isSome then 1 else 0:=by rw[kU,GX]
   have ki:=Lu (bO m m k) j
   refine cg.FO zr zr ?_
   intro G2 F2 R2 hY
   refine go ?_
   refine gx rfl hY (go ?_)
   refine aN (Aw p q h1 ag) ?_
   unfold y6
   cases hs:dS p q with
   | none =>
    rw[hs]at VD
    rw[VD]at hY
    refine go ?_
    refine fV hY rfl ah ⟨rfl,rfl⟩
   | some s =>
    rw[hs]at VD
    rw[VD]at hY
    refine go ?_
    refine fV hY rfl ah ⟨rfl,rfl⟩
  rintro l r v H' rfl
  refine⟨_,_,_,rfl,by decide,?_⟩
  rw[hE.1.2,List.take_length]
  refine go ?_
  (apply aW (U:=aR) hE Tryz.func149 rfl ah;(repeat(first|exact aQ.nil|apply aQ.tmp rfl));exact⟨rfl,rfl⟩;exact ah)
end Go.Proofs.YthnfckodljbgbaaGreatDoor
namespace Go.Proofs.YthnfckodljbgbaaGreatDoor
open Go Go.SL
def CkI(b8 b9:Nat)(X:HP)(z:Dg × List Dg):HP:=fun h=>∃v:Value,AY X v z.2∧Sep [ae b8 (cl (dC z.1) 37),ae b9 (cl [v] 41),X] h
def HR(b8 b9:Nat)(X:HP)(z:Dg × List Dg):∀h,CkI b8 b9 X z h→∃v:Value,AY X v z.2∧Sep [ae b8 (cl (dC z.1) 37),ae b9 (cl [v] 41),X] h:=fun h hs=>hs
def Et{b8 b9:Nat}{X:HP}{z:Dg × List Dg}{v:Value}(hv:AY X v z.2)(H:List HP):ak (ae b8 (cl (dC z.1) 37)::ae b9 (cl [v] 41)::X::H) (CkI b8 b9 X z::H) :=
 ak.fold (A:=CkI b8 b9 X z) (B:=[ae b8 (cl (dC z.1) 37),ae b9 (cl [v] 41),X]) fun h hs=>⟨h,sub.refl h,v,hv,hs⟩
def AY.tail{X:HP}{a:Option Addr}{c:Nat}{x:Dg}{l:List Dg}(h:AY X (.slice a (x::l).length c) (x::l)):AY X (.slice (sliceAt a c 1 32) l.length (c-1)) l:=by
 obtain⟨hv,a',c',he,hc⟩:=h
 obtain⟨rfl,rfl⟩:=he
 have:=hv.Rs (s:=32) (cE dD _) hc 1 (by simp)
 exact⟨this,_,_,rfl,by simp only[List.length_cons]at hc;omega⟩
attribute [local irreducible] J K aD Ends ae aF aL bU bo aU bh bq cg Sha.chunks Sha.chunk Sha.rounds Sha.sched dW cy cS eY CkI
theorem OI(X:HP)(hK:oZ X)(root leaf:Dg)(n i:Int)(pv:Value)(proof:List Dg)(hp:AY X pv proof) :
  aD Tryz.prog 91 [dV root,.int .i64 n,.int .i64 i,dV leaf,pv] [X] (fun r H=>r = .bool (gS root n i leaf proof)∧H=[X]):=by
 have Ez:=hp
 obtain⟨hv,a,c,rfl,hc⟩:=hp
 refine aD.aw Tryz.func91 Tryz.ntmps91 fun G F R hE=>?_
 refine aB rfl ?_
 refine bG zr zr bE ?_
 intro b5
 refine bG zr zr bE ?_
 intro b8
 refine bG zr zr bE ?_
 intro b9
 refine go ?_
 refine aG (fun w=>Sat G w ([ae b9 (cl [.slice a proof.length c] 41)])) (.st 0 (.st 1 (.act 2 (dj 3 6 (.act 9 (.st 10 (.st 11 .nil))))))) rfl aq aq aq eo ?_
 refine go ?_
 refine bp (zy n i) ?_
 cases hr:mM n i with
 | false =>
  have hcf:gS root n i leaf proof=false:=by
   grind [gS,mM]
  rw[hcf]at hE
  refine go ?_
  (refine aZ hE ?_;apply aW (U:=aR) hE Tryz.func91 rfl (ak.refl _);(repeat(first|exact aQ.nil|apply aQ.tmp rfl));exact⟨rfl,rfl⟩;exact ah)
 | true =>
  have QQ:1≤n∧n≤1024∧0≤i∧i<n:=by unfold mM at hr;simpa using hr
  refine go ?_
  refine bp (CW n i) ?_
  refine go ?_
  refine fZ zr zr ?_ ?_
  ·intro df
   have hcf:gS root n i leaf proof=false:=by
    grind [gS]
   rw[hcf]at hE
   refine go ?_
   (refine aZ hE ?_;apply aW (U:=aR) hE Tryz.func91 rfl (ak.refl _);(repeat(first|exact aQ.nil|apply aQ.tmp rfl));exact⟨rfl,rfl⟩;exact ah)
  intro heq
  have uO:proof.length=dB n i:=by
   grind
  obtain⟨m,rfl⟩:∃m:Nat,n=m:=⟨n.toNat,ag⟩
  obtain⟨k,rfl⟩:∃m:Nat,i=m:=⟨i.toNat,ag⟩
  have hd:dB (m:Int) (k:Int)=oR (bO m m k):=by
   grind [dB,wK]
  have qe:=tj m m k ag
  have hck:gS root (m:Int) (k:Int) leaf proof=decide ((qQ (bO m m k) (leaf,proof)).1=root):=by
   grind [gS,wO]
  rw[hck]at hE
  refine go ?_
  refine aI (zq (m:Int) (k:Int)) ?_
  rintro _ _⟨b1,b2,rfl,rfl⟩
  refine go ?_
  refine gE rfl ?_
  refine ai (ak.pick [3,2,5] rfl) ?_
  refine ai (Et (z:=qQ ((bO m m k).take 0) (leaf,proof)) Ez _) ?_
  refine qW (Fr:=ae b5 (cl (dC root) 37)::F) (Pre:=fun _ _=>[CkI b8 b9 X (qQ ((bO m m k).take 0) (leaf,proof)),ae b1 (cl [.int .i64 (m:Int)] 3),ae b2 (cl [.int .i64 (k:Int)] 3)]) (fun _ _ Lp v H=>H=[Lp .ready none,CkI b8 b9 X (qQ ((bO m m k).take (bO m m k).length) (leaf,proof))]) rfl hE.1.1 rfl ?c (fun l r=>ah) ?ij
  case c =>
   intro l r
   refine xB b1 b2 m k ag ag l _ (fun j=>CkI b8 b9 X (qQ ((bO m m k).take j) (leaf,proof))) ?_
   rintro j⟨p,q⟩ H5
   obtain⟨h1,h2⟩:=qe _ (List.mem_of_getElem? H5)
   have kU:(bO m m k).take (j+1)=(bO m m k).take j++[(p,q)]:=by rw[List.take_add_one,H5];rfl
   have hcz:qQ ((bO m m k).take (j+1)) (leaf,proof)=yZ (qQ ((bO m m k).take j) (leaf,proof)) (p,q):=by rw[kU,Rv]
   have Zd:=GY ((bO m m k).take j) (leaf,proof)
   have VD:oR ((bO m m k).take (j+1))=oR ((bO m m k).take j)+if(dS p q).isSome then 1 else 0:=by rw[kU,GX]
   have ki:=Lu (bO m m k) (j+1)
   rw[hcz]
   obtain⟨z,hz⟩:∃z,z=qQ ((bO m m k).take j) (leaf,proof):=⟨_,rfl⟩
   rw[← hz]at Zd ⊢
   refine cg.FO zr zr ?_
   intro G F2 R2 hY
   unfold yZ at hY
   obtain⟨x,prf⟩:=z
   refine go ?_
   refine gx rfl hY ?_
   refine ai (ak.pick [1] rfl) ?_
   refine eB (HR b8 b9 X (x,prf)) ?_
   rintro v hdv
   refine go ?_
   refine aN (Aw p q h1 ag) ?_
   unfold y6
   cases hs:dS p q with
   | none =>
    rw[hs]at VD hY
    refine go ?_
    refine ai (Et (z:=(x,prf)) hdv _) ?_
    refine fV hY rfl ah ⟨rfl,rfl⟩
   | some s =>
    rw[hs]at VD hY
    simp only[Option.isSome_some,if_true]at VD
    simp only at hY ⊢
    simp only at Zd
    obtain⟨p0,rest,rfl⟩:∃p0 rest,prf=p0::rest:=by
     cases prf with
     | nil=>rw[List.length_nil]at Zd;exfalso;omega
     | cons p0 rest=>exact⟨p0,rest,rfl⟩
    obtain⟨dO,a1,c1,rfl,Jq⟩:=hdv
    obtain⟨bb,oo,cc,he⟩:=dO.some (by rw[List.flatMap_cons];intro h;simp[dC]at h)
    obtain⟨rfl,rfl⟩:=he
    have pY:=AY.tail ⟨dO,_,_,rfl,Jq⟩
    have fO:∀(q':Nat) (v:Value),(dC p0)[q']?=some v→((p0::rest).flatMap dC)[0+q']?=some v:=fun q' v hq=>by
     grind
    refine go ?_
    refine au zr zr ?_ ?_
    ·intro dJ
     have x8:s<q:=by omega
     rw[if_pos x8]at hY
     refine go ?_
     refine aG (fun w=>Sat G w ([ae b8 (cl (dC x) 37),ae b9 (cl [.slice (some ⟨bb,oo,none⟩) (p0::rest).length c1] 41),X])) (dj 0 4 (.act 4 (.act 5 .nil))) rfl aq aq aq eo ?_
     (repeat(first|refine eZ ?_|refine bZ 0 32 zr zr zr zr zr zr zr zr (by simp) ?_|refine bT (U:=aR) (l:=dC x) 0 zr zr zr zr zr zr ?_|(refine aK ?_;refine e8 (U:=aR) (es:=dC p0) 2 0 zr zr zr dO rfl fO zr zr zr ?_)))
     refine bp (AN X hK p0 x) ?_
     refine aV ?_
     refine cH (U:=aR) (l':=dC (eY p0 x)) 1 gf rfl rfl rfl rfl (by intro e;cases e) (by rw[dL];exact gU _) rfl rfl rfl ?_
     refine go ?_
     refine bt (p:=1) (q:=((p0::rest).length:Int)) zr zr zr zr zr zr zr ag (by simp only[List.length_cons];omega) (.inl rfl) ?_
     ((refine az 52 ((.slice (sliceAt (some ⟨bb,oo,none⟩) c1 1 32) rest.length (c1-1))) rfl ((by rw[show((p0::rest).length:Int).toNat=rest.length+1 from by simp[List.length_cons],show(1:Int).toNat=1 from rfl,show rest.length+1-1=rest.length by omega];rfl)) ?_))
     refine go ?_
     refine ai (ak.trans ah (Et (z:=(eY p0 x,rest)) pY _)) ?_
     refine fV hY rfl ah ⟨rfl,rfl⟩
    ·intro dJ
     have x8:¬s<q:=by omega
     rw[if_neg x8]at hY
     refine go ?_
     refine aG (fun w=>Sat G w ([ae b8 (cl (dC x) 37),ae b9 (cl [.slice (some ⟨bb,oo,none⟩) (p0::rest).length c1] 41),X])) (dj 0 4 (.act 4 (.act 5 .nil))) rfl aq aq aq eo ?_
     (repeat(first|refine eZ ?_|refine bZ 0 32 zr zr zr zr zr zr zr zr (by simp) ?_|refine bT (U:=aR) (l:=dC x) 0 zr zr zr zr zr zr ?_|(refine aK ?_;refine e8 (U:=aR) (es:=dC p0) 2 0 zr zr zr dO rfl fO zr zr zr ?_)))
     refine bp (AN X hK x p0) ?_
     refine aV ?_
     refine cH (U:=aR) (l':=dC (eY x p0)) 1 gf rfl rfl rfl rfl (by intro e;cases e) (by rw[dL];exact gU _) rfl rfl rfl ?_
     refine go ?_
     refine bt (p:=1) (q:=((p0::rest).length:Int)) zr zr zr zr zr zr zr ag (by simp only[List.length_cons];omega) (.inl rfl) ?_
     ((refine az 52 ((.slice (sliceAt (some ⟨bb,oo,none⟩) c1 1 32) rest.length (c1-1))) rfl ((by rw[show((p0::rest).length:Int).toNat=rest.length+1 from by simp[List.length_cons],show(1:Int).toNat=1 from rfl,show rest.length+1-1=rest.length by omega];rfl)) ?_))
     refine go ?_
     refine ai (ak.trans ah (Et (z:=(eY x p0,rest)) pY _)) ?_
     refine fV hY rfl ah ⟨rfl,rfl⟩
  rintro l r v H' rfl
  refine⟨_,_,_,rfl,by decide,?_⟩
  rw[hE.1.2,List.take_length]
  refine eB (HR b8 b9 X _) ?_
  rintro v -
  refine go ?_
  refine aH (U:=aR) (l:=dC (qQ (bO m m k) (leaf,proof)).1) 0 zr zr zr zr zr zr (go ?_)
  refine aH (U:=aR) (l:=dC root) 4 zr zr zr zr zr zr (go ?_)
  refine lC (b:=decide ((qQ (bO m m k) (leaf,proof)).1=root)) zr zr zr Jx (fun w=>JH _ root w) ?_
  refine go ?_
  (apply aW (U:=aR) hE Tryz.func91 rfl ah;(repeat(first|exact aQ.nil|apply aQ.tmp rfl));exact⟨rfl,rfl⟩;exact ah)
def zB(X:HP)(hK:oZ X)(x:Bl)(i:Int)(bv:Value)(b:List UInt8)(hb:eO X bv b)(kQ:b.length≤900000000)(pv:Value)(proof:List Dg)(hp:AY X pv proof) :
  aD Tryz.prog 36 [dG x,.int .i64 i,bv,pv] [X] (fun r H=>r = .bool (dw x i b proof)∧H=[X]):=by
 have qE:=AJ x i
 have Z6:=xh x
 have hck:=OI X hK x.root (cS b) (cC x) i pv proof hp
 have hlf:=Ho X hK bv b hb kQ
 obtain⟨ba,bc,rfl,Re⟩:=hb.2
 refine aD.aw Tryz.func36 Tryz.ntmps36 fun G F R hE=>?_
 refine aB rfl ?_
 refine bG zr zr bE ?_
 intro b4
 refine go ?_
 refine aH (U:=aR) (l:=bH x) 0 zr zr zr zr zr zr (go ?_)
 refine aN qE ?_
 unfold dw at hE
 cases iC:dI x i with
 | none =>
  rw[iC]at hE
  refine go ?_
  refine aG (fun w=>Sat G w ([ae b4 (cl (bH x) 39)])) (dj 0 12 (.st 13 (.st 14 (.st 16 (.act 12 (.act 15 (.act 17 (.st 18 (.st 19 .nil))))))))) rfl aq aq aq eo ?_
  refine go ?_
  refine ad hE Tryz.func36 zr zr ⟨rfl,rfl⟩
 | some w =>
  obtain⟨at_,n⟩:=w
  rw[iC]at hE
  simp only at hE ⊢
  refine go ?_
  refine aG (fun w=>Sat G w ([ae b4 (cl (bH x) 39)])) (dj 0 12 (.st 13 (.st 14 (.st 16 (.act 12 (.act 15 (.act 17 (.st 18 (.st 19 .nil))))))))) rfl aq aq aq eo ?_
  refine go ?_
  by_cases hl:(b.length:Int)=n
  case neg =>
   rw[decide_eq_false hl,Bool.false_and]at hE
   refine az 27 ((.bool false)) rfl ((congrArg Value.bool (decide_eq_false hl))) (go ?_)
   refine ad hE Tryz.func36 zr zr ⟨rfl,rfl⟩
  rw[decide_eq_true hl,Bool.true_and]at hE
  refine az 27 ((.bool true)) rfl ((congrArg Value.bool (decide_eq_true hl))) (go ?_)
  refine cJ (U:=aR) (cs:=dC x.root) 0 zr zr zr zr zr zr (go ?_)
  refine bT (U:=aR) (l:=bH x) 0 zr zr zr zr zr zr (go ?_)
  refine bp Z6 ?_
  refine go ?_
  refine bp hlf ?_
  refine go ?_
  refine bp hck ?_
  refine go ?_
  refine ad hE Tryz.func36 zr zr ⟨rfl,rfl⟩
end Go.Proofs.YthnfckodljbgbaaGreatDoor
namespace Go.Proofs.YthnfckodljbgbaaGreatDoor
open Go Go.SL
structure TC where
 x:Bl
 n:Nat
 ws:List jB
 pf:Int→Option (List Dg)
def Tk.c(y:Tk):TC:=⟨y.x,y.n,y.ws,y.pf⟩
def dE(ts:List Tk):List TC:=ts.map Tk.c
namespace TC
def put(c:TC)(i:Nat)(l:List Dg):TC:=⟨c.x,c.n,ku c.ws i true,fun j=>if j=(i:Int)then some l else c.pf j⟩
def drop(c:TC)(i:Nat):TC:=⟨c.x,c.n,ku c.ws i false,fun j=>if j=(i:Int)then none else c.pf j⟩
end TC
def cN(x:Bl):TC:=⟨x,(cC x).toNat,List.replicate (((cC x).toNat+63)/64) 0#64,fun _=>none⟩
def nJ:List (List UInt8)→Option (List Dg)
 | []=>some []
 | b::l=>match ix b,nJ l with
  | some d,some ds=>some (d::ds)
  | _,_=>none
def lV(cs:List TC)(d:Dg)(m:List UInt8)(l:List (List UInt8)):List TC:=match qx m,nJ l with
 | some i,some p=>cs.map fun y=>if y.x.d=d∧i<y.n∧p.length=dB y.n i then y.put i p else y
 | _,_=>cs
def v7(cs:List TC)(d:Dg):List TC:=cs.filter fun y => !decide (y.x.d=d)
def cY(cs:List TC)(b:List UInt8):List TC:=match jy b with
 | none=>cs
 | some (k,d,more) =>
  if k=3∧more=[]then v7 cs d
  else match more with
   | [s,p,r]=>if k=1 then(match qx s,qx p,ix r with
     | some s,some p,some r=>if bI ⟨d,s,p,r⟩then v7 cs d++[cN ⟨d,s,p,r⟩]else cs
     | _,_,_=>cs)
    else if k=2 then lV cs d s [p,r]else cs
   | m::l=>if k=2 then lV cs d m l else cs
   | []=>cs
def bS(d:Dg)(i:Nat)(p:List Dg):List UInt8:=lE 2 d (uv i::p.map Dg.bs)
def nF(s:fg)(z:TC × List (List UInt8))(i:Nat):TC × List (List UInt8) :=
 if cG z.1.ws z.1.n (i:Int)then(if(cB s z.1.x i).2≠0∨dw z.1.x i (cB s z.1.x i).1 ((z.1.pf i).getD [])=false then(z.1.drop i,z.2)else(z.1,z.2++[bS z.1.x.d i ((z.1.pf i).getD [])]))else z
def gP(s:fg)(c:TC)(k:Nat):TC × List (List UInt8):=(List.range k).foldl (nF s) (c,[cD c.x])
def kW(s:fg)(c:TC):TC × List (List UInt8):=gP s c c.n
def sI(q:Int):List TC→fg→List TC→List (List UInt8)→Nat→fg→List TC→List (List UInt8)→Prop
 | [],s,cs,rs,e,t,lA,zg=>e=0∧t=s∧lA=cs∧zg=rs
 | c::l,s,cs,rs,e,t,lA,zg=>∃e1 s1,eh q c.x s e1 s1 ∧
  if e1=5∨e1=11 then sI q l s1 cs rs e t lA zg
  else if e1≠0 then e=e1∧t=s1
  else sI q l s1 (cs++[(kW s1 c).1]) (rs++(kW s1 c).2) e t lA zg
def Ef(q:Int)(s:fg)(e:Nat)(t:fg)(jn:JN)(cs:List TC):Prop :=
 ∃e1 A1 j1,oV s.A cZ e1 A1 j1∧if e1≠0 then e=e1∧t=⟨A1,s.bz,s.brk⟩else
  ∃e2 s2 rs,sI q ((gQ s.A cZ).foldl cY []) ⟨A1,s.bz,s.brk⟩ [] [] e2 s2 cs rs∧if e2≠0 then e=e2∧t=s2 else
   ∃A3,np cZ s2.A j1 rs e A3 jn∧t=⟨A3,s2.bz,s2.brk⟩
def mS(s:fg)(c:TC)(k:Nat):gP s c (k+1)=nF s (gP s c k) k:=by
 unfold gP
 rw[List.range_succ,List.foldl_append]
 rfl
theorem TL(s:fg)(z:TC × List (List UInt8))(i:Nat):(nF s z i).1.x=z.1.x∧(nF s z i).1.n=z.1.n∧(nF s z i).1.ws.length=z.1.ws.length:=by
 unfold nF
 split
 ·split
  ·exact⟨rfl,rfl,jG _ _ _⟩
  grind
 grind
theorem K4(s:fg)(c:TC):∀k,(gP s c k).1.x=c.x∧(gP s c k).1.n=c.n∧(gP s c k).1.ws.length=c.ws.length
 | 0=>⟨rfl,rfl,rfl⟩
 | k+1=>by
  rw[mS]
  obtain⟨h1,h2,h3⟩:=TL s (gP s c k) k
  obtain⟨g1,g2,g3⟩:=K4 s c k
  grind
theorem Lr(ts:List Tk):(dE ts).length=ts.length:=by simp[dE]
end Go.Proofs.YthnfckodljbgbaaGreatDoor
