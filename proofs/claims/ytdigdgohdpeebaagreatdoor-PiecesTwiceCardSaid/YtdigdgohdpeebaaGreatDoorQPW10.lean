import Derived.Test.YtdigdgohdpeebaaGreatDoorQPW3
import Derived.Test.YtdigdgohdpeebaaGreatDoorQPW4
import Derived.Test.YtdigdgohdpeebaaGreatDoorQPW5
import Derived.Test.YtdigdgohdpeebaaGreatDoorQPW6
import Derived.Test.YtdigdgohdpeebaaGreatDoorQPW9
set_option linter.unusedSimpArgs false
set_option linter.unusedVariables false
set_option maxRecDepth 20000
set_option linter.defProp false
namespace Go.Proofs.YtdigdgohdpeebaaGreatDoor
open Go Go.SL
variable{bs:List UInt8}{k n:Nat}
attribute [local irreducible] J K aE Ends ae az aQ bP bj aT aU bp
def qn(A:HP)(v:Value)(bs:List UInt8)(hv:eM A v bs)(hl:bs.length≤1000000000000):aE Tryz.prog 129 [v] [A] (fun r H=>H=[az 5 1 r (aZ bs).length (bV (aZ bs)),A]):=by
 obtain⟨a,c,rfl,hc⟩:=hv.2
 refine aE.au Tryz.func129 Tryz.ntmps129 fun G F R hE=>?_
 refine go ?_
 refine aF (mE bs.length ag) ?_
 rintro r _ rfl
 refine aN 0 rfl ?_
 rintro ra rc rfl
 refine go ?_
 have hu:=pI (n:=bs.length) ag
 refine aR (mm:=bs.length) (news:=bV bs) 0 1 zr zr zr zr zr zr zr zr zr zr zr zr hv.1 (by show _=_*1;rw[bt];omega) (cO _) ag (by show(_+_)*1≤_;omega) (fun _=>rfl) bD ?_
 intro v1
 rw[show bV (uv bs.length)++bV bs=bV (aZ bs)from by simp[bV,aZ],show(uv bs.length).length+bs.length=(aZ bs).length from by simp[aZ]]
 refine go ?_
 refine aL hE Tryz.func129 rfl _ zr zr ah
def Om(A:HP)(v:Value)(bs:List UInt8)(hv:eM A v bs)(hl:bs.length≤9223372036854775807) :
    aE Tryz.prog 181 [v] [A] (fun r H=>r=(match mh bs with
      | some (k,n) => .tuple #[.int .i64 (k:Int),.int .i64 (n:Int),.bool (decide (n≤4096))]
      | none => .tuple #[.int .i64 0,.int .i64 0,.bool false])∧H=[A]):=by
  obtain⟨a,c,rfl,hc⟩:=hv.2
  refine aE.au Tryz.func181 Tryz.ntmps181 fun G F R hE=>?_
  refine go ?_
  refine bz (fun k:Nat=>1≤k∧k≤3∧(2≤k→1≤bs.length∧cZ (bs.take 1)=none)∧(3≤k→2≤bs.length∧cZ (bs.take 2)=none)) (fun k=>3-k)
    (fun k=>[(0,.slice a bs.length c),(5,.int .i64 (k:Int))])
    (fun _=>A::F) 1 ⟨ag,ag,ag,ag⟩ rfl cm ah ?_
  rintro k⟨zY,yz,h1,h2⟩ ih
  refine go ?_
  refine aq zr zr ?_ ?_
  case' refine_2 =>
    intro fg
    have hn:mh bs=none:=by
      unfold mh
      split
      · obtain⟨_,h3⟩:=h1 ag
        rw[h3]
        simp only
        split
        · obtain⟨_,h4⟩:=h2 ag
          rw[h4];rfl
        · rfl
      · rfl
    rw[hn]at hE
    refine go ?_
    refine ad hE Tryz.func181 zr zr ⟨rfl,rfl⟩
  intro cW
  have Xx:k≤bs.length:=by omega
  refine go ?_
  refine bB (p:=0) (q:=(k:Int)) zr zr zr zr zr zr zr ag ag (.inr ag) ?_
  have hf:=hv.front k Xx
  refine aB 18 (.slice (sliceAt a c 0 1) k c) rfl (by rw[show(0:Int).toNat=0 from rfl,show((k:Int)).toNat=k from by omega];rfl) ?_
  ((refine aF (mF A _ (bs.take k) hf (by rw[List.length_take];omega)) ?_))
  cases hu:cZ (bs.take k)with
  | none =>
    rintro _ _⟨rfl,rfl⟩
    refine go ?_
    refine aM ih (k+1) rfl ⟨ag,ag,fun h=>by
      by_cases hk:k=1
      · subst hk;exact⟨ag,hu⟩
      · exact h1 ag,fun h=>by
      have hk:k=2:=by omega
      subst hk;exact⟨ag,hu⟩⟩ ag cm ah
  | some n =>
    rintro _ _⟨rfl,rfl⟩
    have aer:=oF hu (by rw[List.length_take];omega)
    have Ho:mh bs=some (k,n):=by
      unfold mh
      rw[if_pos ag]
      by_cases hk:k=1
      · subst hk;rw[hu]
      · have hk:k=2:=by omega
        subst hk
        obtain⟨_,h3⟩:=h1 ag
        rw[h3]
        simp only
        rw[if_pos ag,hu];rfl
    rw[Ho]at hE
    simp only at hE
    rw[show decide (n≤4096)=decide ((n:Int)≤4096)from decide_eq_decide.2 ⟨fun _=>by omega,fun _=>by omega⟩]at hE
    refine go ?_
    refine ad hE Tryz.func181 zr zr ⟨rfl,rfl⟩
def lD(b:List UInt8)(k last:Nat):Bool :=
 let h:=(b.drop (16*k)).take 16
 decide (last<oV h∧oV h≤1073741824∧oV h%2=k∧oV (h.drop 4)+32≤b.length∧h=cd (oV h) (oV (h.drop 4)))
def fk(b:List UInt8)(k:Nat)(s:Nat × Nat):Nat × Nat:=if lD b k s.1 then(oV ((b.drop (16*k)).take 16),oV (((b.drop (16*k)).take 16).drop 4))else s
def fm(b:List UInt8):List UInt8:=if b.length<32 then []else(b.drop 32).take (fk b 1 (fk b 0 (0,0))).2
def adL{b:List UInt8}(hk:16*k+16≤b.length):((b.drop (16*k)).take 16).length=16:=by rw[List.length_take,List.length_drop];omega
def LA(A:HP)(v:Value)(b:List UInt8)(hv:eM A v b)(hl:b.length≤9223372036854775807) :
  aE Tryz.prog 121 [v] [A] (fun r H=>eM A r (fm b)∧H=[A]):=by
 obtain⟨a,c,rfl,hc⟩:=hv.2
 refine aE.au Tryz.func121 Tryz.ntmps121 fun G F R hE=>?_
 repeat'(first|(with_reducible intro pH)|refine gO ?_|refine aq zr zr ?_ ?_)
 case' refine_1 =>
  have hn:fm b=[]:=by unfold fm;rw[if_pos ag]
  rw[hn]at hE
  refine ad hE Tryz.func121 zr zr ⟨⟨Eb A,none,0,rfl,Nat.le_refl _⟩,rfl⟩
 have abK:32≤b.length:=by omega
 refine bz (fun s:Nat × Nat × Nat=>s.1≤2∧(s.1=0→s.2=(0,0))∧(s.1=1→s.2=fk b 0 (0,0))∧(s.1=2→s.2=fk b 1 (fk b 0 (0,0)))∧s.2.2+32≤b.length∧s.2.1≤1073741824) (fun s=>2-s.1)
  (fun s=>[(0,.slice a b.length c),(3,.int .i64 (s.2.1:Int)),(4,.int .i64 (s.2.2:Int)),(12,.int .i64 (s.1:Int))])
  (fun _=>A::F) (0,0,0) ⟨ag,fun _=>rfl,ag,ag,by simp only;omega,by simp only;omega⟩ rfl cm ah ?_
 rintro⟨k,last,len⟩⟨hk,YQ,zY,yz,hlen,lf⟩ ih
 simp only at hk YQ zY yz hlen lf
 refine go ?_
 refine aq zr zr ?_ ?_
 case' refine_2 =>
  intro fg
  simp only at fg
  have h2:=yz ag
  have hf:fm b=(b.drop 32).take len:=by unfold fm;rw[if_neg ag,← h2]
  refine go ?_
  refine bB (p:=32) (q:=32+(len:Int)) zr zr zr zr zr zr zr ag ag (.inr ag) ?_
  have hp:=hv.piece 32 (32+len) ag ag
  rw[show 32+len-32=len from by omega,← hf]at hp
  refine aB 58 (.slice (sliceAt a c 32 1) len (c-32)) rfl (by rw[show(32:Int).toNat=32 from rfl,show(32+(len:Int)).toNat=32+len from by omega,show 32+len-32=len from by omega];rfl) ?_
  refine go ?_
  refine ad hE Tryz.func121 zr zr ⟨hp,rfl⟩
 intro cW
 simp only at cW
 have adt:16*k+16≤b.length:=by omega
 refine go ?_
 refine ib zr zr zr (by simp only[gn];omega) ?_
 refine aB 17 (.int .i64 ((16*k:Nat):Int)) rfl (congrArg (Value.int .i64) (by simp only;omega)) ?_
 refine bB (p:=((16*k:Nat):Int)) (q:=(b.length:Int)) zr zr zr zr zr zr zr ag ag (.inl rfl) ?_
 refine aB 18 (.slice (sliceAt a c (16*k) 1) (b.length-16*k) (c-16*k)) rfl (by rw[show(((16*k:Nat):Int)).toNat=16*k from by omega,show((b.length:Int)).toNat=b.length from by omega];rfl) ?_
 have hh1:=hv.cut (16*k) ag
 refine bB (p:=0) (q:=16) zr zr zr zr zr zr zr ag ag (.inr ag) ?_
 obtain⟨hd,hhd⟩:∃hd,hd=(b.drop (16*k)).take 16:=⟨_,rfl⟩
 have Gm:hd.length=16:=by rw[hhd];exact adL adt
 obtain⟨a1,ha1⟩:∃a1,a1=sliceAt (sliceAt a c (16*k) 1) (c-16*k) 0 1:=⟨_,rfl⟩
 have hh2:eM A (.slice a1 16 (c-16*k)) hd:=by
  rw[show b.length-16*k=(b.drop (16*k)).length from by rw[List.length_drop]]at hh1
  have:=hh1.front 16 (by rw[List.length_drop];omega)
  rw[ha1,hhd];exact this
 refine aB 19 (.slice a1 16 (c-16*k)) rfl (by rw[show(0:Int).toNat=0 from rfl,show(16:Int).toNat=16 from rfl,ha1];rfl) ?_
 refine go ?_
 refine aH (fun w=>Sat G w ([])) (.st 0 (.st 2 (.st 3 (.act 1 (.act 4 (.st 5 (.st 6 .nil))))))) rfl ak ak ak eo ?_
 refine go ?_
 refine bB (p:=4) (q:=16) zr zr zr zr zr zr zr ag ag (.inl rfl) ?_
 have hh3:=(show eM A (.slice a1 hd.length (c-16*k)) hd by rw[Gm];exact hh2).cut 4 ag
 rw[Gm]at hh3
 refine aB 23 (.slice (sliceAt a1 (c-16*k) 4 1) (16-4) (c-16*k-4)) rfl (by rw[show(4:Int).toNat=4 from rfl,show(16:Int).toNat=16 from rfl];rfl) ?_
 refine bC (Dm A _ hd hh2.1 ag) ?_
 ((refine dD (Dm A _ (hd.drop 4) hh3.1 (by rw[List.length_drop];omega)) ?_))
 rintro _ _⟨rfl,rfl⟩
 have hn:=Oq hd
 have hm:=Oq (hd.drop 4)
 have kQ:lD b k last=decide (last<oV hd∧oV hd≤1073741824∧oV hd%2=k∧oV (hd.drop 4)+32≤b.length∧hd=cd (oV hd) (oV (hd.drop 4))):=by unfold lD;rw[← hhd]
 have px:∀s':Nat × Nat,s'=fk b k (last,len)→s'.2+32≤b.length∧s'.1≤1073741824→(k+1≤2∧(k+1=0→s'=(0,0))∧(k+1=1→s'=fk b 0 (0,0))∧(k+1=2→s'=fk b 1 (fk b 0 (0,0)))∧s'.2+32≤b.length∧s'.1≤1073741824):=by
  intro s' h1 h2
  refine⟨ag,ag,fun h=>?_,fun h=>?_,h2⟩
  ·have:k=0:=by omega
   subst this;rw[h1,YQ rfl]
  ·have:k=1:=by omega
   subst this;rw[h1,zY rfl]
 have lO:lD b k last=false→(last,len)=fk b k (last,len):=fun h=>by unfold fk;rw[if_neg (by rw[h];simp)]
 have m9:lD b k last=true→(oV hd,oV (hd.drop 4))=fk b k (last,len):=fun h=>by unfold fk;rw[if_pos h,← hhd]
 repeat'(first|(with_reducible intro pH)|refine gO ?_|refine iy zr zr zr zr ?_ ?_|refine ou zr zr zr ag ag ?_)
 any_goals (
  have hf:lD b k last=false:=by rw[kQ];exact decide_eq_false (fun h=>by simp only at *;omega)
  refine aM ih (k+1,last,len) rfl (px _ (lO hf) ⟨hlen,lf⟩) (by simp only;omega) cm ah)
 refine aF (yE (oV hd) (oV (hd.drop 4)) ag ag) ?_
 rintro ry _ rfl
 refine iw 0 rfl ?_
 intro hvh
 refine aN 0 rfl ?_
 rintro xa xc rfl
 refine go ?_
 refine aO (Mw A (az 5 1 (.slice xa (cd (oV hd) (oV (hd.drop 4))).length xc) (cd (oV hd) (oV (hd.drop 4))).length (bV (cd (oV hd) (oV (hd.drop 4))))) (.slice a1 16 (c-16*k)) (.slice xa (cd (oV hd) (oV (hd.drop 4))).length xc) hd (cd (oV hd) (oV (hd.drop 4))) hh2.1 hvh) ?_
 repeat'(first|(with_reducible intro pH)|refine gO ?_|refine aq zr zr ?_ ?_)
 ·have hf:lD b k last=true:=by rw[kQ];exact decide_eq_true (by refine⟨?_,?_,?_,?_,‹_›⟩ <;> (simp only at *;omega))
  refine go ?_
  refine aM ih (k+1,oV hd,oV (hd.drop 4)) rfl (px _ (m9 hf) ⟨by simp only at *;omega,by simp only at *;omega⟩) (by simp only;omega) cm ah
 ·have hf:lD b k last=false:=by rw[kQ];exact decide_eq_false (fun h=>‹¬_› h.2.2.2.2)
  refine aM ih (k+1,last,len) rfl (px _ (lO hf) ⟨hlen,lf⟩) (by simp only;omega) cm ah
attribute [local irreducible] bW
def qT(h:mh bs=some (k,n)):1≤k∧k≤2∧k≤bs.length∧n<16384:=by
 unfold mh at h
 split at h
 ·rename_i h1
  split at h
  ·rename_i m hm
   cases h
   exact⟨ag,ag,h1,oF hm (by rw[List.length_take];omega)⟩
  ·split at h
   ·rename_i h2
    cases hu:cZ (bs.take 2)with
    | none=>rw[hu]at h;cases h
    | some m =>
     rw[hu]at h
     cases h
     exact⟨ag,ag,h2,oF hu (by rw[List.length_take];omega)⟩
   ·cases h
 ·cases h
def gg:Nat→List UInt8→List (List UInt8)
 | 0,_=>[]
 | f+1,bs=>match mh bs with
  | none=>[]
  | some (k,n)=>if n≤4096∧k+n≤bs.length then(bs.drop k).take n::gg f (bs.drop (k+n))else []
def rH:∀(f g:Nat) (bs:List UInt8),bs.length≤f→bs.length≤g→gg f bs=gg g bs
 | 0,0,_,_,_=>rfl
 | 0,g+1,bs,hf,_=>by
  have:bs=[]:=List.eq_nil_of_length_eq_zero ag
  subst this;rfl
 | f+1,0,bs,_,hg=>by
  have:bs=[]:=List.eq_nil_of_length_eq_zero ag
  subst this;rfl
 | f+1,g+1,bs,hf,hg=>by
  unfold gg
  split
  ·rfl
  ·rename_i k n hl
   have:=qT hl
   split
   ·rw[rH f g _ (by rw[List.length_drop];omega) (by rw[List.length_drop];omega)]
   ·rfl
def ck(bs:List UInt8):List (List UInt8):=gg bs.length bs
def rI(h:mh bs=none):ck bs=[]:=by
 unfold ck
 cases hl:bs.length with
 | zero=>rfl
 | succ f=>unfold gg;rw[h]
def tu(h:mh bs=some (k,n))(hb:¬(n≤4096∧k+n≤bs.length)):ck bs=[]:=by
 unfold ck
 cases hl:bs.length with
 | zero=>rfl
 | succ f=>unfold gg;rw[h];simp only;rw[if_neg hb]
def rJ(h:mh bs=some (k,n))(hb:n≤4096∧k+n≤bs.length):ck bs=(bs.drop k).take n::ck (bs.drop (k+n)):=by
 have h1:=qT h
 unfold ck
 obtain⟨f,hf⟩:∃f,bs.length=f+1:=⟨bs.length-1,ag⟩
 rw[hf]
 show gg (f+1) bs=_
 rw[gg,h]
 simp only
 rw[if_pos hb,rH f _ _ (by rw[List.length_drop];omega) (Nat.le_refl _)]
def DR(a:Option Addr)(n c:Nat):aE Tryz.prog 120 [.slice a n c] [] (fun r H=>∃b,r = .func (.func 180) #[] #[ptr b]∧H=[ae b (cl [.slice a n c] 39)]):=by
 refine aE.au Tryz.func120 Tryz.ntmps120 fun G F R hE=>?_
 refine go ?_
 refine bG zr zr bD ?_
 intro b
 refine go ?_
 refine ad hE Tryz.func120 zr zr ⟨b,rfl,rfl⟩
def BY(A:HP)(l bx:Nat)(v:Value)(bs:List UInt8)(hv:eM A v bs)(hl:bs.length≤1000000000)(Lp:HP)(Inv:Nat→HP)(hy:∀i x,(ck bs)[i]?=some x→∀r,bW Tryz.prog l [r] [Lp,Inv i,az 5 1 r x.length (bV x)] (fun v H=>v = .bool true∧H=[Lp,Inv (i+1)])) :
  aE Tryz.prog 180 [.func (.yield l) #[] #[],ptr bx] [Lp,ae bx (cl [v] 39),A,Inv 0] (fun _ H=>∃v',H=[Lp,ae bx (cl [v'] 39),A,Inv (ck bs).length]):=by
 refine aE.au Tryz.func180 Tryz.ntmps180 fun G F R hE=>?_
 refine go ?_
 refine bz (fun y:Value × List UInt8 × Nat=>eM A y.1 y.2.1∧y.2.1.length≤bs.length∧ck y.2.1=(ck bs).drop y.2.2∧y.2.2≤(ck bs).length) (fun y=>y.2.1.length)
  (fun _=>[(0,.func (.yield l) #[] #[]),(1,ptr bx)])
  (fun y=>[Lp,ae bx (cl [y.1] 39),A,Inv y.2.2]++F) (v,bs,0) ⟨hv,Nat.le_refl _,by simp,Nat.zero_le _⟩ rfl cm ah ?_
 rintro⟨v1,rest,i⟩⟨lz,zL,sR,YH⟩ ih
 simp only at lz zL sR YH
 have lg:ck rest=[]→i=(ck bs).length:=fun h=>by
  rw[sR]at h
  have:(ck bs).length≤i:=by simpa using h
  omega
 obtain⟨a,c,rfl,hc⟩:=lz.2
 refine go ?_
 refine aO (Om A _ rest lz ag) ?_
 cases AZ:mh rest with
 | none =>
  obtain rfl:=lg (rI AZ)
  refine go ?_
  refine ad hE Tryz.func180 zr zr ⟨_,rfl⟩
 | some kn =>
  obtain⟨k,n⟩:=kn
  have hp:=qT AZ
  by_cases hn:n≤4096
  case neg =>
   have gP:ck rest=[]:=tu AZ ag
   obtain rfl:=lg gP
   have hd:decide (n≤4096)=false:=decide_eq_false hn
   simp only[hd]
   refine go ?_
   refine ad hE Tryz.func180 zr zr ⟨_,rfl⟩
  have hd:decide (n≤4096)=true:=decide_eq_true hn
  simp only[hd]
  refine go ?_
  by_cases hk:(rest.length:Int)<(k:Int)+n
  case pos =>
   obtain rfl:=lg (tu AZ ag)
   have O':decide ((rest.length:Int)<(k:Int)+n)=true:=decide_eq_true hk
   simp only[O']
   refine go ?_
   refine ad hE Tryz.func180 zr zr ⟨_,rfl⟩
  have O':decide ((rest.length:Int)<(k:Int)+n)=false:=decide_eq_false hk
  simp only[O']
  have yH:=rJ AZ ⟨hn,ag⟩
  obtain⟨x,hx⟩:∃x,x=(rest.drop k).take n:=⟨_,rfl⟩
  have MM:x.length=n:=by rw[hx,List.length_take,List.length_drop];omega
  rw[← hx]at yH
  have EJ:(ck bs)[i]?=some x:=by
   have:=congrArg (fun l=>l[0]?) sR
   simp only[List.getElem?_drop,yH]at this
   simpa using this.symm
  have rO:ck (rest.drop (k+n))=(ck bs).drop (i+1):=by
   have:=congrArg (fun l=>l.drop 1) sR
   simp only[yH,List.drop_drop]at this
   simpa using this
  have Gk:i+1≤(ck bs).length:=by
   have:=(List.getElem?_eq_some_iff.1 EJ).1
   omega
  have sT:=lz.piece k (k+n) ag ag
  rw[show k+n-k=n from by omega,← hx]at sT
  refine go ?_
  refine bB (p:=(k:Int)) (q:=((k+n:Nat):Int)) zr zr zr zr zr zr zr ag ag (.inr ag) ?_
  refine aB 29 (.slice (sliceAt a c k 1) n (c-k)) rfl (by rw[show((k:Int)).toNat=k from by omega,show(((k+n:Nat):Int)).toNat=k+n from by omega,show k+n-k=n from by omega];rfl) ?_
  refine go ?_
  refine aF (ll A _ x sT.1 ag) ?_
  rintro r _ rfl
  refine go ?_
  refine kT zr zr zr (hy i x EJ r) ah ?_ mO
  rintro _ _⟨rfl,rfl⟩
  refine go ?_
  refine bB (p:=((k+n:Nat):Int)) (q:=(rest.length:Int)) zr zr zr zr zr zr zr ag ag (.inl rfl) ?_
  have lN:=lz.cut (k+n) ag
  refine aB 38 (.slice (sliceAt a c (k+n) 1) (rest.length-(k+n)) (c-(k+n))) rfl (by rw[show(((k+n:Nat):Int)).toNat=k+n from by omega,show((rest.length:Int)).toNat=rest.length from by omega];rfl) ?_
  refine go ?_
  refine aM ih (.slice (sliceAt a c (k+n) 1) (rest.length-(k+n)) (c-(k+n)),rest.drop (k+n),i+1) rfl (⟨lN,by simp only[List.length_drop];omega,rO,Gk⟩) (by simp only[List.length_drop];omega) cm ah
end Go.Proofs.YtdigdgohdpeebaaGreatDoor
namespace Go.Proofs.YtdigdgohdpeebaaGreatDoor
open Go Go.SL
def Nm{e:TypeId}{sz n c:Nat}{a:Option Addr}{cs:List Value}(H:List HP):ao (az e sz (.slice a n c) n cs::H) (az e sz (.slice (sliceAt a c 0 sz) 0 c) 0 []::H) :=
 ao.fold (A:=az e sz (.slice (sliceAt a c 0 sz) 0 c) 0 []) (B:=[az e sz (.slice a n c) n cs]) fun h hs=>by
  refine⟨h,sub.refl h,?_⟩
  obtain⟨hl,⟨a',he,hn,hem⟩|⟨b,o,cap,pre,bR,he,hp,hn,hc,wM⟩⟩:=eU hs
  ·simp only[Value.slice.injEq]at he
   obtain⟨rfl,rfl,rfl⟩:=he
   exact⟨by simp,.inl ⟨_,rfl,rfl,hem⟩⟩
  ·simp only[Value.slice.injEq]at he
   obtain⟨rfl,-,rfl⟩:=he
   refine⟨by simp,.inr ⟨b,o,c,pre,cs++bR,?_,hp,Nat.zero_le _,by rw[List.length_append];simpa using hc,by simpa using wM⟩⟩
   unfold sliceAt
   split
   ·rfl
   ·simp[Addr.add]
attribute [local irreducible] J K aE Ends ae az aQ bP bj aT aU bp bW
def xH(ls:List (List UInt8))(i:Nat):((ls.take i).flatten).length≤ls.flatten.length:=by
 conv=>rhs;rw[← List.take_append_drop i ls,List.flatten_append,List.length_append]
 omega
def Ql(n:Nat)(hn:n≤1000000000):aE Tryz.prog 212 [.slice none 0 0,.int .i64 (n:Int)] [] (fun r H=>H=[az 5 1 r 0 []]):=by
 refine aE.au Tryz.func212 Tryz.ntmps212 fun G F R hE=>?_
 (repeat(first|refine gO ?_|refine TD (U:=aS) zr zr zr zr ?_))
 refine bu 1 ((.int .i64 (n:Int))) rfl ((congrArg (Value.int .i64) ag)) ?_
 refine aq zr zr ?_ ?_
 ·intro lA
  have hp:0<n:=by omega
  (repeat(first|refine gO ?_|refine TD (U:=aS) zr zr zr zr ?_))
  refine bB (p:=0) (q:=0) zr zr zr zr zr zr zr ag ag (.inr ag) ?_
  refine aB 20 (.slice none 0 0) zr zr ?_
  refine aI (bO 5 1 none _) ?_
  refine iw 0 rfl ?_
  intro lq
  refine go ?_
  refine Mu (U:=aS) (mm:=n) (cs:=[]) 0 zr zr zr zr zr zr zr zr zr zr zr zr lq rfl ag hp ag (by show _*1≤_;omega) (by show _*1≤_;omega) bD ?_
  intro v'
  refine aN 0 rfl ?_
  rintro a' c' rfl
  refine go ?_
  refine bB (p:=0) (q:=0) zr zr zr zr zr zr zr ag ag (.inr ag) ?_
  refine aB 25 (.slice (sliceAt a' c' 0 1) 0 c') zr zr ?_
  refine aI (Nm _) (go ?_)
  refine aL hE Tryz.func212 rfl _ zr zr ah
 ·intro hz
  have SM:n=0:=by omega
  subst SM
  refine go ?_
  refine ai (bO 5 1 none _) ?_
  refine aL hE Tryz.func212 rfl _ zr zr ah
def Iz(A:HP)(v:Value)(ls:List (List UInt8))(hv:qv A v ls)(hl:ls.flatten.length≤1000000000)(hn:ls.length≤1000000000):aE Tryz.prog 184 [v] [A] (fun r H=>H=[az 5 1 r ls.flatten.length (bV ls.flatten),A]):=by
 obtain⟨cs,dM,lH,⟨a,c,rfl,hc⟩,py⟩:=hv
 refine aE.au Tryz.func184 Tryz.ntmps184 fun G F R hE=>?_
 refine go ?_
 refine bz (fun i:Nat=>i≤ls.length) (fun i=>ls.length-i)
  (fun i=>[(0,.slice a ls.length c),(9,.slice a ls.length c),(10,.int .i64 (ls.length:Int)),(11,.int .i64 (i:Int)),(3,.int .i64 (((ls.take i).flatten.length:Nat):Int))])
  (fun _=>A::F) 0 (Nat.zero_le _) rfl cm ah ?_
 rintro i hi ih
 refine go ?_
 refine aq zr zr ?_ ?_
 ·intro cW
  have lB:i<ls.length:=by omega
  obtain⟨x,hx⟩:∃x,ls[i]?=some x:=⟨ls[i],List.getElem?_eq_getElem lB⟩
  obtain⟨cv,oC,hb⟩:=py i x hx
  obtain⟨b0,o0,c0,qZ⟩:=dM.some (by intro h;rw[h]at oC;simp at oC)
  simp only[Value.slice.injEq]at qZ
  obtain⟨rfl,-,rfl⟩:=qZ
  refine go ?_
  refine bI i zr zr zr zr zr zr zr zr lB ?_
  obtain⟨ax,cx,rfl,Tj⟩:=hb.2
  have oZ:(ls.take (i+1)).flatten.length=(ls.take i).flatten.length+x.length:=by rw[List.take_add_one,hx];simp
  have hle:=xH ls (i+1)
  refine aX 0 i zr zr zr dM rfl oC zr zr (go ?_)
  refine bu 3 ((.int .i64 (((ls.take (i+1)).flatten.length:Nat):Int))) rfl ((congrArg (Value.int .i64) ag)) ?_
  refine aM ih (i+1) rfl ag ag cm ah
 intro fg
 have gh:i=ls.length:=by omega
 subst gh
 rw[List.take_length]
 ((refine go ?_;(refine aF (Ql ls.flatten.length hl) ?_)))
 rintro gv _ rfl
 refine aN 0 rfl ?_
 rintro ga gc rfl
 refine go ?_
 refine bz (fun i:Value × Nat=>i.2≤ls.length) (fun i=>ls.length-i.2)
  (fun i=>[(0,.slice a ls.length c),(25,.slice a ls.length c),(26,.int .i64 (ls.length:Int)),(27,.int .i64 (i.2:Int)),(6,i.1)])
  (fun i=>az 5 1 i.1 (ls.take i.2).flatten.length (bV (ls.take i.2).flatten)::A::F) (.slice ga 0 gc,0) (Nat.zero_le _) rfl cm ah ?_
 rintro⟨v,i⟩ hi ih
 simp only at hi
 refine go ?_
 refine aq zr zr ?_ ?_
 ·intro cW
  simp only at cW
  have lB:i<ls.length:=by omega
  obtain⟨x,hx⟩:∃x,ls[i]?=some x:=⟨ls[i],List.getElem?_eq_getElem lB⟩
  obtain⟨cv,oC,hb⟩:=py i x hx
  obtain⟨b0,o0,c0,qZ⟩:=dM.some (by intro h;rw[h]at oC;simp at oC)
  simp only[Value.slice.injEq]at qZ
  obtain⟨rfl,-,rfl⟩:=qZ
  refine go ?_
  refine bI i zr zr zr zr zr zr zr zr lB ?_
  obtain⟨ax,cx,rfl,Tj⟩:=hb.2
  have oZ:(ls.take (i+1)).flatten=(ls.take i).flatten++x:=by rw[List.take_add_one,hx];simp
  have fO:(ls.take (i+1)).flatten.length=(ls.take i).flatten.length+x.length:=by rw[oZ,List.length_append]
  have hle:=xH ls (i+1)
  refine aX 1 i zr zr zr dM rfl oC zr zr ?_
  refine aN 0 rfl ?_
  intro av cv oY
  simp only at oY
  subst oY
  refine go ?_
  refine aR (mm:=x.length) (news:=bV x) 0 1 zr zr zr zr zr zr zr zr zr zr zr zr hb.1 (by show _=_*1;rw[bt];omega) (cO _) (by simp only;omega) (by show(_+_)*1≤_;simp only;omega) (fun _=>rfl) bD ?_
  intro v1
  simp only
  rw[show bV (ls.take i).flatten++bV x=bV (ls.take (i+1)).flatten from by rw[oZ];simp[bV],← fO]
  refine go ?_
  refine aM ih (v1,i+1) rfl (by simp only;omega) (by simp only;omega) cm ah
 intro fg
 simp only at fg
 have gh:i=ls.length:=by omega
 subst gh
 rw[List.take_length]
 refine dg 0 rfl ?_
 intro av cv oY
 simp only at oY
 subst oY
 refine go ?_
 refine aL hE Tryz.func184 rfl _ zr zr ah
def JP{σ:Type}(I:σ→HP)(V:HP)(v:Value)(lu:List Value)(hv:Vw V v lu.length lu)(hn:lu.length≤1000000000)(ss:List (σ→Nat→σ→Prop))(hlen:ss.length=lu.length)(Q:Nat→σ→Prop)(cL:∀(i:Nat) (fv:Value) (s:σ→Nat→σ→Prop),lu[i]?=some fv→ss[i]?=some s→∃g fi cap,fv = .func (.func g) fi cap∧∀x,Q i x→aE Tryz.prog g (fi.toList++cap.toList) [I x] (fun r H=>∃(e:Nat) (x':σ),r = .int .i64 (e:Int)∧H=[I x']∧s x e x'∧(e=0→Q (i+1) x')))(x0:σ)(hQ:Q 0 x0) :
  aE Tryz.prog 138 [v] [V,I x0] (fun r H=>∃(e:Nat) (x':σ),r = .int .i64 (e:Int)∧H=[V,I x']∧iA ss x0 e x'):=by
 obtain⟨a,c,rfl⟩:=hv.shape
 refine aE.au Tryz.func138 Tryz.ntmps138 fun G F R hE=>?_
 refine go ?_
 refine bz (fun y:Nat × σ=>y.1≤lu.length∧Q y.1 y.2∧∀e x',iA (ss.drop y.1) y.2 e x'→iA ss x0 e x') (fun y=>lu.length-y.1)
  (fun y=>[(0,.slice a lu.length c),(6,.slice a lu.length c),(7,.int .i64 (lu.length:Int)),(8,.int .i64 (y.1:Int))])
  (fun y=>V::I y.2::F) (0,x0) ⟨Nat.zero_le _,hQ,fun _ _ h=>h⟩ rfl cm ah ?_
 rintro⟨i,x⟩⟨hi,hq,hr⟩ ih
 simp only at hi hq hr
 refine go ?_
 refine aq zr zr ?_ ?_
 ·intro cW
  simp only at cW
  have lB:i<lu.length:=by omega
  obtain⟨fv,mX⟩:∃fv,lu[i]?=some fv:=⟨lu[i],List.getElem?_eq_getElem lB⟩
  obtain⟨s,hs⟩:∃s,ss[i]?=some s:=⟨ss[i],List.getElem?_eq_getElem ag⟩
  obtain⟨g,fi,cap,rfl,hc⟩:=cL i fv s mX hs
  have mo:ss.drop i=s::ss.drop (i+1):=by
   rw[List.drop_eq_getElem_cons ag]
   congr 1
   have:=List.getElem?_eq_some_iff.1 hs
   exact this.2
  obtain⟨b0,o0,c0,qZ⟩:=hv.some (by intro h;rw[h]at lB;simp at lB)
  simp only[Value.slice.injEq]at qZ
  obtain⟨rfl,-,rfl⟩:=qZ
  refine go ?_
  refine bI i zr zr zr zr zr zr zr zr lB ?_
  refine aX 0 i zr zr zr hv rfl mX zr zr (go ?_)
  refine uz zr zr zr (by simp) (hc x hq) ah ?_ mO
  rintro _ _⟨e,x',rfl,rfl,K8,QA⟩
  refine go ?_
  refine aq zr zr ?_ ?_
  ·intro bZ
   have he:e≠0:=by omega
   refine go ?_
   ((refine ad hE Tryz.func138 zr zr ⟨e,x',rfl,rfl,hr e x' (by rw[mo];exact⟨e,x',K8,.inl ⟨he,rfl,rfl⟩⟩)⟩))
  ·intro heq
   have he:e=0:=by omega
   refine go ?_
   refine aM ih (i+1,x') rfl (⟨by simp only;omega,QA he,fun e2 x2 h2=>hr e2 x2 (by rw[mo];exact⟨e,x',K8,.inr ⟨he,h2⟩⟩)⟩) (by simp only;omega) cm ah
 ·intro fg
  simp only at fg
  have gh:i=lu.length:=by omega
  subst gh
  refine go ?_
  ((refine ad hE Tryz.func138 zr zr ⟨0,x,rfl,rfl,hr 0 x (by rw[List.drop_eq_nil_of_le ag];exact⟨rfl,rfl⟩)⟩))
attribute [local irreducible] aD
def NX(bd jb xj xf xw xb:Nat)(name fresh:ByteArray)(wa ba:Option Addr)(wc bl bc:Nat)(whole:List UInt8)(br:Bool)(A:Ab)(n s c:Int)(cL:A.aw.length≤1000000000) :
  aE Tryz.prog 185 [ptr xj,ptr xf] ([aD bd A,ae jb (cl [ptr bd,.string name,.int .i64 n,.int .i64 s,.int .i64 c,.bool br] 175),ae xj (cl [ptr jb] 70),ae xf (cl [.string fresh] 9),ae xw (cl [.slice wa whole.length wc] 39),ae xb (cl [.slice ba bl bc] 39),az 5 1 (.slice wa whole.length wc) whole.length (bV whole)]) (fun r H=>∃(e:Nat) (A1:Ab),e=(A.remove (isName fresh) fresh).1∧A1=(A.remove (isName fresh) fresh).2∧r = .int .i64 (e:Int)∧H=[aD bd A1,ae jb (cl [ptr bd,.string name,.int .i64 n,.int .i64 s,.int .i64 c,.bool br] 175),ae xj (cl [ptr jb] 70),ae xf (cl [.string fresh] 9),ae xw (cl [.slice wa whole.length wc] 39),ae xb (cl [.slice ba bl bc] 39),az 5 1 (.slice wa whole.length wc) whole.length (bV whole)]):=by
 refine aE.au Tryz.func185 Tryz.ntmps185 fun G F R hE=>?_
 refine go ?_
 refine aH (fun w=>Sat G w ([ae jb (cl [ptr bd,.string name,.int .i64 n,.int .i64 s,.int .i64 c,.bool br] 175),ae xj (cl [ptr jb] 70),ae xf (cl [.string fresh] 9),ae xw (cl [.slice wa whole.length wc] 39),az 5 1 (.slice wa whole.length wc) whole.length (bV whole)])) (df 0 5 (.act 5 (.st 6 .nil))) rfl ak ak ak eo ?_
 refine go ?_
 refine bC (vt bd A fresh cL) ?_
 refine go ?_
 refine ad hE Tryz.func185 zr zr ⟨_,_,rfl,rfl,rfl,rfl⟩
def NV(bd jb xj xf xw xb:Nat)(name fresh:ByteArray)(wa ba:Option Addr)(wc bl bc:Nat)(whole:List UInt8)(br:Bool)(A:Ab)(n s c:Int)(cL:A.aw.length≤1000000000) :
  aE Tryz.prog 186 [ptr xj,ptr xf] ([aD bd A,ae jb (cl [ptr bd,.string name,.int .i64 n,.int .i64 s,.int .i64 c,.bool br] 175),ae xj (cl [ptr jb] 70),ae xf (cl [.string fresh] 9),ae xw (cl [.slice wa whole.length wc] 39),ae xb (cl [.slice ba bl bc] 39),az 5 1 (.slice wa whole.length wc) whole.length (bV whole)]) (fun r H=>∃(e:Nat) (A1:Ab),(∃f,f ∉ A.fs.map (·.1)∧e=(A.create (isName fresh) fresh f).1∧A1=(A.create (isName fresh) fresh f).2)∧r = .int .i64 (e:Int)∧H=[aD bd A1,ae jb (cl [ptr bd,.string name,.int .i64 n,.int .i64 s,.int .i64 c,.bool br] 175),ae xj (cl [ptr jb] 70),ae xf (cl [.string fresh] 9),ae xw (cl [.slice wa whole.length wc] 39),ae xb (cl [.slice ba bl bc] 39),az 5 1 (.slice wa whole.length wc) whole.length (bV whole)]):=by
 refine aE.au Tryz.func186 Tryz.ntmps186 fun G F R hE=>?_
 refine go ?_
 refine aH (fun w=>Sat G w ([ae jb (cl [ptr bd,.string name,.int .i64 n,.int .i64 s,.int .i64 c,.bool br] 175),ae xj (cl [ptr jb] 70),ae xf (cl [.string fresh] 9),ae xw (cl [.slice wa whole.length wc] 39),az 5 1 (.slice wa whole.length wc) whole.length (bV whole)])) (df 0 5 (.act 5 (.st 6 .nil))) rfl ak ak ak eo ?_
 refine go ?_
 refine dD (vx bd A fresh cL) ?_
 rintro _ _⟨f,hf,rfl,rfl⟩
 refine go ?_
 refine ad hE Tryz.func186 zr zr ⟨_,_,⟨f,hf,rfl,rfl⟩,rfl,rfl⟩
def NT(bd jb xj xf xw xb:Nat)(name fresh:ByteArray)(wa ba:Option Addr)(wc bl bc:Nat)(whole:List UInt8)(br:Bool)(A:Ab)(n s c:Int)(eQ:A.writes.length≤1000000000)(jO:whole.length≤1000000000) :
  aE Tryz.prog 187 [ptr xj,ptr xf,ptr xw] ([aD bd A,ae jb (cl [ptr bd,.string name,.int .i64 n,.int .i64 s,.int .i64 c,.bool br] 175),ae xj (cl [ptr jb] 70),ae xf (cl [.string fresh] 9),ae xw (cl [.slice wa whole.length wc] 39),ae xb (cl [.slice ba bl bc] 39),az 5 1 (.slice wa whole.length wc) whole.length (bV whole)]) (fun r H=>∃(e:Nat) (A1:Ab),e=(A.write (fX fresh 0 whole) fresh 0 whole).1∧A1=(A.write (fX fresh 0 whole) fresh 0 whole).2∧r = .int .i64 (e:Int)∧H=[aD bd A1,ae jb (cl [ptr bd,.string name,.int .i64 n,.int .i64 s,.int .i64 c,.bool br] 175),ae xj (cl [ptr jb] 70),ae xf (cl [.string fresh] 9),ae xw (cl [.slice wa whole.length wc] 39),ae xb (cl [.slice ba bl bc] 39),az 5 1 (.slice wa whole.length wc) whole.length (bV whole)]):=by
 refine aE.au Tryz.func187 Tryz.ntmps187 fun G F R hE=>?_
 refine go ?_
 refine aH (fun w=>Sat G w ([ae jb (cl [ptr bd,.string name,.int .i64 n,.int .i64 s,.int .i64 c,.bool br] 175),ae xj (cl [ptr jb] 70),ae xf (cl [.string fresh] 9),ae xw (cl [.slice wa whole.length wc] 39),az 5 1 (.slice wa whole.length wc) whole.length (bV whole)])) (df 0 6 (.act 6 (.st 7 .nil))) rfl ak ak ak eo ?_
 refine go ?_
 refine iw 6 rfl ?_
 intro dM
 refine go ?_
 refine aK ?_
 refine lZ 3 zr zr zr zr zr zr (go ?_)
 refine bC (ug bd A fresh 0 _ _ whole dM eQ jO ag) ?_
 refine go ?_
 refine ad hE Tryz.func187 zr zr ⟨_,_,rfl,rfl,rfl,rfl⟩
def NR(bd jb xj xf xw xb:Nat)(name fresh:ByteArray)(wa ba:Option Addr)(wc bl bc:Nat)(whole:List UInt8)(br:Bool)(A:Ab)(n s c:Int)(eQ:A.writes.length≤1000000000) :
  aE Tryz.prog 188 [ptr xj,ptr xf] ([aD bd A,ae jb (cl [ptr bd,.string name,.int .i64 n,.int .i64 s,.int .i64 c,.bool br] 175),ae xj (cl [ptr jb] 70),ae xf (cl [.string fresh] 9),ae xw (cl [.slice wa whole.length wc] 39),ae xb (cl [.slice ba bl bc] 39),az 5 1 (.slice wa whole.length wc) whole.length (bV whole)]) (fun r H=>∃(e:Nat) (A1:Ab),e=(A.sync (isName fresh) fresh).1∧A1=(A.sync (isName fresh) fresh).2∧r = .int .i64 (e:Int)∧H=[aD bd A1,ae jb (cl [ptr bd,.string name,.int .i64 n,.int .i64 s,.int .i64 c,.bool br] 175),ae xj (cl [ptr jb] 70),ae xf (cl [.string fresh] 9),ae xw (cl [.slice wa whole.length wc] 39),ae xb (cl [.slice ba bl bc] 39),az 5 1 (.slice wa whole.length wc) whole.length (bV whole)]):=by
 refine aE.au Tryz.func188 Tryz.ntmps188 fun G F R hE=>?_
 refine go ?_
 refine aH (fun w=>Sat G w ([ae jb (cl [ptr bd,.string name,.int .i64 n,.int .i64 s,.int .i64 c,.bool br] 175),ae xj (cl [ptr jb] 70),ae xf (cl [.string fresh] 9),ae xw (cl [.slice wa whole.length wc] 39),az 5 1 (.slice wa whole.length wc) whole.length (bV whole)])) (df 0 5 (.act 5 (.st 6 .nil))) rfl ak ak ak eo ?_
 refine go ?_
 refine bC (uh bd A fresh eQ) ?_
 refine go ?_
 refine ad hE Tryz.func188 zr zr ⟨_,_,rfl,rfl,rfl,rfl⟩
def NP(bd jb xj xf xw xb:Nat)(name fresh:ByteArray)(wa ba:Option Addr)(wc bl bc:Nat)(whole:List UInt8)(br:Bool)(A:Ab)(n s c:Int)(cL:A.aw.length≤1000000000) :
  aE Tryz.prog 189 [ptr xj,ptr xf] ([aD bd A,ae jb (cl [ptr bd,.string name,.int .i64 n,.int .i64 s,.int .i64 c,.bool br] 175),ae xj (cl [ptr jb] 70),ae xf (cl [.string fresh] 9),ae xw (cl [.slice wa whole.length wc] 39),ae xb (cl [.slice ba bl bc] 39),az 5 1 (.slice wa whole.length wc) whole.length (bV whole)]) (fun r H=>∃(e:Nat) (A1:Ab),e=(A.rename ([fresh,name].all isName) fresh name).1∧A1=(A.rename ([fresh,name].all isName) fresh name).2∧r = .int .i64 (e:Int)∧H=[aD bd A1,ae jb (cl [ptr bd,.string name,.int .i64 n,.int .i64 s,.int .i64 c,.bool br] 175),ae xj (cl [ptr jb] 70),ae xf (cl [.string fresh] 9),ae xw (cl [.slice wa whole.length wc] 39),ae xb (cl [.slice ba bl bc] 39),az 5 1 (.slice wa whole.length wc) whole.length (bV whole)]):=by
 refine aE.au Tryz.func189 Tryz.ntmps189 fun G F R hE=>?_
 refine go ?_
 refine aH (fun w=>Sat G w ([ae jb (cl [ptr bd,.string name,.int .i64 n,.int .i64 s,.int .i64 c,.bool br] 175),ae xj (cl [ptr jb] 70),ae xf (cl [.string fresh] 9),ae xw (cl [.slice wa whole.length wc] 39),az 5 1 (.slice wa whole.length wc) whole.length (bV whole)])) (df 0 9 (.act 9 (.st 10 .nil))) rfl ak ak ak eo ?_
 refine go ?_
 refine bC (Bu bd A fresh name cL) ?_
 refine go ?_
 refine ad hE Tryz.func189 zr zr ⟨_,_,rfl,rfl,rfl,rfl⟩
def NN(bd jb xj xf xw xb:Nat)(name fresh:ByteArray)(wa ba:Option Addr)(wc bl bc:Nat)(whole:List UInt8)(br:Bool)(A:Ab)(n s c:Int) :
  aE Tryz.prog 190 [ptr xb,ptr xj] ([aD bd A,ae jb (cl [ptr bd,.string name,.int .i64 n,.int .i64 s,.int .i64 c,.bool br] 175),ae xj (cl [ptr jb] 70),ae xf (cl [.string fresh] 9),ae xw (cl [.slice wa whole.length wc] 39),ae xb (cl [.slice ba bl bc] 39),az 5 1 (.slice wa whole.length wc) whole.length (bV whole)]) (fun r H=>r = .int .i64 0∧H=[aD bd A,ae jb (cl [ptr bd,.string name,.int .i64 1,.int .i64 (bl:Int),.int .i64 (bl:Int),.bool br] 175),ae xj (cl [ptr jb] 70),ae xf (cl [.string fresh] 9),ae xw (cl [.slice wa whole.length wc] 39),ae xb (cl [.slice ba bl bc] 39),az 5 1 (.slice wa whole.length wc) whole.length (bV whole)]):=by
 refine aE.au Tryz.func190 Tryz.ntmps190 fun G F R hE=>?_
 refine go ?_
 refine aH (fun w=>Sat G w ([ae xj (cl [ptr jb] 70),ae xb (cl [.slice ba bl bc] 39)])) (df 0 9 (.act 9 (.st 10 (.st 11 (.act 12 (.st 13 (.st 14 (.act 15 .nil)))))))) rfl ak ak ak eo ?_
 refine go ?_
 refine aV ?_
 refine cp 1 (fun w hw=>by exact hw.cN ah) zr zr zr zr zr zr zr zr zr ?_
 refine go ?_
 refine aV ?_
 refine cp 1 (fun w hw=>by exact hw.cN ah) zr zr zr zr zr zr zr zr zr ?_
 refine go ?_
 refine ad hE Tryz.func190 zr zr ⟨rfl,rfl⟩
end Go.Proofs.YtdigdgohdpeebaaGreatDoor
namespace Go.Proofs.YtdigdgohdpeebaaGreatDoor
open Go Go.SL
abbrev PS:=Ab × Int × Int × Int
def SE(g:Ab→Nat→Ab→Prop)(x:PS)(e:Nat)(y:PS):Prop:=g x.1 e y.1∧y.2=x.2
def BS(fresh:ByteArray):=SE fun A e B=>e=(A.remove (isName fresh) fresh).1∧B=(A.remove (isName fresh) fresh).2
def BT(fresh:ByteArray):=SE fun A e B=>∃f,f ∉ A.fs.map (·.1)∧e=(A.create (isName fresh) fresh f).1∧B=(A.create (isName fresh) fresh f).2
def GL(fresh:ByteArray)(whole:List UInt8):=SE fun A e B=>e=(A.write (fX fresh 0 whole) fresh 0 whole).1∧B=(A.write (fX fresh 0 whole) fresh 0 whole).2
def Nu(fresh:ByteArray):=SE fun A e B=>e=(A.sync (isName fresh) fresh).1∧B=(A.sync (isName fresh) fresh).2
def BR(fresh name:ByteArray):=SE fun A e B=>e=(A.rename ([fresh,name].all isName) fresh name).1∧B=(A.rename ([fresh,name].all isName) fresh name).2
def GM:=SE fun A e B=>e=A.ct.1∧B=A.ct.2
def WH(bl:Nat)(x:PS)(e:Nat)(y:PS):Prop:=e=0∧y=(x.1,1,(bl:Int),(bl:Int))
def bM(name:ByteArray):ByteArray:=name++⟨#[46,110,101,119]⟩
def cf(ls:List (List UInt8)):List UInt8:=List.replicate 16 0++cd 1 (ls.flatMap aZ).length++ls.flatMap aZ
def gF(name:ByteArray)(ls:List (List UInt8))(A:Ab):List (PS→Nat→PS→Prop) :=
 (if(A.size (bM name)).2=0 then [BS (bM name)]else []) ++
 [BT (bM name),GL (bM name) (cf ls),Nu (bM name),BR (bM name) name,GM,WH (ls.flatMap aZ).length]
def Ag(name:ByteArray)(ls:List (List UInt8))(x:PS)(e:Nat)(y:PS):Prop:=iA (gF name ls x.1) x e y
attribute [local irreducible] J K aE Ends ae az aQ bP bj aT aU bp bW aD
def _root_.Go.SL.ao.l5(l:List HP):ao [Sep l] l:=by have:=ao.cJ l [];rwa[List.append_nil]at this
def _root_.Go.SL.ao.me(l:List HP):ao l [Sep l]:=by have:=ao.bS l [];rwa[List.append_nil]at this
def PI(bd jb xj xf xw xb:Nat)(name fresh:ByteArray)(wa ba:Option Addr)(wc bl bc:Nat)(whole:List UInt8)(br:Bool)(x:PS):HP:=Sep [aD bd x.1,ae jb (cl [ptr bd,.string name,.int .i64 x.2.1,.int .i64 x.2.2.1,.int .i64 x.2.2.2,.bool br] 175),ae xj (cl [ptr jb] 70),ae xf (cl [.string fresh] 9),ae xw (cl [.slice wa whole.length wc] 39),ae xb (cl [.slice ba bl bc] 39),az 5 1 (.slice wa whole.length wc) whole.length (bV whole)]
def PQ(i:Nat)(x:PS):Prop:=x.1.aw.length≤900000000+i∧x.1.writes.length≤900000000+i
def PQ.next{i:Nat}{x:PS}(h:PQ i x){B:Ab}(g:j5 x.1 B):PQ (i+1) (B,x.2):=by
 obtain⟨h1,h2⟩:=h
 obtain⟨g1,g2⟩:=g
 exact⟨by simp only;omega,by simp only;omega⟩
end Go.Proofs.YtdigdgohdpeebaaGreatDoor
namespace Go.Proofs.YtdigdgohdpeebaaGreatDoor
open Go Go.SL
def LL{P:Program}{f:FuncId}{args:List Value}{Pre:List HP}{Post:Value→List HP→Prop}(X:List HP)(c:aE P f args Pre Post):aE P f args (Pre++X) (fun v H=>∃H',Post v H'∧H=H'++X) :=
 ⟨c.1,fun G w F hw=>(c.2 G w (X++F) (by rw[List.append_assoc]at hw;exact hw)).mono fun e w' h'=>let ⟨v,H,he,Rv,hs⟩:=h';⟨v,H++X,he,⟨H,Rv,rfl⟩,by rw[List.append_assoc];exact hs⟩⟩
attribute [local irreducible] J K aE Ends ae az aQ bP bj aT aU bp bW aD
def WM(bd jb xj xf xw xb:Nat)(name fresh:ByteArray)(wa ba:Option Addr)(wc bl bc:Nat)(whole:List UInt8)(br:Bool)(i:Nat)(hi:i≤10)(x:PS)(hq:PQ i x) :
  aE Tryz.prog 185 [ptr xj,ptr xf] [PI bd jb xj xf xw xb name fresh wa ba wc bl bc whole br x] (fun r H=>∃(e:Nat) (x':PS),r = .int .i64 (e:Int)∧H=[PI bd jb xj xf xw xb name fresh wa ba wc bl bc whole br x']∧BS fresh x e x'∧(e=0→PQ (i+1) x')) :=
 (NX bd jb xj xf xw xb name fresh wa ba wc bl bc whole br x.1 x.2.1 x.2.2.1 x.2.2.2 (by have:=hq.1;omega)).conv (ao.l5 _) (by
  rintro v H⟨e,A1,he,sF,rfl,rfl⟩
  exact⟨_,⟨_,(A1,x.2),rfl,rfl,⟨⟨he,sF⟩,rfl⟩,fun _=>hq.next (sF ▸ ql _ _ _)⟩,ao.me _⟩)
def NW(bd jb xj xf xw xb:Nat)(name fresh:ByteArray)(wa ba:Option Addr)(wc bl bc:Nat)(whole:List UInt8)(br:Bool)(i:Nat)(hi:i≤10)(x:PS)(hq:PQ i x) :
  aE Tryz.prog 186 [ptr xj,ptr xf] [PI bd jb xj xf xw xb name fresh wa ba wc bl bc whole br x] (fun r H=>∃(e:Nat) (x':PS),r = .int .i64 (e:Int)∧H=[PI bd jb xj xf xw xb name fresh wa ba wc bl bc whole br x']∧BT fresh x e x'∧(e=0→PQ (i+1) x')) :=
 (NV bd jb xj xf xw xb name fresh wa ba wc bl bc whole br x.1 x.2.1 x.2.2.1 x.2.2.2 (by have:=hq.1;omega)).conv (ao.l5 _) (by
  rintro v H⟨e,A1,⟨f,hf,he,sF⟩,rfl,rfl⟩
  exact⟨_,⟨_,(A1,x.2),rfl,rfl,⟨⟨f,hf,he,sF⟩,rfl⟩,fun _=>hq.next (sF ▸ qm _ _ _ _)⟩,ao.me _⟩)
def NU(bd jb xj xf xw xb:Nat)(name fresh:ByteArray)(wa ba:Option Addr)(wc bl bc:Nat)(whole:List UInt8)(br:Bool)(i:Nat)(hi:i≤10)(jO:whole.length≤1000000000)(x:PS)(hq:PQ i x) :
  aE Tryz.prog 187 [ptr xj,ptr xf,ptr xw] [PI bd jb xj xf xw xb name fresh wa ba wc bl bc whole br x] (fun r H=>∃(e:Nat) (x':PS),r = .int .i64 (e:Int)∧H=[PI bd jb xj xf xw xb name fresh wa ba wc bl bc whole br x']∧GL fresh whole x e x'∧(e=0→PQ (i+1) x')) :=
 (NT bd jb xj xf xw xb name fresh wa ba wc bl bc whole br x.1 x.2.1 x.2.2.1 x.2.2.2 (by have:=hq.2;omega) jO).conv (ao.l5 _) (by
  rintro v H⟨e,A1,he,sF,rfl,rfl⟩
  exact⟨_,⟨_,(A1,x.2),rfl,rfl,⟨⟨he,sF⟩,rfl⟩,fun _=>hq.next (sF ▸ kA _ _ _ _ _)⟩,ao.me _⟩)
def NS(bd jb xj xf xw xb:Nat)(name fresh:ByteArray)(wa ba:Option Addr)(wc bl bc:Nat)(whole:List UInt8)(br:Bool)(i:Nat)(hi:i≤10)(x:PS)(hq:PQ i x) :
  aE Tryz.prog 188 [ptr xj,ptr xf] [PI bd jb xj xf xw xb name fresh wa ba wc bl bc whole br x] (fun r H=>∃(e:Nat) (x':PS),r = .int .i64 (e:Int)∧H=[PI bd jb xj xf xw xb name fresh wa ba wc bl bc whole br x']∧Nu fresh x e x'∧(e=0→PQ (i+1) x')) :=
 (NR bd jb xj xf xw xb name fresh wa ba wc bl bc whole br x.1 x.2.1 x.2.2.1 x.2.2.2 (by have:=hq.2;omega)).conv (ao.l5 _) (by
  rintro v H⟨e,A1,he,sF,rfl,rfl⟩
  exact⟨_,⟨_,(A1,x.2),rfl,rfl,⟨⟨he,sF⟩,rfl⟩,fun _=>hq.next (sF ▸ kC _ _ _)⟩,ao.me _⟩)
def NQ(bd jb xj xf xw xb:Nat)(name fresh:ByteArray)(wa ba:Option Addr)(wc bl bc:Nat)(whole:List UInt8)(br:Bool)(i:Nat)(hi:i≤10)(x:PS)(hq:PQ i x) :
  aE Tryz.prog 189 [ptr xj,ptr xf] [PI bd jb xj xf xw xb name fresh wa ba wc bl bc whole br x] (fun r H=>∃(e:Nat) (x':PS),r = .int .i64 (e:Int)∧H=[PI bd jb xj xf xw xb name fresh wa ba wc bl bc whole br x']∧BR fresh name x e x'∧(e=0→PQ (i+1) x')) :=
 (NP bd jb xj xf xw xb name fresh wa ba wc bl bc whole br x.1 x.2.1 x.2.2.1 x.2.2.2 (by have:=hq.1;omega)).conv (ao.l5 _) (by
  rintro v H⟨e,A1,he,sF,rfl,rfl⟩
  exact⟨_,⟨_,(A1,x.2),rfl,rfl,⟨⟨he,sF⟩,rfl⟩,fun _=>hq.next (sF ▸ qk _ _ _ _)⟩,ao.me _⟩)
def NL(bd jb xj xf xw xb:Nat)(name fresh:ByteArray)(wa ba:Option Addr)(wc bl bc:Nat)(whole:List UInt8)(br:Bool)(i:Nat)(x:PS)(hq:PQ i x) :
  aE Tryz.prog 63 [ptr bd] [PI bd jb xj xf xw xb name fresh wa ba wc bl bc whole br x] (fun r H=>∃(e:Nat) (x':PS),r = .int .i64 (e:Int)∧H=[PI bd jb xj xf xw xb name fresh wa ba wc bl bc whole br x']∧GM x e x'∧(e=0→PQ (i+1) x')) :=
 (LL ([aD bd x.1,ae jb (cl [ptr bd,.string name,.int .i64 x.2.1,.int .i64 x.2.2.1,.int .i64 x.2.2.2,.bool br] 175),ae xj (cl [ptr jb] 70),ae xf (cl [.string fresh] 9),ae xw (cl [.slice wa whole.length wc] 39),ae xb (cl [.slice ba bl bc] 39),az 5 1 (.slice wa whole.length wc) whole.length (bV whole)].drop 1) (pj bd x.1)).conv (ao.l5 _) (by
  rintro v H⟨_,⟨rfl,rfl⟩,rfl⟩
  exact⟨_,⟨_,(x.1.ct.2,x.2),rfl,rfl,⟨⟨rfl,rfl⟩,rfl⟩,fun _=>hq.next (jX _)⟩,ao.me _⟩)
def NO(bd jb xj xf xw xb:Nat)(name fresh:ByteArray)(wa ba:Option Addr)(wc bl bc:Nat)(whole:List UInt8)(br:Bool)(i:Nat)(x:PS)(hq:PQ i x) :
  aE Tryz.prog 190 [ptr xb,ptr xj] [PI bd jb xj xf xw xb name fresh wa ba wc bl bc whole br x] (fun r H=>∃(e:Nat) (x':PS),r = .int .i64 (e:Int)∧H=[PI bd jb xj xf xw xb name fresh wa ba wc bl bc whole br x']∧WH bl x e x'∧(e=0→PQ (i+1) x')) :=
 (NN bd jb xj xf xw xb name fresh wa ba wc bl bc whole br x.1 x.2.1 x.2.2.1 x.2.2.2).conv (ao.l5 _) (by
  rintro v H⟨rfl,rfl⟩
  exact⟨_,⟨0,(x.1,1,(bl:Int),(bl:Int)),rfl,rfl,⟨rfl,rfl⟩,fun _=>⟨by have:=hq.1;simp only;omega,by have:=hq.2;simp only;omega⟩⟩,ao.me _⟩)
def jr(jb bd:Nat)(name:ByteArray)(n s c:Int)(br:Bool):HP:=ae jb (cl [ptr bd,.string name,.int .i64 n,.int .i64 s,.int .i64 c,.bool br] 175)
def Bd{ls:List (List UInt8)}{i:Nat}{x:List UInt8}(h:ls[i]?=some x):(ls.take (i+1)).flatMap aZ=(ls.take i).flatMap aZ++aZ x:=by
 rw[List.take_add_one,h];simp
def Ju(ls:List (List UInt8))(i:Nat):((ls.take i).flatMap aZ).length≤(ls.flatMap aZ).length:=by
 conv=>rhs;rw[← List.take_append_drop i ls,List.flatMap_append,List.length_append]
 omega
def IX(jb bd:Nat)(name:ByteArray)(n s c:Int)(br:Bool)(A:Ab)(V:HP)(lv:Value)(ls:List (List UInt8))(hv:qv V lv ls)(hl:(ls.flatMap aZ).length≤500000000)(wu:ls.length≤1000000000)(Jn:name.size≤1000000000)(cL:A.aw.length≤900000000)(qd:A.writes.length≤900000000) :
    aE Tryz.prog 122 [ptr jb,lv] [aD bd A,jr jb bd name n s c br,V]
      (fun r H=>∃(e:Nat) (y:PS),r = .int .i64 (e:Int)∧H=[aD bd y.1,jr jb bd name y.2.1 y.2.2.1 y.2.2.2 br,V]∧Ag name ls (A,n,s,c) e y):=by
  obtain⟨cs,dM,lH,⟨a,cc,rfl,hc⟩,py⟩:=hv
  unfold jr
  refine aE.au Tryz.func122 Tryz.ntmps122 fun G F R hE=>?_
  refine go ?_
  refine bG zr zr bD ?_
  intro xj
  refine go ?_
  refine zy zr zr zr (by show name.size+4≤_;omega) ?_
  refine go ?_
  refine aB 17 (.string (bM name)) zr zr ?_
  generalize wO:bM name=fresh
  refine aC zr zr zr bD ?_
  intro xf
  refine go ?_
  refine aC zr zr zr bD ?_
  intro xb
  refine go ?_
  refine ai (bO 5 1 none _) ?_
  refine bz (fun y:Value × Nat=>y.2≤ls.length) (fun y=>ls.length-y.2)
    (fun y=>[(0,ptr jb),(2,ptr xj),(5,ptr xf),(6,ptr xb),(18,.slice a ls.length cc),(19,.int .i64 (ls.length:Int)),(20,.int .i64 (y.2:Int))])
    (fun y=>ae xb (cl [y.1] 39)::az 5 1 y.1 ((ls.take y.2).flatMap aZ).length (bV ((ls.take y.2).flatMap aZ))::ae xf (cl [.string fresh] 9)::ae xj (cl [ptr jb] 70)::aD bd A::ae jb (cl [ptr bd,.string name,.int .i64 n,.int .i64 s,.int .i64 c,.bool br] 175)::V::F) (.slice none 0 0,0) (Nat.zero_le _) rfl cm ah ?_
  rintro⟨v,i⟩ hi ih
  simp only at hi
  refine go ?_
  refine aq zr zr ?_ ?_
  · intro cW
    simp only at cW
    have lB:i<ls.length:=by omega
    obtain⟨x,hx⟩:∃x,ls[i]?=some x:=⟨ls[i],List.getElem?_eq_getElem lB⟩
    obtain⟨cv,oC,hb⟩:=py i x hx
    obtain⟨b0,o0,c0,qZ⟩:=dM.some (by intro h;rw[h]at oC;simp at oC)
    simp only[Value.slice.injEq]at qZ
    obtain⟨rfl,-,rfl⟩:=qZ
    refine go ?_
    refine bI i zr zr zr zr zr zr zr zr lB ?_
    obtain⟨ax,cx,rfl,Tj⟩:=hb.2
    have oZ:=Bd hx
    have fO:((ls.take (i+1)).flatMap aZ).length=((ls.take i).flatMap aZ).length+(aZ x).length:=by rw[oZ,List.length_append]
    have hle:=Ju ls (i+1)
    have MM:x.length≤(aZ x).length:=by simp[aZ]
    refine aX 6 i zr zr zr dM rfl oC zr zr ?_
    refine aN 1 rfl ?_
    intro av cv oY
    simp only at oY
    subst oY
    refine go ?_
    refine aH (fun w=>Sat G w ([ae xb (cl [.slice av ((ls.take i).flatMap aZ).length cv] 39)])) (.st 0 (.st 1 (.act 2 (.act 3 (.act 4 .nil))))) rfl ak ak ak eo ?_
    refine go ?_
    refine dD (qn V _ x hb ag) ?_
    rintro r _ rfl
    refine aN 0 rfl ?_
    rintro ra rc rfl
    refine iw 0 rfl ?_
    intro Je
    refine go ?_
    refine aR (mm:=(aZ x).length) (news:=bV (aZ x)) 3 0 zr zr zr zr zr zr zr zr zr zr zr zr Je (by show _=_*1;rw[bt];omega) (cO _) (by simp only;omega) (by show(_+_)*1≤_;simp only;omega) (fun _=>rfl) (fun _ w hw=>by exact hw.cN ah) ?_
    intro v1
    simp only
    rw[show bV ((ls.take i).flatMap aZ)++bV (aZ x)=bV ((ls.take (i+1)).flatMap aZ)from by rw[oZ];simp[bV],← fO]
    refine aN 3 rfl ?_
    rintro va vc rfl
    refine go ?_
    refine aM ih (.slice va ((ls.take (i+1)).flatMap aZ).length vc,i+1) rfl (by simp only;omega) (by simp only;omega) cm ah
  intro fg
  simp only at fg
  have gh:i=ls.length:=by omega
  subst gh
  rw[List.take_length]
  refine dg 1 rfl ?_
  intro av cv oY
  simp only at oY
  subst oY
  obtain⟨B,hB⟩:∃B,B=ls.flatMap aZ:=⟨_,rfl⟩
  rw[← hB]at hl ⊢
  have hhl:(cd 1 B.length).length=16:=fY _ _
  have eQ:(cf ls)=List.replicate 16 0++cd 1 B.length++B:=by rw[hB];rfl
  obtain⟨W,hW⟩:∃W,W=cf ls:=⟨_,rfl⟩
  rw[← hW]at eQ
  have E3:W.length=32+B.length:=by rw[eQ];simp only[List.length_append,List.length_replicate,hhl]
  have adQ:∀(m:Nat) (ra:Option Addr) (rc row:Nat),eM (az 5 1 (.slice ra (cd 1 B.length).length rc) (cd 1 B.length).length (bV (cd 1 B.length))) (.slice ra (cd 1 B.length).length rc) (cd 1 B.length) →
      eM (az 5 1 (.slice av B.length cv) B.length (bV B)) (.slice av B.length cv) B→aE Tryz.prog 184 [.slice (some ⟨row,0,none⟩) 3 3]
      [Sep [ae row (cl [.slice (some ⟨m,0,none⟩) 16 16,.slice ra (cd 1 B.length).length rc,.slice av B.length cv] 39),ae m (cl (bV (List.replicate 16 0)) 5),az 5 1 (.slice ra (cd 1 B.length).length rc) (cd 1 B.length).length (bV (cd 1 B.length)),az 5 1 (.slice av B.length cv) B.length (bV B)]]
      (fun r H=>H=[az 5 1 r W.length (bV W),Sep [ae row (cl [.slice (some ⟨m,0,none⟩) 16 16,.slice ra (cd 1 B.length).length rc,.slice av B.length cv] 39),ae m (cl (bV (List.replicate 16 0)) 5),az 5 1 (.slice ra (cd 1 B.length).length rc) (cd 1 B.length).length (bV (cd 1 B.length)),az 5 1 (.slice av B.length cv) B.length (bV B)]]):=by
    intro m ra rc row nw pF
    have nX:[List.replicate 16 0,cd 1 B.length,B].flatten=W:=by rw[eQ];simp only[List.flatten_cons,List.flatten_nil,List.append_nil,List.append_assoc]
    have:=Iz (Sep [ae row (cl [.slice (some ⟨m,0,none⟩) 16 16,.slice ra (cd 1 B.length).length rc,.slice av B.length cv] 39),ae m (cl (bV (List.replicate 16 0)) 5),az 5 1 (.slice ra (cd 1 B.length).length rc) (cd 1 B.length).length (bV (cd 1 B.length)),az 5 1 (.slice av B.length cv) B.length (bV B)]) (.slice (some ⟨row,0,none⟩) 3 3) [List.replicate 16 0,cd 1 B.length,B]
      ⟨[.slice (some ⟨m,0,none⟩) 16 16,.slice ra (cd 1 B.length).length rc,.slice av B.length cv],(Vw.ae rfl).mono (bh (i:=0) rfl),rfl,⟨_,_,rfl,Nat.le_refl 3⟩,fun i x hx=>by
        match i,hx with
        | 0,hx=>cases hx;exact⟨_,rfl,⟨(Vw.ae (b:=m) (l:=bV (List.replicate 16 0)) (e:=5) rfl).mono (bh (i:=1) rfl),_,_,rfl,by decide⟩⟩
        | 1,hx=>cases hx;exact⟨_,rfl,nw.mono (bh (i:=2) rfl)⟩
        | 2,hx=>cases hx;exact⟨_,rfl,pF.mono (bh (i:=3) rfl)⟩
        | k+3,hx=>simp at hx⟩ (by rw[nX,E3];omega) (by show 3≤_;omega)
    rw[nX]at this
    exact this
  refine qx (bs:=B) 1 rfl ?_
  intro pF
  refine iN rfl ?_
  refine Bv 1 (fun y:Option Addr × Nat × Nat=>True) (fun y=>[(0,ptr jb),(2,ptr xj),(5,ptr xf),(6,ptr xb),(9,ptr y.2.2)]) (fun y=>ae y.2.2 (cl [.slice y.1 W.length y.2.1] 39)::az 5 1 (.slice y.1 W.length y.2.1) W.length (bV W)::ae xb (cl [.slice av B.length cv] 39)::ae xf (cl [.string fresh] 9)::ae xj (cl [ptr jb] 70)::aD bd A::ae jb (cl [ptr bd,.string name,.int .i64 n,.int .i64 s,.int .i64 c,.bool br] 175)::V::F) rfl ?_ ?_
  rotate_left
  · intro tail
    refine aH (fun w=>Sat G w ([ae xb (cl [.slice av B.length cv] 39)])) (.st 1 (.st 2 (.st 4 (.fork (.fork (.act 0 (.fork (.act 3 (.fork (.act 5 (.fork (.act 6 (.act 7 (.act 8 .nil))) (.act 7 (.act 6 (.act 8 .nil))))) (.act 7 (.act 5 (.act 6 (.act 8 .nil)))))) (.act 7 (.act 3 (.act 5 (.act 6 (.act 8 .nil))))))) (.act 3 (.fork (.act 0 (.fork (.act 5 (.fork (.act 6 (.act 7 (.act 8 .nil))) (.act 7 (.act 6 (.act 8 .nil))))) (.act 7 (.act 5 (.act 6 (.act 8 .nil)))))) (.act 7 (.act 0 (.act 5 (.act 6 (.act 8 .nil)))))))) (.act 7 (.fork (.act 0 (.act 3 (.act 5 (.act 6 (.act 8 .nil))))) (.act 3 (.act 0 (.act 5 (.act 6 (.act 8 .nil))))))))))) rfl ak ak ak eo ?_
    repeat'(first|refine qE ?_ ?_|(refine ij (p:=16) (q:=16) zr zr zr zr zr zr zr zr zr ag ag (by show 1*16≤_;omega) (fun _ w hw=>by exact hw.cN ah) ?_;intro m)|(((refine dD (yE 1 B.length ag ag) ?_));rintro _ _ rfl;((refine aN 0 rfl ?_));rintro ra rc rfl;refine gM (bs:=cd 1 B.length) 0 rfl ?_;intro nw)|(refine aj zr zr zr zr zr zr zr zr zr (fun _ w hw=>by exact hw.cN ah) ?_;intro row)|(refine aC zr zr zr (fun _ w hw=>by exact hw.cN ah) ?_;intro x9)|(refine fq zr zr zr zr (adQ m ra rc row nw pF) (ao.trans ah (ao.bS [_,_,_,_] _)) ?_ tqg;rintro _ _ rfl;((refine aN 0 rfl ?_));rintro wa wc rfl)|(refine aV ?_;(first|refine cp 0 gB zr zr zr zr zr zr zr zr zr ?_|refine cp 2 gB zr zr zr zr zr zr zr zr zr ?_);refine FU ?_;refine pC tail (wa,wc,x9) rfl trivial cm ah)|(refine gO ?_)|fail)
  rintro⟨wa,wc,x9⟩ -
  simp only
  refine go ?_
  refine aH (fun w=>Sat G w ([ae jb (cl [ptr bd,.string name,.int .i64 n,.int .i64 s,.int .i64 c,.bool br] 175),ae xj (cl [ptr jb] 70),ae xf (cl [.string fresh] 9)])) (df 0 5 (.act 5 (df 6 5 .nil))) rfl ak ak ak eo ?_
  refine go ?_
  refine bC (ui bd A fresh) ?_
  refine go ?_
  refine Bv 1 (fun y:Value × List Value=>y.2=if(A.size fresh).2=0 then [.func (.func 185) #[] #[ptr xj,ptr xf] ]else []) (fun y=>[(0,ptr jb),(2,ptr xj),(5,ptr xf),(6,ptr xb),(9,ptr x9),(10,y.1)]) (fun y=>ae xj (cl [ptr jb] 70)::ae jb (cl [ptr bd,.string name,.int .i64 n,.int .i64 s,.int .i64 c,.bool br] 175)::az 82 1 y.1 y.2.length y.2::ae x9 (cl [.slice wa W.length wc] 39)::az 5 1 (.slice wa W.length wc) W.length (bV W)::ae xb (cl [.slice av B.length cv] 39)::ae xf (cl [.string fresh] 9)::aD bd A::V::F) rfl ?_ ?_
  rotate_left
  · intro tail
    refine ai (bO 82 1 none _) ?_
    refine aq zr zr ?_ ?_
    · intro he
      refine go ?_
      refine aj zr zr zr zr zr zr zr zr zr bD ?_
      intro row
      refine go ?_
      refine aR (mm:=1) (news:=[.func (.func 185) #[] #[ptr xj,ptr xf]]) 1 0 zr zr zr zr zr zr zr zr zr zr zr zr (Vw.ae rfl) rfl (by simp[Value.oneCell']) ag (by show(0+1)*8≤_;omega) (fun _=>rfl) bD ?_
      intro v1
      refine aN 1 rfl ?_
      rintro va vc rfl
      refine pz ?_
      refine pC tail (.slice va (0+1) vc,[.func (.func 185) #[] #[ptr xj,ptr xf] ]) rfl (by rw[if_pos ag]) cm ah
    · intro he
      refine pC tail (.slice none 0 0,[]) rfl (by rw[if_neg ag]) cm ah
  rintro⟨sv,fv⟩ mX
  simp only at mX ⊢
  refine dg 2 rfl ?_
  rintro va vc rfl
  refine go ?_
  have nX:fv.length≤1:=by rw[mX];split <;> simp
  refine aj (cs:=[.func (.func 186) #[] #[ptr xj,ptr xf],.func (.func 187) #[] #[ptr xj,ptr xf,ptr x9],.func (.func 188) #[] #[ptr xj,ptr xf],.func (.func 189) #[] #[ptr xj,ptr xf],.func (.func 63) #[ptr bd] #[],.func (.func 190) #[] #[ptr xb,ptr xj] ]) zr zr zr zr zr zr zr zr zr bD ?_
  intro row
  refine go ?_
  refine aR (mm:=6) (news:=[.func (.func 186) #[] #[ptr xj,ptr xf],.func (.func 187) #[] #[ptr xj,ptr xf,ptr x9],.func (.func 188) #[] #[ptr xj,ptr xf],.func (.func 189) #[] #[ptr xj,ptr xf],.func (.func 63) #[ptr bd] #[],.func (.func 190) #[] #[ptr xb,ptr xj] ]) 3 0 zr zr zr zr zr zr zr zr zr zr zr zr (Vw.ae rfl) rfl (by simp[Value.oneCell']) ag (by show(_+6)*8≤_;omega) (fun _=>rfl) bD ?_
  intro v1
  refine iw 3 rfl ?_
  intro lz
  obtain⟨fs,mS⟩:∃fs,fs=fv++[.func (.func 186) #[] #[ptr xj,ptr xf],.func (.func 187) #[] #[ptr xj,ptr xf,ptr x9],.func (.func 188) #[] #[ptr xj,ptr xf],.func (.func 189) #[] #[ptr xj,ptr xf],.func (.func 63) #[ptr bd] #[],.func (.func 190) #[] #[ptr xb,ptr xj] ]:=⟨_,rfl⟩
  rw[← mS]at lz ⊢
  have abu:fs.length=fv.length+6:=by rw[mS,List.length_append];rfl
  rw[← abu]at lz ⊢
  have qX:(gF name ls A).length=fs.length:=by
    rw[abu,mX];unfold gF;rw[wO]
    split <;> rfl
  have hWb:W.length≤1000000000:=by omega
  have u5:∀(i:Nat) (fv:Value) (s:PS→Nat→PS→Prop),fs[i]?=some fv→(gF name ls A)[i]?=some s→∃g fi cap,fv = .func (.func g) fi cap∧∀x,PQ i x→aE Tryz.prog g (fi.toList++cap.toList) [PI bd jb xj xf x9 xb name fresh wa av wc B.length cv W br x] (fun r H=>∃(e:Nat) (x':PS),r = .int .i64 (e:Int)∧H=[PI bd jb xj xf x9 xb name fresh wa av wc B.length cv W br x']∧s x e x'∧(e=0→PQ (i+1) x')):=by
    intro i f1 s1 h1 h2
    have hi:i<fs.length:=(List.getElem?_eq_some_iff.1 h1).1
    have yB:i≤10:=by omega
    unfold gF at h2
    rw[wO,← hW,← hB]at h2
    rw[mS,mX]at h1
    by_cases hz:(A.size fresh).2=0
    · rw[if_pos hz]at h1 h2
      match i,h1,h2 with
      | 0,h1,h2=>cases h1;cases h2;exact⟨_,_,_,rfl,fun x hq=>WM _ _ _ _ _ _ _ _ _ _ _ _ _ _ _ _ yB x hq⟩
      | 1,h1,h2=>cases h1;cases h2;exact⟨_,_,_,rfl,fun x hq=>NW _ _ _ _ _ _ _ _ _ _ _ _ _ _ _ _ yB x hq⟩
      | 2,h1,h2=>cases h1;cases h2;exact⟨_,_,_,rfl,fun x hq=>NU _ _ _ _ _ _ _ _ _ _ _ _ _ _ _ _ yB hWb x hq⟩
      | 3,h1,h2=>cases h1;cases h2;exact⟨_,_,_,rfl,fun x hq=>NS _ _ _ _ _ _ _ _ _ _ _ _ _ _ _ _ yB x hq⟩
      | 4,h1,h2=>cases h1;cases h2;exact⟨_,_,_,rfl,fun x hq=>NQ _ _ _ _ _ _ _ _ _ _ _ _ _ _ _ _ yB x hq⟩
      | 5,h1,h2=>cases h1;cases h2;exact⟨_,_,_,rfl,fun x hq=>NL _ _ _ _ _ _ _ _ _ _ _ _ _ _ _ _ x hq⟩
      | 6,h1,h2=>cases h1;cases h2;exact⟨_,_,_,rfl,fun x hq=>NO _ _ _ _ _ _ _ _ _ _ _ _ _ _ _ _ x hq⟩
      | k+7,h1,h2=>simp at h1
    · rw[if_neg hz]at h1 h2
      match i,h1,h2 with
      | 0,h1,h2=>cases h1;cases h2;exact⟨_,_,_,rfl,fun x hq=>NW _ _ _ _ _ _ _ _ _ _ _ _ _ _ _ _ yB x hq⟩
      | 1,h1,h2=>cases h1;cases h2;exact⟨_,_,_,rfl,fun x hq=>NU _ _ _ _ _ _ _ _ _ _ _ _ _ _ _ _ yB hWb x hq⟩
      | 2,h1,h2=>cases h1;cases h2;exact⟨_,_,_,rfl,fun x hq=>NS _ _ _ _ _ _ _ _ _ _ _ _ _ _ _ _ yB x hq⟩
      | 3,h1,h2=>cases h1;cases h2;exact⟨_,_,_,rfl,fun x hq=>NQ _ _ _ _ _ _ _ _ _ _ _ _ _ _ _ _ yB x hq⟩
      | 4,h1,h2=>cases h1;cases h2;exact⟨_,_,_,rfl,fun x hq=>NL _ _ _ _ _ _ _ _ _ _ _ _ _ _ _ _ x hq⟩
      | 5,h1,h2=>cases h1;cases h2;exact⟨_,_,_,rfl,fun x hq=>NO _ _ _ _ _ _ _ _ _ _ _ _ _ _ _ _ x hq⟩
      | k+6,h1,h2=>simp at h1
  have gp:=JP (PI bd jb xj xf x9 xb name fresh wa av wc B.length cv W br) (az 82 1 v1 fs.length fs) v1 fs lz ag (gF name ls A) qX PQ u5 (A,n,s,c) ⟨by simp only;omega,by simp only;omega⟩
  refine aN 3 rfl ?_
  rintro va2 vc2 rfl
  refine go ?_
  refine fq zr zr zr zr gp (ao.trans ah (ao.cons _ (ao.bS [aD bd A,ae jb (cl [ptr bd,.string name,.int .i64 n,.int .i64 s,.int .i64 c,.bool br] 175),ae xj (cl [ptr jb] 70),ae xf (cl [.string fresh] 9),ae x9 (cl [.slice wa W.length wc] 39),ae xb (cl [.slice av B.length cv] 39),az 5 1 (.slice wa W.length wc) W.length (bV W)] _))) ?_ mO
  rintro _ _⟨e,y,rfl,rfl,hr⟩
  refine aI (ao.trans (ao.pick [1] rfl) (ao.cJ [aD bd y.1,ae jb (cl [ptr bd,.string name,.int .i64 y.2.1,.int .i64 y.2.2.1,.int .i64 y.2.2.2,.bool br] 175),ae xj (cl [ptr jb] 70),ae xf (cl [.string fresh] 9),ae x9 (cl [.slice wa W.length wc] 39),ae xb (cl [.slice av B.length cv] 39),az 5 1 (.slice wa W.length wc) W.length (bV W)] _)) (go ?_)
  refine ad hE Tryz.func122 zr zr ⟨e,y,rfl,rfl,hr⟩
def Rf(name:ByteArray)(f:Nat):((Ab.new 1).create (isName name) name f).1=if isName name then 0 else 1:=by
 cases h:isName name <;> simp[Ab.create,Ab.meet,Ab.new,Ab.look,Ab.cM]
def I5(name:ByteArray):aE Tryz.prog 117 [.string name] [] (fun r H=>r = .bool (isName name)∧H=[]):=by
 refine aE.au Tryz.func117 Tryz.ntmps117 fun G F R hE=>?_
 refine go ?_
 refine aF (Ik 1 ag ag) ?_
 rintro _ _⟨bd,rfl,rfl⟩
 refine go ?_
 refine aF (vx bd (Ab.new 1) name (by simp[Ab.new])) ?_
 rintro _ _⟨f,hf,rfl,rfl⟩
 rw[Rf]
 refine go ?_
 ((refine bu 2 ((.bool (isName name))) rfl ((congrArg Value.bool (by cases isName name <;> rfl))) ?_))
 refine ai (ao.drop _ _) ?_
 refine ad hE Tryz.func117 zr zr ⟨rfl,rfl⟩
def sH(jb bd:Nat)(name:ByteArray)(n s c:Int)(br:Bool)(e:Nat):aE Tryz.prog 130 [ptr jb,.int .i64 (e:Int)] [jr jb bd name n s c br] (fun r H=>r = .int .i64 (e:Int)∧H=[jr jb bd name n s c (br || decide (e≠0))]):=by
 unfold jr
 refine aE.au Tryz.func130 Tryz.ntmps130 fun G F R hE=>?_
 cases br
 ·refine go ?_
  have hd:decide ((e:Int)≠0)=(false || decide (e≠0)):=by by_cases h:e=0 <;> simp[h]
  simp only[hd]
  refine ad hE Tryz.func130 zr zr ⟨rfl,rfl⟩
 ·refine go ?_
  refine ad hE Tryz.func130 zr zr ⟨rfl,rfl⟩
structure JN where
 n:Int
 s:Int
 c:Int
 br:Bool
def rq(jb bd:Nat)(name:ByteArray)(x:JN):HP:=jr jb bd name x.n x.s x.c x.br
def cU(name:ByteArray)(A:Ab)(x:JN)(b:List UInt8):Nat × Ab × JN :=
 if x.br then(10,A,x)else if 4096<b.length then(1,A,x)else if 524288<x.s+(aZ b).length then(3,A,x)else
 if(A.write (fX name (32+x.s) (aZ b)) name (32+x.s).toNat (aZ b)).1=0 then(0,(A.write (fX name (32+x.s) (aZ b)) name (32+x.s).toNat (aZ b)).2,{ x with s:=x.s+(aZ b).length })
 else((A.write (fX name (32+x.s) (aZ b)) name (32+x.s).toNat (aZ b)).1,(A.write (fX name (32+x.s) (aZ b)) name (32+x.s).toNat (aZ b)).2,{ x with br:=true })
def n8(b:List UInt8)(h:b.length≤1000000000000):(aZ b).length≤b.length+10:=by
 have:=pI (n:=b.length) ag
 simp[aZ];omega
def jrE(jb bd:Nat)(name:ByteArray)(n s c:Int):HP:=fun h=>∃br,ae jb (cl [ptr bd,.string name,.int .i64 n,.int .i64 s,.int .i64 c,.bool br] 175) h
def Hj(jb bd:Nat)(name:ByteArray)(n s c:Int)(br:Bool)(H:List HP):ao (ae jb (cl [ptr bd,.string name,.int .i64 n,.int .i64 s,.int .i64 c,.bool br] 175)::H) (jrE jb bd name n s c::H) :=
 ao.fold (B:=[_]) fun h' hs=>⟨h',sub.refl h',br,eU hs⟩
end Go.Proofs.YtdigdgohdpeebaaGreatDoor
namespace Go.Proofs.YtdigdgohdpeebaaGreatDoor
open Go Go.SL
def yo{G:cI}{w:World}{jb bd:Nat}{name:ByteArray}{n s c:Int}(hw:Sat G w [jrE jb bd name n s c]):w.cell? ⟨jb,0,none⟩=some (ptr bd)∧w.cell? ⟨jb,1,none⟩=some (.string name)∧w.cell? ⟨jb,3,none⟩=some (.int .i64 s):=by
 obtain⟨h,hh,br,hA⟩:=hw.lj (i:=0) rfl
 have hb:h jb=some (cl [ptr bd,.string name,.int .i64 n,.int .i64 s,.int .i64 c,.bool br] 175):=by rw[hA jb,if_pos rfl]
 exact⟨dY hh (by unfold dm;rw[hb];rfl),dY hh (by unfold dm;rw[hb];rfl),dY hh (by unfold dm;rw[hb];rfl)⟩
attribute [local irreducible] J K aE Ends ae az aQ bP bj aT aU bp bW aD
def IE(jb bd:Nat)(name:ByteArray)(A:Ab)(x:JN)(X:HP)(bv:Value)(b:List UInt8)(hv:eM X bv b)(hl:b.length≤9223372036854775807)(hs:0≤x.s∧x.s≤1000000000)(eQ:A.writes.length≤1000000000) :
  aE Tryz.prog 81 [ptr jb,bv] [aD bd A,rq jb bd name x,X]
   (fun r H=>r = .int .i64 ((cU name A x b).1:Int)∧H=[aD bd (cU name A x b).2.1,rq jb bd name (cU name A x b).2.2,X]):=by
 obtain⟨n,s,c,br⟩:=x
 obtain⟨a,cc,rfl,hc⟩:=hv.2
 simp only at hs
 dsimp only [rq,jr]
 refine aE.au Tryz.func81 Tryz.ntmps81 fun G F R hE=>?_
 dsimp only [cU]at hE
 cases br with
 | true =>
  simp only[if_true]at hE
  refine go ?_
  refine ad hE Tryz.func81 zr zr ⟨rfl,rfl⟩
 | false =>
  simp only[Bool.false_eq_true,if_false]at hE
  refine go ?_
  refine aq zr zr ?_ ?_
  ·intro tN
   rw[if_pos ag]at hE
   refine go ?_
   refine ad hE Tryz.func81 zr zr ⟨rfl,rfl⟩
  intro u6
  have hb4:b.length≤4096:=by omega
  have py:=n8 b ag
  rw[if_neg ag]at hE
  refine go ?_
  refine aF (qn X _ b hv ag) ?_
  rintro r _ rfl
  refine aN 0 rfl ?_
  rintro ra rc rfl
  refine gM (bs:=aZ b) 0 rfl ?_
  intro MU
  refine go ?_
  refine aq zr zr ?_ ?_
  ·intro tN
   rw[if_pos ag]at hE
   refine go ?_
   refine ad hE Tryz.func81 zr zr ⟨rfl,rfl⟩
  intro yC
  rw[if_neg ag]at hE
  refine go ?_
  refine aH (fun w=>Sat G w [jrE jb bd name n s c]) (df 0 15 (.act 15 (.act 16 (.st 17 .nil)))) rfl ak ak ak (fun w hw=>hw.cN (ao.trans ah (Hj jb bd name n s c false []))) ?_
  refine go ?_
  refine aK ?_
  refine lY zr zr (fun w hw=>(yo hw).1) zr zr ?_
  refine go ?_
  refine aK ?_
  refine lY zr zr (fun w hw=>(yo hw).2.1) zr zr ?_
  refine go ?_
  refine aK ?_
  refine lY zr zr (fun w hw=>(yo hw).2.2) zr zr ?_
  refine go ?_
  obtain⟨W,hW⟩:∃W,W=A.write (fX name (32+s) (aZ b)) name (32+s).toNat (aZ b):=⟨_,rfl⟩
  have qd:=ug bd A name (32+s) (az 5 1 (.slice ra (aZ b).length rc) (aZ b).length (bV (aZ b))) (.slice ra (aZ b).length rc) (aZ b) MU.1 eQ ag ag
  rw[← hW]at hE qd
  refine fq rfl rfl rfl rfl qd ah ?_ (fun _ _ w hp hw=>by obtain⟨rfl,rfl⟩:=hp;exact hw.cN (ao.trans ah (Hj jb bd name n s c false [])))
  rintro _ _⟨rfl,rfl⟩
  refine fq zr zr zr zr (sH jb bd name n s c false W.1) ah ?_ (fun _ _ w hp hw=>by obtain⟨rfl,rfl⟩:=hp;exact hw.cN (ao.trans ah (Hj jb bd name n s c _ [])))
  rintro _ _⟨rfl,rfl⟩
  unfold jr
  refine go ?_
  refine aq zr zr ?_ ?_
  ·intro bZ
   have fR:¬W.1=0:=by omega
   rw[if_neg fR]at hE
   have hd:(false || decide (W.1≠0))=true:=by simp[fR]
   simp only[hd]
   refine go ?_
   refine ad hE Tryz.func81 zr zr ⟨rfl,rfl⟩
  ·intro heq
   have o4:W.1=0:=by omega
   rw[if_pos o4]at hE
   have hd:(false || decide (W.1≠0))=false:=by simp[o4]
   simp only[hd]
   refine go ?_
   refine ad hE Tryz.func81 zr zr ⟨rfl,rfl⟩
def CI(bd jb x1 x3:Nat)(name:ByteArray)(next sz:Nat)(x:PS):HP:=Sep [aD bd x.1,ae jb (cl [ptr bd,.string name,.int .i64 x.2.1,.int .i64 x.2.2.1,.int .i64 x.2.2.2,.bool false] 175),ae x1 (cl [ptr jb] 70),ae x3 (cl [.int .i64 (next:Int)] 3)]
def CQ(sz:Nat)(i:Nat)(x:PS):Prop:=x.2.2.1=(sz:Int)∧x.1.aw.length≤900000000+i∧x.1.writes.length≤900000000+i
def CQ.next{sz i:Nat}{x:PS}(h:CQ sz i x){B:Ab}(g:j5 x.1 B):CQ sz (i+1) (B,x.2):=by
 obtain⟨h0,h1,h2⟩:=h
 obtain⟨g1,g2⟩:=g
 exact⟨h0,by simp only;omega,by simp only;omega⟩
def JJ(name:ByteArray):=SE fun A e B=>e=(A.sync (isName name) name).1∧B=(A.sync (isName name) name).2
def Tw(name:ByteArray)(next sz:Nat):=SE fun A e B=>e=(A.write (fX name ((next%2*16:Nat):Int) (cd next sz)) name (next%2*16) (cd next sz)).1∧B=(A.write (fX name ((next%2*16:Nat):Int) (cd next sz)) name (next%2*16) (cd next sz)).2
def ab0(next:Nat)(x:PS)(e:Nat)(y:PS):Prop:=e=0∧y=(x.1,(next:Int),x.2.2.1,x.2.2.1)
def qp(name:ByteArray)(next sz:Nat):List (PS→Nat→PS→Prop):=[JJ name,Tw name next sz,JJ name,ab0 next]
def j7(name:ByteArray)(A:Ab)(x:JN)(e:Nat)(A':Ab)(x':JN):Prop :=
 if x.br then e=10∧A'=A∧x'=x else if x.s=x.c then e=0∧A'=A∧x'=x else if 1073741824≤x.n then e=3∧A'=A∧x'=x
 else ∃y:PS,iA (qp name (x.n.toNat+1) x.s.toNat) (A,x.n,x.s,x.c) e y∧A'=y.1∧x'=⟨y.2.1,y.2.2.1,y.2.2.2,decide (e≠0)⟩
def F6(bd jb x1 x3:Nat)(name:ByteArray)(next sz:Nat)(A:Ab)(n s c:Int)(eQ:A.writes.length≤1000000000) :
  aE Tryz.prog 139 [ptr x1] ([aD bd A,ae jb (cl [ptr bd,.string name,.int .i64 n,.int .i64 s,.int .i64 c,.bool false] 175),ae x1 (cl [ptr jb] 70),ae x3 (cl [.int .i64 (next:Int)] 3)]) (fun r H=>∃(e:Nat) (A1:Ab),e=(A.sync (isName name) name).1∧A1=(A.sync (isName name) name).2∧r = .int .i64 (e:Int)∧H=[aD bd A1,ae jb (cl [ptr bd,.string name,.int .i64 n,.int .i64 s,.int .i64 c,.bool false] 175),ae x1 (cl [ptr jb] 70),ae x3 (cl [.int .i64 (next:Int)] 3)]):=by
 refine aE.au Tryz.func139 Tryz.ntmps139 fun G F R hE=>?_
 refine go ?_
 refine aH (fun w=>Sat G w ([ae jb (cl [ptr bd,.string name,.int .i64 n,.int .i64 s,.int .i64 c,.bool false] 175),ae x1 (cl [ptr jb] 70),ae x3 (cl [.int .i64 (next:Int)] 3)])) (df 0 8 (.act 8 (.st 9 .nil))) rfl ak ak ak eo ?_
 refine go ?_
 refine bC (uh bd A name eQ) ?_
 refine go ?_
 refine ad hE Tryz.func139 zr zr ⟨_,_,rfl,rfl,rfl,rfl⟩
def F4(bd jb x1 x3:Nat)(name:ByteArray)(next sz:Nat)(A:Ab)(n s c:Int)(eQ:A.writes.length≤1000000000) :
  aE Tryz.prog 142 [ptr x1] ([aD bd A,ae jb (cl [ptr bd,.string name,.int .i64 n,.int .i64 s,.int .i64 c,.bool false] 175),ae x1 (cl [ptr jb] 70),ae x3 (cl [.int .i64 (next:Int)] 3)]) (fun r H=>∃(e:Nat) (A1:Ab),e=(A.sync (isName name) name).1∧A1=(A.sync (isName name) name).2∧r = .int .i64 (e:Int)∧H=[aD bd A1,ae jb (cl [ptr bd,.string name,.int .i64 n,.int .i64 s,.int .i64 c,.bool false] 175),ae x1 (cl [ptr jb] 70),ae x3 (cl [.int .i64 (next:Int)] 3)]):=by
 refine aE.au Tryz.func142 Tryz.ntmps142 fun G F R hE=>?_
 refine go ?_
 refine aH (fun w=>Sat G w ([ae jb (cl [ptr bd,.string name,.int .i64 n,.int .i64 s,.int .i64 c,.bool false] 175),ae x1 (cl [ptr jb] 70),ae x3 (cl [.int .i64 (next:Int)] 3)])) (df 0 8 (.act 8 (.st 9 .nil))) rfl ak ak ak eo ?_
 refine go ?_
 refine bC (uh bd A name eQ) ?_
 refine go ?_
 refine ad hE Tryz.func142 zr zr ⟨_,_,rfl,rfl,rfl,rfl⟩
def F5(bd jb x1 x3:Nat)(name:ByteArray)(next sz:Nat)(px:next≤2000000000)(iY:sz≤2000000000)(A:Ab)(n c:Int)(eQ:A.writes.length≤1000000000) :
  aE Tryz.prog 140 [ptr x1,ptr x3] ([aD bd A,ae jb (cl [ptr bd,.string name,.int .i64 n,.int .i64 (sz:Int),.int .i64 c,.bool false] 175),ae x1 (cl [ptr jb] 70),ae x3 (cl [.int .i64 (next:Int)] 3)]) (fun r H=>∃(e:Nat) (A1:Ab),e=(A.write (fX name ((next%2*16:Nat):Int) (cd next sz)) name (next%2*16) (cd next sz)).1∧A1=(A.write (fX name ((next%2*16:Nat):Int) (cd next sz)) name (next%2*16) (cd next sz)).2∧r = .int .i64 (e:Int)∧H=[aD bd A1,ae jb (cl [ptr bd,.string name,.int .i64 n,.int .i64 (sz:Int),.int .i64 c,.bool false] 175),ae x1 (cl [ptr jb] 70),ae x3 (cl [.int .i64 (next:Int)] 3)]):=by
 refine aE.au Tryz.func140 Tryz.ntmps140 fun G F R hE=>?_
 refine go ?_
 refine aH (fun w=>Sat G w ([ae jb (cl [ptr bd,.string name,.int .i64 n,.int .i64 (sz:Int),.int .i64 c,.bool false] 175),ae x1 (cl [ptr jb] 70),ae x3 (cl [.int .i64 (next:Int)] 3)])) (df 0 16 (.act 16 (.act 17 (.st 18 .nil)))) rfl ak ak ak eo ?_
 refine go ?_
 refine ou zr zr zr ag ag ?_
 refine aB 12 (.int .i64 ((next%2:Nat):Int)) rfl (congrArg (Value.int .i64) ag) (go ?_)
 refine ib zr zr zr (by simp only[gn];omega) ?_
 refine aB 13 (.int .i64 ((next%2*16:Nat):Int)) rfl (congrArg (Value.int .i64) ag) (go ?_)
 refine dD (yE next sz ag ag) ?_
 rintro _ _ rfl
 refine aN 0 rfl ?_
 rintro ra rc rfl
 refine gM (bs:=cd next sz) 0 rfl ?_
 intro MU
 have qd:=ug bd A name ((next%2*16:Nat):Int) _ _ (cd next sz) MU.1 eQ (by rw[fY];omega) ag
 rw[Int.toNat_natCast]at qd
 refine bC qd ?_
 refine go ?_
 refine ad hE Tryz.func140 zr zr ⟨_,_,rfl,rfl,rfl,rfl⟩
def jrS(jb:Nat)(s:Int):HP:=fun h=>∃bd name n c br,ae jb (cl [ptr bd,.string name,.int .i64 n,.int .i64 s,.int .i64 c,.bool br] 175) h
def Ow(jb bd:Nat)(name:ByteArray)(n s c:Int)(br:Bool)(H:List HP):ao (ae jb (cl [ptr bd,.string name,.int .i64 n,.int .i64 s,.int .i64 c,.bool br] 175)::H) (jrS jb s::H) :=
 ao.fold (B:=[_]) fun h' hs=>⟨h',sub.refl h',bd,name,n,c,br,eU hs⟩
end Go.Proofs.YtdigdgohdpeebaaGreatDoor
namespace Go.Proofs.YtdigdgohdpeebaaGreatDoor
open Go Go.SL
def Ox{G:cI}{w:World}{jb:Nat}{s:Int}{H:List HP}(hw:Sat G w (jrS jb s::H)):w.cell? ⟨jb,3,none⟩=some (.int .i64 s):=by
 obtain⟨h,hh,bd,name,n,c,br,hA⟩:=hw.lj (i:=0) rfl
 have hb:h jb=some (cl [ptr bd,.string name,.int .i64 n,.int .i64 s,.int .i64 c,.bool br] 175):=by rw[hA jb,if_pos rfl]
 exact dY hh (by unfold dm;rw[hb];rfl)
attribute [local irreducible] J K aE Ends ae az aQ bP bj aT aU bp bW aD
def F3(bd jb x1 x3:Nat)(name:ByteArray)(next sz:Nat)(A:Ab)(n s c:Int) :
  aE Tryz.prog 143 [ptr x3,ptr x1] ([aD bd A,ae jb (cl [ptr bd,.string name,.int .i64 n,.int .i64 s,.int .i64 c,.bool false] 175),ae x1 (cl [ptr jb] 70),ae x3 (cl [.int .i64 (next:Int)] 3)]) (fun r H=>r = .int .i64 0∧H=[aD bd A,ae jb (cl [ptr bd,.string name,.int .i64 (next:Int),.int .i64 s,.int .i64 s,.bool false] 175),ae x1 (cl [ptr jb] 70),ae x3 (cl [.int .i64 (next:Int)] 3)]):=by
 refine aE.au Tryz.func143 Tryz.ntmps143 fun G F R hE=>?_
 refine go ?_
 refine aH (fun w=>Sat G w [jrS jb s,ae x1 (cl [ptr jb] 70),ae x3 (cl [.int .i64 (next:Int)] 3)]) (df 0 9 (.act 9 (.st 10 (.st 11 (.act 12 .nil))))) rfl ak ak ak (fun w hw=>hw.cN (ao.trans ah (Ow jb bd name _ s _ _ _))) ?_
 refine go ?_
 refine aK ?_
 refine lY zr zr (fun w hw=>Ox hw) zr zr ?_
 refine go ?_
 refine aV ?_
 refine cp 1 (fun w hw=>by exact hw.cN (ao.trans ah (Ow jb bd name _ s _ _ _))) zr zr zr zr zr zr zr zr zr ?_
 refine go ?_
 refine ad hE Tryz.func143 zr zr ⟨rfl,rfl⟩
def MB(bd jb x1 x3:Nat)(name:ByteArray)(next sz:Nat)(i:Nat)(hi:i≤10)(x:PS)(hq:CQ sz i x) :
  aE Tryz.prog 139 [ptr x1] [CI bd jb x1 x3 name next sz x] (fun r H=>∃(e:Nat) (x':PS),r = .int .i64 (e:Int)∧H=[CI bd jb x1 x3 name next sz x']∧JJ name x e x'∧(e=0→CQ sz (i+1) x')):=by
 obtain⟨A,n,s,c⟩:=x
 have h0:=hq.1
 simp only at h0
 subst h0
 exact(F6 bd jb x1 x3 name next sz A n (sz:Int) c (by have:=hq.2.2;simp only at this;omega)).conv (ao.l5 _) (by
  rintro v H⟨e,A1,he,sF,rfl,rfl⟩
  exact⟨_,⟨_,(A1,n,(sz:Int),c),rfl,rfl,⟨⟨he,sF⟩,rfl⟩,fun _=>hq.next (sF ▸ kC _ _ _)⟩,ao.me _⟩)
def Mz(bd jb x1 x3:Nat)(name:ByteArray)(next sz:Nat)(i:Nat)(hi:i≤10)(x:PS)(hq:CQ sz i x) :
  aE Tryz.prog 142 [ptr x1] [CI bd jb x1 x3 name next sz x] (fun r H=>∃(e:Nat) (x':PS),r = .int .i64 (e:Int)∧H=[CI bd jb x1 x3 name next sz x']∧JJ name x e x'∧(e=0→CQ sz (i+1) x')):=by
 obtain⟨A,n,s,c⟩:=x
 have h0:=hq.1
 simp only at h0
 subst h0
 exact(F4 bd jb x1 x3 name next sz A n (sz:Int) c (by have:=hq.2.2;simp only at this;omega)).conv (ao.l5 _) (by
  rintro v H⟨e,A1,he,sF,rfl,rfl⟩
  exact⟨_,⟨_,(A1,n,(sz:Int),c),rfl,rfl,⟨⟨he,sF⟩,rfl⟩,fun _=>hq.next (sF ▸ kC _ _ _)⟩,ao.me _⟩)
def MA(bd jb x1 x3:Nat)(name:ByteArray)(next sz:Nat)(i:Nat)(hi:i≤10)(px:next≤2000000000)(iY:sz≤2000000000)(x:PS)(hq:CQ sz i x) :
  aE Tryz.prog 140 [ptr x1,ptr x3] [CI bd jb x1 x3 name next sz x] (fun r H=>∃(e:Nat) (x':PS),r = .int .i64 (e:Int)∧H=[CI bd jb x1 x3 name next sz x']∧Tw name next sz x e x'∧(e=0→CQ sz (i+1) x')):=by
 obtain⟨A,n,s,c⟩:=x
 have h0:=hq.1
 simp only at h0
 subst h0
 exact(F5 bd jb x1 x3 name next sz px iY A n c (by have:=hq.2.2;simp only at this;omega)).conv (ao.l5 _) (by
  rintro v H⟨e,A1,he,sF,rfl,rfl⟩
  exact⟨_,⟨_,(A1,n,(sz:Int),c),rfl,rfl,⟨⟨he,sF⟩,rfl⟩,fun _=>hq.next (sF ▸ kA _ _ _ _ _)⟩,ao.me _⟩)
def My(bd jb x1 x3:Nat)(name:ByteArray)(next sz:Nat)(i:Nat)(hi:i≤10)(x:PS)(hq:CQ sz i x) :
  aE Tryz.prog 143 [ptr x3,ptr x1] [CI bd jb x1 x3 name next sz x] (fun r H=>∃(e:Nat) (x':PS),r = .int .i64 (e:Int)∧H=[CI bd jb x1 x3 name next sz x']∧ab0 next x e x'∧(e=0→CQ sz (i+1) x')):=by
 obtain⟨A,n,s,c⟩:=x
 have h0:=hq.1
 simp only at h0
 subst h0
 exact(F3 bd jb x1 x3 name next sz A n (sz:Int) c).conv (ao.l5 _) (by
  rintro v H⟨rfl,rfl⟩
  exact⟨_,⟨_,(A,(next:Int),(sz:Int),(sz:Int)),(by exact(congrArg (Value.int .i64) (show(0:Int)=((0:Nat):Int)from rfl))),rfl,⟨rfl,rfl⟩,fun _=>⟨rfl,by have:=hq.2.1;simp only at this ⊢;omega,by have:=hq.2.2;simp only at this ⊢;omega⟩⟩,ao.me _⟩)
def IA(jb bd:Nat)(name:ByteArray)(A:Ab)(x:JN)(hn:0≤x.n)(hs:0≤x.s∧x.s≤1000000000)(cL:A.aw.length≤900000000)(qd:A.writes.length≤900000000) :
  aE Tryz.prog 82 [ptr jb] [aD bd A,rq jb bd name x]
   (fun r H=>∃(e:Nat) (A':Ab) (x':JN),r = .int .i64 (e:Int)∧H=[aD bd A',rq jb bd name x']∧j7 name A x e A' x'):=by
 obtain⟨n,s,c,br⟩:=x
 simp only at hs hn
 dsimp only [rq,jr]
 refine aE.au Tryz.func82 Tryz.ntmps82 fun G F R hE=>?_
 refine go ?_
 refine bG zr zr bD ?_
 intro x1
 cases br with
 | true =>
  refine go ?_
  ((refine ad hE Tryz.func82 zr zr ⟨10,A,⟨n,s,c,true⟩,rfl,rfl,(by unfold j7;rw[if_pos rfl];exact⟨rfl,rfl,rfl⟩)⟩))
 | false =>
  refine go ?_
  refine aH (fun w=>Sat G w ([ae x1 (cl [ptr jb] 70),ae jb (cl [ptr bd,.string name,.int .i64 n,.int .i64 s,.int .i64 c,.bool false] 175)])) (df 0 10 .nil) rfl ak ak ak eo ?_
  refine go ?_
  refine aq zr zr ?_ ?_
  ·intro heq
   refine go ?_
   ((refine ad hE Tryz.func82 zr zr ⟨0,A,⟨n,s,c,false⟩,rfl,rfl,(by unfold j7;rw[if_neg (by simp),if_pos heq];exact⟨rfl,rfl,rfl⟩)⟩))
  intro bZ
  refine go ?_
  refine aq zr zr ?_ ?_
  ·intro tN
   refine go ?_
   ((refine ad hE Tryz.func82 zr zr ⟨3,A,⟨n,s,c,false⟩,rfl,rfl,(by unfold j7;rw[if_neg (by simp),if_neg bZ,if_pos tN];exact⟨rfl,rfl,rfl⟩)⟩))
  intro u6
  obtain⟨sz,rfl⟩:∃sz:Nat,s=(sz:Int):=⟨s.toNat,ag⟩
  obtain⟨nx,px⟩:∃nx:Nat,n+1=(nx:Int):=⟨n.toNat+1,ag⟩
  refine go ?_
  refine aB 29 (.int .i64 (nx:Int)) rfl (congrArg (Value.int .i64) px) ?_
  refine aC zr zr zr bD ?_
  intro x3
  refine go ?_
  refine aH (fun w=>Sat G w ([ae x1 (cl [ptr jb] 70)])) (df 0 5 (.act 5 (.act 6 (.act 7 (.st 8 .nil))))) rfl ak ak ak eo ?_
  refine go ?_
  have u5:∀(i:Nat) (fv:Value) (s:PS→Nat→PS→Prop),([.func (.func 139) #[] #[ptr x1],.func (.func 140) #[] #[ptr x1,ptr x3],.func (.func 142) #[] #[ptr x1],.func (.func 143) #[] #[ptr x3,ptr x1] ]:List Value)[i]?=some fv→(qp name nx sz)[i]?=some s→∃g fi cap,fv = .func (.func g) fi cap∧∀x,CQ sz i x→aE Tryz.prog g (fi.toList++cap.toList) [CI bd jb x1 x3 name nx sz x] (fun r H=>∃(e:Nat) (x':PS),r = .int .i64 (e:Int)∧H=[CI bd jb x1 x3 name nx sz x']∧s x e x'∧(e=0→CQ sz (i+1) x')):=by
   intro i f1 s1 h1 h2
   match i,h1,h2 with
   | 0,h1,h2=>cases h1;cases h2;exact⟨_,_,_,rfl,fun x hq=>MB bd jb x1 x3 name nx sz 0 ag x hq⟩
   | 1,h1,h2=>cases h1;cases h2;exact⟨_,_,_,rfl,fun x hq=>MA bd jb x1 x3 name nx sz 1 ag ag ag x hq⟩
   | 2,h1,h2=>cases h1;cases h2;exact⟨_,_,_,rfl,fun x hq=>Mz bd jb x1 x3 name nx sz 2 ag x hq⟩
   | 3,h1,h2=>cases h1;cases h2;exact⟨_,_,_,rfl,fun x hq=>My bd jb x1 x3 name nx sz 3 ag x hq⟩
   | k+4,h1,h2=>simp at h1
  refine aj (cs:=[.func (.func 139) #[] #[ptr x1],.func (.func 140) #[] #[ptr x1,ptr x3],.func (.func 142) #[] #[ptr x1],.func (.func 143) #[] #[ptr x3,ptr x1] ]) zr zr zr zr zr zr zr zr zr (fun _ w hw=>by exact hw.cN ah) ?_
  intro row
  have gp:=JP (CI bd jb x1 x3 name nx sz) (ae row (cl ([.func (.func 139) #[] #[ptr x1],.func (.func 140) #[] #[ptr x1,ptr x3],.func (.func 142) #[] #[ptr x1],.func (.func 143) #[] #[ptr x3,ptr x1] ]) 82)) (.slice (some ⟨row,0,none⟩) 4 4) ([.func (.func 139) #[] #[ptr x1],.func (.func 140) #[] #[ptr x1,ptr x3],.func (.func 142) #[] #[ptr x1],.func (.func 143) #[] #[ptr x3,ptr x1] ]) (Vw.ae rfl) (by show 4≤_;omega) (qp name nx sz) rfl (CQ sz) u5 (A,n,(sz:Int),c) ⟨rfl,by simp only;omega,by simp only;omega⟩
  refine fq zr zr zr zr gp (ao.trans ah (ao.cons _ (ao.bS ([aD bd A,ae jb (cl [ptr bd,.string name,.int .i64 n,.int .i64 (sz:Int),.int .i64 c,.bool false] 175),ae x1 (cl [ptr jb] 70),ae x3 (cl [.int .i64 (nx:Int)] 3)]) _))) ?_ (fun _ _ w hp hw=>by
   obtain⟨e,y,rfl,rfl,hr⟩:=hp
   exact hw.cN (ao.trans (ao.trans (ao.pick [1] rfl) (ao.cJ ([aD bd y.1,ae jb (cl [ptr bd,.string name,.int .i64 y.2.1,.int .i64 y.2.2.1,.int .i64 y.2.2.2,.bool false] 175),ae x1 (cl [ptr jb] 70),ae x3 (cl [.int .i64 (nx:Int)] 3)]) _)) ah))
  rintro _ _⟨e,y,rfl,rfl,hr⟩
  refine aI (ao.trans (ao.pick [1] rfl) (ao.cJ ([aD bd y.1,ae jb (cl [ptr bd,.string name,.int .i64 y.2.1,.int .i64 y.2.2.1,.int .i64 y.2.2.2,.bool false] 175),ae x1 (cl [ptr jb] 70),ae x3 (cl [.int .i64 (nx:Int)] 3)]) _)) ?_
  refine bC (sH jb bd name y.2.1 y.2.2.1 y.2.2.2 false e) ?_
  unfold jr
  refine go ?_
  ((refine ad hE Tryz.func82 zr zr ⟨e,y.1,⟨y.2.1,y.2.2.1,y.2.2.2,decide (e≠0)⟩,rfl,rfl,(by unfold j7;rw[if_neg (by simp),if_neg bZ,if_neg u6];exact⟨y,(by simp only[Int.toNat_natCast];rw[show n.toNat+1=nx from by omega];exact hr),rfl,rfl⟩)⟩))
end Go.Proofs.YtdigdgohdpeebaaGreatDoor
namespace Go.Proofs.YtdigdgohdpeebaaGreatDoor
open Go Go.SL
def pT:∀(f:Nat) (bs:List UInt8),((gg f bs).flatMap aZ).length≤2*bs.length∧(gg f bs).length≤bs.length∧∀x∈gg f bs,x.length≤4096
 | 0,bs=>by simp[gg]
 | f+1,bs=>by
  unfold gg
  split
  ·simp
  ·rename_i k n hl
   have hp:=qT hl
   split
   ·rename_i hb
    obtain⟨h1,h2,h3⟩:=pT f (bs.drop (k+n))
    have hx:((bs.drop k).take n).length=n:=by rw[List.length_take,List.length_drop];omega
    have he:(aZ ((bs.drop k).take n)).length≤n+2:=by
     have:=xl 1 n (by have:=hp.2.2.2;omega)
     simp only[aZ,List.length_append,hx];omega
    rw[List.length_drop]at h1 h2
    simp only[List.flatMap_cons,List.length_append,List.length_cons]
    refine⟨ag,ag,fun x hm=>?_⟩
    rcases List.mem_cons.1 hm with rfl|hm
    ·rw[hx];omega
    ·exact h3 x hm
   ·simp
def pU(bs:List UInt8):((ck bs).flatMap aZ).length≤2*bs.length∧(ck bs).length≤bs.length∧∀x∈ck bs,x.length≤4096:=pT _ bs
def oh(M:fC)(cs:List Value)(ls:List (List UInt8)):Prop:=cs.length=ls.length∧∀(j:Nat) (y:List UInt8),ls[j]?=some y→∃cv,cs[j]?=some cv∧CT M 1 cv y.length (bV y)
def LI(lb:Nat)(ls:List (List UInt8)):HP:=fun h=>∃x:Value × List Value × fC,oh x.2.2 x.2.1 ls∧Sep [ae lb (cl [x.1] 48),az 39 1 x.1 ls.length x.2.1,aU 5 x.2.2] h
def ub(e:TypeId)(H:List HP):ao H (aU e []::H):=ao.qt H
def P5(lb:Nat)(a:Option Addr)(H:List HP):ao (ae lb (cl [.slice a 0 0] 48)::H) (LI lb []::H):=by
 have h1:ao (ae lb (cl [.slice a 0 0] 48)::H) ([ae lb (cl [.slice a 0 0] 48),az 39 1 (.slice a 0 0) 0 [],aU 5 [] ]++H) :=
  ao.cons _ ((bO 39 1 a H).trans (ao.cons _ (ub 5 H)))
 exact h1.trans (ao.fold fun h hs=>⟨h,sub.refl h,(.slice a 0 0,[],[]),⟨rfl,fun j y hj=>by simp at hj⟩,hs⟩)
def Sq(lb:Nat)(ls:List (List UInt8))(x:List UInt8)(v rv:Value)(cs:List Value)(M M':fC)(hR:oh M cs ls)(hr:CT M' 1 rv x.length (bV x))(hs:∀y∈M,y∈M')(H:List HP) :
  ao (ae lb (cl [v] 48)::az 39 1 v (ls.length+1) (cs++[rv])::aU 5 M'::H) (LI lb (ls++[x])::H):=by
 refine ao.fold (B:=[ae lb (cl [v] 48),az 39 1 v (ls.length+1) (cs++[rv]),aU 5 M']) fun h hp=>⟨h,sub.refl h,(v,cs++[rv],M'),⟨by simp[hR.1],fun j y hj=>?_⟩,by simp only[List.length_append,List.length_singleton];exact hp⟩
 simp only
 rw[List.getElem?_append]at hj ⊢
 rw[hR.1]
 split at hj
 ·rename_i cW
  obtain⟨cv,h1,h2⟩:=hR.2 j y hj
  rw[if_pos cW]
  exact⟨cv,h1,h2.mono hs⟩
 ·rename_i fg
  rw[if_neg fg]
  have h0:j-ls.length=0:=by
   rcases Nat.eq_zero_or_pos (j-ls.length)with h|h
   ·exact h
   ·rw[List.getElem?_eq_none (by simp;omega)]at hj;cases hj
  rw[h0]at hj ⊢
  cases hj
  exact⟨rv,rfl,hr⟩
def JU(lb:Nat)(ls:List (List UInt8)):∀h,LI lb ls h→∃x:Value × List Value × fC,oh x.2.2 x.2.1 ls∧Sep [ae lb (cl [x.1] 48),az 39 1 x.1 ls.length x.2.1,aU 5 x.2.2] h:=fun h hs=>hs
def k7(v:Value)(ls:List (List UInt8)):HP:=fun h=>∃x:List Value × fC,oh x.2 x.1 ls∧Sep [az 39 1 v ls.length x.1,aU 5 x.2] h
def Ek{v:Value}{ls:List (List UInt8)}{cs:List Value}{M:fC}(hR:oh M cs ls)(H:List HP):ao (az 39 1 v ls.length cs::aU 5 M::H) (k7 v ls::H) :=
 ao.fold (B:=[az 39 1 v ls.length cs,aU 5 M]) fun h hp=>⟨h,sub.refl h,(cs,M),hR,hp⟩
def Hh(v:Value)(ls:List (List UInt8)):∀h,k7 v ls h→∃x:List Value × fC,oh x.2 x.1 ls∧Sep [az 39 1 v ls.length x.1,aU 5 x.2] h:=fun h hs=>hs
def oh.lat{v:Value}{ls:List (List UInt8)}{cs:List Value}{M:fC}(hR:oh M cs ls)(h0:∃h,az 39 1 v ls.length cs h):qv (Sep [az 39 1 v ls.length cs,aU 5 M]) v ls:=by
 have hv:=Vw.oR 39 1 v ls.length cs h0
 refine⟨cs,hv.mono (bh (i:=0) rfl),hR.1,?_,fun i x hx=>?_⟩
 ·obtain⟨h,hl,⟨a,rfl,hn,_⟩|⟨b,o,cap,pre,bR,rfl,hp,hn,hc,_⟩⟩:=h0
  ·exact⟨a,0,by rw[hn],ag⟩
  ·exact⟨_,cap,rfl,hn⟩
 ·obtain⟨cv,h1,h2⟩:=hR.2 i x hx
  obtain⟨a,c,ry,hc⟩:=h2.shape
  exact⟨cv,h1,(h2.view 5).mono (bh (i:=1) rfl),a,c,ry,hc⟩
section
variable{P:Program}{f:FuncId}{n:Nat}{R:Ending→World→Prop}{G:cI}{k:List Item}{L:fD}{H:List HP}
def TB{v:Value}{ls:List (List UInt8)}{cs:List Value}{M:fC}(i:Nat)(hR:oh M cs ls)(hi:cE H i=some (az 39 1 v ls.length cs))(h:qv (Sep [az 39 1 v ls.length cs,aU 5 M]) v ls→K P f n R G k L H):K P f n R G k L H :=
 rX fun⟨w,hw⟩=>by
  obtain⟨h1,_,hA⟩:=hw.lj hi
  exact h (hR.lat ⟨h1,hA⟩)
def aca{bd:Nat}{A:Ab}(i:Nat)(hi:cE H i=some (aD bd A))(h:(∃D,Rel D A)→K P f n R G k L H):K P f n R G k L H :=
 rX fun⟨w,hw⟩=>by
  obtain⟨h1,_,D,hR,_⟩:=hw.lj hi
  exact h ⟨D,hR⟩
end
def DW(A:Ab)(hR:∃D,Rel D A)(name:ByteArray)(at_ n:Int):(A.read name at_ n).1.length≤1048576:=by
 obtain⟨D,hR⟩:=hR
 unfold Ab.read
 split
 ·simp
 split
 ·simp
 ·rename_i f hf
  split
  ·simp
  ·have h1:(A.now f).length≤1048576:=by
    unfold Ab.now Ab.file
    cases h:A.fs.find? (fun x=>decide (x.1=f))with
    | none=>simp
    | some x =>
     have:=hR.gD x (List.mem_of_find?_eq_some h)
     simpa using this.1
   rw[List.length_take,List.length_drop];omega
end Go.Proofs.YtdigdgohdpeebaaGreatDoor
namespace Go.Proofs.YtdigdgohdpeebaaGreatDoor
open Go Go.SL
attribute [local irreducible] J K aE Ends ae az aQ bP bj aT aU bp bW aD LI k7
def fe(A:Ab)(name:ByteArray):List (List UInt8):=ck (fm (A.read name 0 (A.size name).1).1)
def ot(A:Ab)(name:ByteArray)(e:Nat)(A':Ab)(x:JN):Prop :=
 if ¬(isName name=true∧isName (bM name)=true)then e=1∧A'=A else if A.off then e=7∧A'=A
 else ∃y:PS,Ag name (fe A name) (A,0,0,0) e y∧A'=y.1∧x=⟨y.2.1,y.2.2.1,y.2.2.2,false⟩
def PZ(bd:Nat)(name:ByteArray)(A:Ab)(Jn:name.size≤1000000000)(cL:A.aw.length≤900000000)(qd:A.writes.length≤900000000) :
  aE Tryz.prog 64 [ptr bd,.string name] [aD bd A]
   (fun r H=>∃(e:Nat) (A':Ab) (x:JN),ot A name e A' x∧((e≠0∧r = .tuple #[.pointer none,.slice none 0 0,.int .i64 (e:Int)]∧H=[aD bd A']) ∨
    (e=0∧∃jb lv,r = .tuple #[ptr jb,lv,.int .i64 0]∧H=[aD bd A',rq jb bd name x,k7 lv (fe A name)]))):=by
 refine aE.au Tryz.func64 Tryz.ntmps64 fun G F R hE=>?_
 refine aca 0 rfl ?_
 intro adZ
 refine go ?_
 refine aO (I5 name) ?_
 cases h1:isName name with
 | false =>
  refine go ?_
  ((refine ad hE Tryz.func64 zr zr ⟨1,A,⟨0,0,0,false⟩,(by unfold ot;rw[if_pos (by simp[h1])];exact⟨rfl,rfl⟩),.inl ⟨ag,rfl,rfl⟩⟩))
 | true =>
 refine go ?_
 refine zy zr zr zr (by show name.size+4≤_;omega) ?_
 refine aB 25 (.string (bM name)) zr zr ?_
 ((refine go ?_;(refine aF (I5 (bM name)) ?_)))
 rintro _ _⟨rfl,rfl⟩
 cases h2:isName (bM name)with
 | false =>
  refine go ?_
  ((refine ad hE Tryz.func64 zr zr ⟨1,A,⟨0,0,0,false⟩,(by unfold ot;rw[if_pos (by simp[h2])];exact⟨rfl,rfl⟩),.inl ⟨ag,rfl,rfl⟩⟩))
 | true =>
 refine go ?_
 refine aO (P1 bd A) ?_
 cases h3:A.off with
 | true =>
  refine go ?_
  ((refine ad hE Tryz.func64 zr zr ⟨7,A,⟨0,0,0,false⟩,(by unfold ot;rw[if_neg (by simp[h1,h2]),if_pos h3];exact⟨rfl,rfl⟩),.inl ⟨ag,rfl,rfl⟩⟩))
 | false =>
 refine go ?_
 refine aO (ui bd A name) ?_
 refine go ?_
 refine aF (CR bd A name 0 (A.size name).1) ?_
 rintro _ _⟨rb,rfl,rfl⟩
 have EB:=DW A adZ name 0 (A.size name).1
 obtain⟨B,hB⟩:∃B,B=(A.read name 0 (A.size name).1).1:=⟨_,rfl⟩
 rw[← hB]at EB ⊢
 refine go ?_
 refine aN 1 rfl ?_
 rintro ra rc rfl
 refine gM (bs:=B) 1 rfl ?_
 intro MU
 refine aC zr zr zr bD ?_
 intro lb
 refine go ?_
 refine aF (LA _ _ B MU ag) ?_
 rintro fv _⟨hbf,rfl⟩
 obtain⟨fa,fc,rfl,hfc⟩:=hbf.2
 refine aF (DR fa (fm B).length fc) ?_
 rintro _ _⟨bx,rfl,rfl⟩
 have nX:(fm B).length≤1048576:=by
  unfold fm
  split
  ·simp
  ·rw[List.length_take,List.length_drop];omega
 refine go ?_
 obtain⟨rs,SX⟩:∃rs,rs=ck (fm B):=⟨_,rfl⟩
 have Dd:=pU (fm B)
 rw[← SX]at Dd
 refine iN rfl ?_
 refine ai (ao.trans (ao.pick [2] rfl) (P5 lb none _)) ?_
 refine wX (Fr:=aD bd A::F) (Pre:=fun _ _=>[ae bx (cl [.slice fa (fm B).length fc] 39),az 5 1 (.slice ra B.length rc) B.length (bV B),LI lb [] ]) (Post:=?Po) rfl hE.1.1 rfl ?c (fun l r=>ah) ?gP
 case c =>
  intro l r
  refine BY (az 5 1 (.slice ra B.length rc) B.length (bV B)) l bx _ (fm B) hbf ag _ (fun i=>LI lb ((ck (fm B)).take i)) ?_
  intro i x hx rv
  refine bW.Ea zr zr ?_
  intro G2 F2 R2 hY
  have lB:i<(ck (fm B)).length:=(List.getElem?_eq_some_iff.1 hx).1
  have uH:=(pU (fm B)).2.1
  have j8:(ck (fm B)).take (i+1)=(ck (fm B)).take i++[x]:=by rw[List.take_add_one,hx];rfl
  have tJ:((ck (fm B)).take i).length≤(fm B).length:=by rw[List.length_take];omega
  simp only[j8]at hY
  generalize (ck (fm B)).take i=ts at tJ hY ⊢
  refine go ?_
  refine gl rfl hY ?_
  refine ai (ao.pick [1] rfl) ?_
  refine er (JU lb ts) ?_
  rintro⟨lv,cs,M⟩ hR
  refine ai (ao.trans (ao.pick [4,2] rfl) (ao.join _ _ _)) ?_
  refine er (xQ 5 1 x.length rv (bV x) M) ?_
  rintro M'⟨Qz,ef⟩
  obtain⟨xa,xc,rfl,hxc⟩:=Qz.shape
  refine dg 2 rfl ?_
  intro la lc Ta
  simp only at Ta
  subst Ta
  refine go ?_
  refine aj zr zr zr zr zr zr zr zr zr bD ?_
  intro row
  refine go ?_
  refine aR (mm:=1) (news:=[.slice xa x.length xc]) 3 0 zr zr zr zr zr zr zr zr zr zr zr zr (Vw.ae rfl) rfl (by simp[Value.oneCell']) ag (by show(_+1)*24≤_;omega) (fun _=>rfl) bD ?_
  intro v1
  refine aN 3 rfl ?_
  rintro va vc rfl
  refine go ?_
  refine ai (ao.trans ah (Sq lb ts x _ (.slice xa x.length xc) cs M M' hR Qz ef _)) ?_
  refine fK hY rfl ah ⟨rfl,rfl⟩
 intro l r v H fJ
 obtain⟨v',rfl⟩:=fJ
 refine⟨_,_,_,rfl,by decide,?_⟩
 rw[hE.1.2,List.take_length,← SX]
 refine ai (ao.pick [2] rfl) ?_
 refine er (JU lb rs) ?_
 rintro⟨lv,cs,M⟩ hR
 refine dg 1 rfl ?_
 intro la lc Ta
 simp only at Ta
 subst Ta
 simp only at hR
 refine TB 1 hR rfl ?_
 intro mW
 refine go ?_
 refine bG zr zr bD ?_
 intro jb
 refine go ?_
 have tK:=IX jb bd name 0 0 0 false A (Sep [az 39 1 (.slice la rs.length lc) rs.length cs,aU 5 M]) (.slice la rs.length lc) rs mW ag ag Jn cL qd
 refine fq zr zr zr zr tK (ao.trans ah (ao.cons (aD bd A) (ao.cons (jr jb bd name 0 0 0 false) (ao.bS [az 39 1 (.slice la rs.length lc) rs.length cs,aU 5 M] _)))) ?_ mO
 rintro _ _⟨e,y,rfl,rfl,SY⟩
 have ml:fe A name=rs:=by rw[SX,hB];rfl
 have k9:ot A name e y.1 ⟨y.2.1,y.2.2.1,y.2.2.2,false⟩:=by
  unfold ot
  rw[if_neg (by simp[h1,h2]),if_neg (by rw[h3];simp),ml]
  exact⟨y,SY,rfl,rfl⟩
 rw[ml]at hE
 refine go ?_
 refine aq zr zr ?_ ?_
 ·intro bZ
  have fR:e≠0:=by omega
  refine go ?_
  refine rk hE Tryz.func64 rfl _ rfl ⟨e,_,_,k9,.inl ⟨fR,rfl,rfl⟩⟩ ah
 ·intro heq
  have o4:e=0:=by omega
  subst o4
  refine go ?_
  refine aH (fun w=>Sat G w ([ae lb (cl [.slice la rs.length lc] 48)])) (df 0 5 .nil) rfl ak ak ak eo ?_
  refine go ?_
  refine ai (ao.trans (ao.pick [2] rfl) (ao.cJ [az 39 1 (.slice la rs.length lc) rs.length cs,aU 5 M] _)) ?_
  refine ai (Ek hR _) ?_
  refine rk hE Tryz.func64 rfl _ rfl ⟨0,_,_,k9,.inr ⟨rfl,jb,_,rfl,rfl⟩⟩ ah
end Go.Proofs.YtdigdgohdpeebaaGreatDoor
namespace Go.Proofs.YtdigdgohdpeebaaGreatDoor
open Go Go.SL
variable{A A' B:Ab}{n nm:ByteArray}{b:List UInt8}{e f k:Nat}{D:Nat→Prop}
def qP(hn:isName nm=true)(at_:Nat)(b:List UInt8)(h:at_+b.length≤1048576):fX nm (at_:Int) b=true:=by
 unfold fX
 rw[hn]
 simp
 omega
def CH{C:List UInt8}{n c:Int}{s:Nat}(h:HA A)(hn:isName nm=true)(hv:vw A nm=some C)(hb:b.length≤4096)(yC:s+(aZ b).length≤524288)(hr:A.used+(32+s+(aZ b).length)≤A.room) :
  (cU nm A ⟨n,s,c,false⟩ b).1=0∧HA (cU nm A ⟨n,s,c,false⟩ b).2.1∧vw (cU nm A ⟨n,s,c,false⟩ b).2.1=eK (vw A) nm (some (bN C (32+s) (aZ b)))∧(cU nm A ⟨n,s,c,false⟩ b).2.1.room=A.room ∧
   (cU nm A ⟨n,s,c,false⟩ b).2.2=⟨n,((s+(aZ b).length:Nat):Int),c,false⟩:=by
 have hw:fX nm (32+(s:Int)) (aZ b)=true:=by
  have:=qP hn (32+s) (aZ b) ag
  simpa using this
 have ht:(32+(s:Int)).toNat=32+s:=by omega
 obtain⟨h0,h1,h2,h3⟩:=h.uK hv (32+s) (aZ b) ag (B:=(A.write true nm (32+s) (aZ b)).2) (e:=(A.write true nm (32+s) (aZ b)).1) rfl
 unfold cU
 simp only[Bool.false_eq_true,if_false]
 rw[if_neg ag,if_neg ag,hw,ht,if_pos h0]
 exact⟨rfl,h1,h2,h3,by simp⟩
def Cy{C:List UInt8}{n c:Int}{s:Nat}{x':JN}(h:HA A)(hn:isName nm=true)(hv:vw A nm=some C)(RA:0≤n)(S6:n<1073741824)(hr:A.used+32≤A.room)(hR:j7 nm A ⟨n,s,c,false⟩ e A' x') :
  e=0∧HA A'∧(∃C',vw A'=eK (vw A) nm (some C')∧C'.length≤max C.length 32)∧A'.room=A.room∧∃n' c',x'=⟨n',s,c',false⟩∧n≤n'∧n'≤n+1:=by
 unfold j7 at hR
 simp only[Bool.false_eq_true,if_false]at hR
 by_cases Qx:(s:Int)=c
 ·rw[if_pos Qx]at hR
  obtain⟨rfl,rfl,rfl⟩:=hR
  exact⟨rfl,h,⟨C,(IP hv).symm,Nat.le_max_left _ _⟩,rfl,n,c,rfl,ag,ag⟩
 rw[if_neg Qx,if_neg ag]at hR
 obtain⟨y,fU,rfl,rfl⟩:=hR
 obtain⟨e1,x1,⟨⟨Cm,yL⟩,h1c⟩,c1⟩:=fU
 rw[hn]at Cm yL
 obtain⟨g0,g1,g2,g3⟩:=h.xB hv (B:=x1.1) (e:=e1) (by rw[Cm,yL])
 subst g0
 rcases c1 with⟨bZ,_⟩|⟨_,e2,x2,⟨⟨Lv,vY⟩,h2c⟩,c2⟩
 ·exact absurd rfl bZ
 obtain⟨nx,px⟩:∃nx,nx=n.toNat+1:=⟨_,rfl⟩
 rw[← px]at Lv vY
 have hhl:=fY nx s
 rw[show((s:Int)).toNat=s from by omega]at Lv vY
 have hw:fX nm ((nx%2*16:Nat):Int) (cd nx s)=true:=qP hn _ _ ag
 rw[hw]at Lv vY
 have hu:x1.1.used=A.used:=by rw[jQ g1,jQ h,g2];exact xu El (g2 ▸ g1.BK) h.BK
 obtain⟨k0,k1,k2,k3⟩:=g1.uK (nm:=nm) (c:=C) (by rw[g2];exact hv) (nx%2*16) (cd nx s) (by rw[hu,g3];omega) (B:=x2.1) (e:=e2) (by rw[Lv,vY])
 subst k0
 rcases c2 with⟨bZ,_⟩|⟨_,e3,x3,⟨⟨HH,A9⟩,Y2⟩,c3⟩
 ·exact absurd rfl bZ
 rw[hn]at HH A9
 obtain⟨m0,m1,m2,m3⟩:=k1.xB (nm:=nm) (c:=bN C (nx%2*16) (cd nx s)) (by rw[k2,dp]) (B:=x3.1) (e:=e3) (by rw[HH,A9])
 subst m0
 rcases c3 with⟨bZ,_⟩|⟨_,e4,x4,⟨Gp,E5⟩,c4⟩
 ·exact absurd rfl bZ
 subst Gp
 rcases c4 with⟨bZ,_⟩|⟨_,he,hy⟩
 ·exact absurd rfl bZ
 subst he
 have sC:x3.2=(n,(s:Int),c):=by rw[Y2,h2c,h1c]
 rw[hy,E5]
 simp only
 rw[sC]
 refine⟨trivial,m1,⟨_,by rw[m2,k2,g2],by rw[fE,hhl];omega⟩,by rw[m3,k3,g3],_,_,rfl,ag,ag⟩
def ya{x:JN}(h:HA A)(hn:isName nm=true)(hf:isName (bM nm)=true)(bZ:bM nm≠nm)(hv:vw A nm=none)(Hm:vw A (bM nm)=none)(hl:A.names.length<200)(hr:A.used+32≤A.room)(hR:ot A nm e A' x) :
  e=0∧HA A'∧vw A'=eK (vw A) nm (some (cf []))∧A'.room=A.room∧x=⟨1,0,0,false⟩∧fe A nm=[]:=by
 have nX:fe A nm=[]:=by
  have oB:A.look nm=none:=by
   unfold vw at hv
   cases hx:A.look nm with
   | none=>rfl
   | some f=>rw[hx]at hv;cases hv
  have vW:(A.read nm 0 (A.size nm).1).1=[]:=by
   unfold Ab.read
   rw[if_neg (by rw[h.on];simp),oB]
  unfold fe
  rw[vW]
  rfl
 unfold ot at hR
 rw[if_neg (by rw[hn,hf];simp),if_neg (by rw[h.on];simp),nX]at hR
 obtain⟨y,fU,rfl,rfl⟩:=hR
 unfold Ag gF at fU
 have iY:(A.size (bM nm)).2=4:=by
  have oB:A.look (bM nm)=none:=by
   unfold vw at Hm
   cases hx:A.look (bM nm)with
   | none=>rfl
   | some f=>rw[hx]at Hm;cases Hm
  unfold Ab.size
  rw[oB]
 simp only[iY]at fU
 rw[if_neg ag,List.nil_append]at fU
 have eQ:(cf []).length=32:=by unfold cf;simp[fY]
 obtain⟨e1,x1,⟨⟨f,h1f,Cm,yL⟩,h1c⟩,c1⟩:=fU
 rw[hf]at Cm yL
 obtain⟨g0,g1,g2,g3⟩:=h.JH Hm hl h1f (B:=x1.1) (e:=e1) (by rw[Cm,yL])
 subst g0
 rcases c1 with⟨fR,_⟩|⟨_,e2,x2,⟨⟨Lv,vY⟩,h2c⟩,c2⟩
 ·exact absurd rfl fR
 have hw:fX (bM nm) 0 (cf [])=true:=by
  have:=qP hf 0 (cf []) ag
  simpa using this
 rw[hw]at Lv vY
 obtain⟨hu,EF⟩:=h.pJ g1 Hm g2
 obtain⟨k0,k1,k2,k3⟩:=g1.uK (nm:=bM nm) (c:=[]) (by rw[g2,dp]) 0 (cf []) (by rw[hu,g3];simp only[List.length_nil];omega) (B:=x2.1) (e:=e2) (by rw[Lv,vY])
 subst k0
 rcases c2 with⟨fR,_⟩|⟨_,e3,x3,⟨⟨HH,A9⟩,Y2⟩,c3⟩
 ·exact absurd rfl fR
 rw[hf]at HH A9
 have qd:bN [] 0 (cf [])=cf []:=by unfold bN;simp
 rw[qd]at k2
 obtain⟨m0,m1,m2,m3⟩:=k1.xB (nm:=bM nm) (c:=cf []) (by rw[k2,dp]) (B:=x3.1) (e:=e3) (by rw[HH,A9])
 subst m0
 rcases c3 with⟨fR,_⟩|⟨_,e4,x4,⟨⟨Gp,E5⟩,h4c⟩,c4⟩
 ·exact absurd rfl fR
 have gp:[bM nm,nm].all isName=true:=by simp[hf,hn]
 rw[gp]at Gp E5
 obtain⟨p0,p1,p2,p3⟩:=m1.IT (o:=bM nm) (n:=nm) (c:=cf []) bZ (by rw[m2,k2,dp]) (by rw[m2,k2,dH _ _ (fun e=>bZ e.symm),g2,dH _ _ (fun e=>bZ e.symm)];exact hv) (B:=x4.1) (e:=e4) (by rw[Gp,E5])
 subst p0
 rcases c4 with⟨fR,_⟩|⟨_,e5,x5,⟨⟨RW,RV⟩,h5c⟩,c5⟩
 ·exact absurd rfl fR
 obtain⟨q0,q1,q2,q3⟩:=p1.xC (B:=x5.1) (e:=e5) (by rw[RW,RV])
 subst q0
 rcases c5 with⟨fR,_⟩|⟨_,e6,x6,⟨Y1,X1⟩,c6⟩
 ·exact absurd rfl fR
 subst Y1
 rcases c6 with⟨fR,_⟩|⟨_,he,hy⟩
 ·exact absurd rfl fR
 subst he
 rw[hy,X1]
 simp only
 refine⟨trivial,q1,?_,by rw[q3,p3,m3,k3,g3],by simp,nX⟩
 rw[q2,p2,m2,k2,g2]
 funext m
 unfold eK
 by_cases h1:m=nm
 ·simp[h1]
 ·by_cases h2:m=bM nm
  ·rw[if_neg h1,if_neg h1,if_pos h2,h2];exact Hm.symm
  ·simp[h1,h2]
def ed:isName cS=true:=by decide +kernel
def jF:isName (bM cS)=true:=by decide +kernel
def oP:bM cS≠cS:=by decide +kernel
def Pd(k:List UInt8):jG k cS=none:=by
 cases h:jG k cS with
 | none=>rfl
 | some d=>exact absurd (q9.1 h).symm (gT k d)
def Oo(c:List UInt8):rp cS c=0:=by unfold rp;rw[Pd];rfl
abbrev SJ:=e8 × JN
def dZ(R:e8→Nat→e8→Prop)(x:SJ)(e:Nat)(y:SJ):Prop:=R x.1 e y.1∧y.2=x.2
def xK(b:List UInt8)(x:SJ)(e:Nat)(y:SJ):Prop:=e=(cU cS x.1.A x.2 b).1∧y=(⟨(cU cS x.1.A x.2 b).2.1,x.1.bq,x.1.brk⟩,(cU cS x.1.A x.2 b).2.2)
def Dz(x:SJ)(e:Nat)(y:SJ):Prop:=∃A' x',j7 cS x.1.A x.2 e A' x'∧y=(⟨A',x.1.bq,x.1.brk⟩,x')
def jD(b:List UInt8):List (SJ→Nat→SJ→Prop):=[xK b,Dz]
def J8(c:List UInt8)(a:Nat)(b:List UInt8)(j:Nat)(h1:a≤j)(h2:j<a+b.length):(bN c a b)[j]?=b[j-a]? := by
 unfold bN
 have hl:((c++List.replicate (a+b.length-c.length) (0:UInt8)).take a).length=a:=by rw[List.length_take,List.length_append,List.length_replicate];omega
 simp only
 rw[List.append_assoc,List.getElem?_append_right (by rw[hl];exact h1),hl,List.getElem?_append_left ag]
def Gr{c:List UInt8}{a:Nat}{j:Nat}{v:UInt8}(hc:c[j]?=some v)(h:j<a∨a+b.length≤j):(bN c a b)[j]?=some v:=by
 unfold bN
 have hj:=(List.getElem?_eq_some_iff.1 hc).1
 have hl:((c++List.replicate (a+b.length-c.length) (0:UInt8)).take a).length=a:=by rw[List.length_take,List.length_append,List.length_replicate];omega
 simp only
 rcases h with h|h
 ·rw[List.append_assoc,List.getElem?_append_left (by rw[hl];exact h),List.getElem?_take,if_pos h,List.getElem?_append_left hj]
  exact hc
 ·rw[List.getElem?_append_right (by rw[List.length_append,hl];exact h),List.getElem?_drop,List.length_append,hl]
  rw[show a+b.length+(j-(a+b.length))=j from by omega,List.getElem?_append_left hj]
  exact hc
def m6{x:Bl}{k a n:Int}(h:dJ x k=some (a,n)):0≤a∧1≤n∧a+n≤x.size∧0≤k∧k<cq x∧a=k*x.piece∧n=min x.piece (x.size-a)∧bF x=true:=by
 unfold dJ at h
 split at h
 ·cases h
 rename_i cW
 obtain⟨hr,h0,h1⟩:=wH (x:=x) (i:=k) ag ag
 injection h with h
 injection h with ha hn
 have SX:=hr
 simp only[bF,decide_eq_true_eq]at SX
 exact⟨ag,ag,ag,ag,ag,ha.symm,by rw[← hn,← ha],hr⟩
def sK{x:Bl}{s t:e8}(h:ki x s e t):iM 1 s t:=by
 unfold ki at h
 split at h
 ·exact h.2 ▸ iM.refl _ _
 ·exact nZ (fun sp iQ A e B hh=>by
   simp only[List.mem_cons,List.not_mem_nil,or_false]at iQ
   subst iQ
   exact nf hh) h
def SJg(n:Nat)(x y:SJ):Prop:=y.1.A.aw.length≤x.1.A.aw.length+n∧y.1.A.writes.length≤x.1.A.writes.length+n
def ud(A:Ab)(nm:ByteArray)(x:JN)(b:List UInt8):(cU nm A x b).2.1.aw.length≤A.aw.length+1∧(cU nm A x b).2.1.writes.length≤A.writes.length+1:=by
 have hw:=kA A (fX nm (32+x.s) (aZ b)) nm (32+x.s).toNat (aZ b)
 obtain⟨h1,h2⟩:=hw
 unfold cU
 split
 ·exact⟨by simp only;omega,by simp only;omega⟩
 split
 ·exact⟨by simp only;omega,by simp only;omega⟩
 split
 ·exact⟨by simp only;omega,by simp only;omega⟩
 split
 ·exact⟨h1,h2⟩
 ·exact⟨h1,h2⟩
def C5{x x':JN}(h:j7 nm A x e A' x'):A'.aw.length≤A.aw.length+4∧A'.writes.length≤A.writes.length+4:=by
 unfold j7 at h
 split at h
 ·obtain⟨_,rfl,_⟩:=h;omega
 split at h
 ·obtain⟨_,rfl,_⟩:=h;omega
 split at h
 ·obtain⟨_,rfl,_⟩:=h;omega
 obtain⟨y,⟨e1,x1,⟨⟨Cm,yL⟩,_⟩,c1⟩,rfl,_⟩:=h
 have g1:=kC A (isName nm) nm
 rw[← yL]at g1
 rcases c1 with⟨_,_,rfl⟩|⟨_,e2,x2,⟨⟨Lv,vY⟩,_⟩,c2⟩
 ·obtain⟨a,b⟩:=g1;omega
 have g2:=kA x1.1 (fX nm (((x.n.toNat+1)%2*16:Nat):Int) (cd (x.n.toNat+1) x.s.toNat)) nm ((x.n.toNat+1)%2*16) (cd (x.n.toNat+1) x.s.toNat)
 rw[← vY]at g2
 rcases c2 with⟨_,_,rfl⟩|⟨_,e3,x3,⟨⟨HH,A9⟩,_⟩,c3⟩
 ·obtain⟨a,b⟩:=g1;obtain⟨c,d⟩:=g2;omega
 have g3:=kC x2.1 (isName nm) nm
 rw[← A9]at g3
 obtain⟨a,b⟩:=g1
 obtain⟨c,d⟩:=g2
 obtain⟨e',f'⟩:=g3
 rcases c3 with⟨_,_,rfl⟩|⟨_,e4,x4,⟨Gp,E5⟩,c4⟩
 ·omega
 have h41:x4.1=x3.1:=by rw[E5]
 rcases c4 with⟨_,_,rfl⟩|⟨_,_,rfl⟩
 ·rw[h41];omega
 ·rw[h41];omega
def AP{x y:SJ}(h:iA (jD b) x e y):SJg 5 x y:=by
 obtain⟨e1,x1,⟨Cm,yL⟩,c1⟩:=h
 have g1:=ud x.1.A cS x.2 b
 have RY:x1.1.A=(cU cS x.1.A x.2 b).2.1:=by rw[yL]
 rw[← RY]at g1
 obtain⟨a,b⟩:=g1
 rcases c1 with⟨_,_,rfl⟩|⟨_,e2,x2,⟨A',x',hc,h2⟩,c2⟩
 ·exact⟨ag,ag⟩
 have g2:=C5 hc
 have h21:x2.1.A=A':=by rw[h2]
 rw[← h21]at g2
 obtain⟨c,d⟩:=g2
 rcases c2 with⟨_,_,rfl⟩|⟨_,_,rfl⟩ <;> exact⟨ag,ag⟩
def k6{l:Nms}(h:Ab.cM l nm=some f):(nm,f)∈l:=gG (A:=⟨0,[],l,[],[],[],false⟩) h
def Q5{l:Nms}(hn:(l.map (·.1)).Nodup)(ho:(l.map (·.2)).Nodup){a b:ByteArray}(ha:Ab.cM l a=some f)(hb:Ab.cM l b=some f):a=b :=
 HA.Q6 (A:=⟨0,l.map fun x=>(x.2,[],[]),l,[],[],[],false⟩) ⟨rfl,rfl,hn,ho,by simpa[Function.comp_def]using ho,fun x hx=>by simp only[List.map_map,Function.comp_def];exact List.mem_map.2 ⟨x,hx,rfl⟩⟩ ha hb
structure Nz(k:Nat)(A:Ab)(N0:Nms):Prop where
 keys:(N0.map (·.1)).Nodup
 own:(N0.map (·.2)).Nodup
 known:∀x∈N0,x.2∈A.fs.map (·.1)
 hold:∀n f,A.look n=some f→Ab.cM N0 n=some f
 more:∀n f,Ab.cM N0 n=some f→A.look n=some f∨(∃d,n=iz d)∧(A.now f).length≤1000
 Y4:N0.length≤k
structure Cd(k:Nat)(A:Ab)(D:Nat→Prop):Prop where
 wr:∀w∈A.writes,D w.1
 cl:∀f∈A.fs.map (·.1),¬D f→(A.file f).2=(A.file f).1
 st:∃N0 rest,A.aw=N0::rest∧Nz k A N0
abbrev Cz(k:Nat)(A:Ab):Prop:=Cd k A (fun _=>False)
def Cd.mono{E:Nat→Prop}(h:Cd k A D)(hDE:∀f,D f→E f){j:Nat}(hk:k≤j):Cd j A E :=
  ⟨fun w hw=>hDE _ (h.wr w hw),fun f hf hd=>h.cl f hf (fun x=>hd (hDE f x)),by
    obtain⟨N0,rest,h1,h2⟩:=h.st
    exact⟨N0,rest,h1,⟨h2.keys,h2.own,h2.known,h2.hold,h2.more,by have:=h2.Y4;omega⟩⟩⟩
def Cd.one{A:Ab}(h:HA A)(hs:A.aw=[A.names])(hw:∀w∈A.writes,D w.1)(hc:∀f∈A.fs.map (·.1),¬D f→(A.file f).2=(A.file f).1)(hk:A.names.length≤k):Cd k A D :=
 ⟨hw,hc,A.names,[],hs,⟨h.keys,h.own,h.known,fun _ _ h=>h,fun _ _ h => .inl h,hk⟩⟩
def Cz.new(room:Nat):Cz 0 (Ab.new room):=Cd.one (HA.new room) rfl (fun w h=>by cases h) (fun f h=>by cases h) (Nat.zero_le _)
def Cd.file(h:Cd k A D)(hA:HA A)(hf:A.look n=some f):f∈A.fs.map (·.1):=hA.known _ (gG hf)
def Cd.write{at_:Nat}(h:Cd k A D)(hA:HA A)(hw:fL n at_ b A 0 B):∃f,A.look n=some f∧B.look n=some f∧Cd k B (fun g=>D g∨g=f):=by
 rcases vC hw with⟨bZ,_⟩|⟨_,f,hf,hn,hs,mS,qd⟩
 ·exact absurd rfl bZ
 have hfm:=h.file hA hf
 have hid:B.fs.map (·.1)=A.fs.map (·.1):=Jc mS
 have oB:∀m,B.look m=A.look m:=fun m=>by unfold Ab.look;rw[hn]
 obtain⟨N0,rest,h1,h2⟩:=h.st
 refine⟨f,hf,(oB n).trans hf,fun w hw=>?_,fun g hg hd=>?_,N0,rest,by rw[hs];exact h1,h2.keys,h2.own,fun x hx=>by rw[hid];exact h2.known x hx,fun m g hg=>h2.hold m g (by rw[← oB];exact hg),fun m g hg=>?_,h2.Y4⟩
 ·rw[qd,List.mem_append,List.mem_singleton]at hw
  rcases hw with hw|rfl
  ·exact .inl (h.wr w hw)
  ·exact .inr rfl
 ·rw[hid]at hg
  rw[yQ mS hg,if_neg (fun e=>hd (.inr e))]
  exact h.cl g hg (fun x=>hd (.inl x))
 ·rw[oB]
  rcases h2.more m g hg with hm|⟨hd,hl⟩
  ·exact .inl hm
  ·by_cases EI:g=f
   ·left
    have h3:=h2.hold n f hf
    rw[← EI]at h3 hf
    have:=Q5 h2.keys h2.own hg h3
    rw[this];exact hf
   ·right
    refine⟨hd,?_⟩
    unfold Ab.now
    rw[yQ mS (h2.known _ (k6 hg)),if_neg EI]
    exact hl
def Cd.sync(h:Cd k A D)(hA:HA A)(hs:fj n A 0 B):∃f,A.look n=some f∧B.look n=some f∧Cd k B (fun g=>D g∧g≠f):=by
 rcases xA hs with⟨bZ,_⟩|⟨_,f,hf,hn,cL,mS,qd⟩
 ·exact absurd rfl bZ
 have hid:B.fs.map (·.1)=A.fs.map (·.1):=Eu mS
 have oB:∀m,B.look m=A.look m:=fun m=>by unfold Ab.look;rw[hn]
 obtain⟨N0,rest,h1,h2⟩:=h.st
 refine⟨f,hf,(oB n).trans hf,fun w hw=>?_,fun g hg hd=>?_,N0,rest,by rw[cL];exact h1,h2.keys,h2.own,fun x hx=>by rw[hid];exact h2.known x hx,fun m g hg=>h2.hold m g (by rw[← oB];exact hg),fun m g hg=>?_,h2.Y4⟩
 ·rw[qd,List.mem_filter]at hw
  exact⟨h.wr w hw.1,by simpa using hw.2⟩
 ·rw[hid]at hg
  rw[vd mS hg]
  by_cases EI:g=f
  ·rw[if_pos EI]
  ·rw[if_neg EI]
   exact h.cl g hg (fun x=>hd ⟨x,EI⟩)
 ·rw[oB]
  rcases h2.more m g hg with hm|⟨hd,hl⟩
  ·exact .inl hm
  ·refine .inr ⟨hd,?_⟩
   unfold Ab.now
   rw[vd mS (h2.known _ (k6 hg))]
   split <;> exact hl
def Cz.put{C:Ab}{at_:Nat}(h:Cz k A)(hA:HA A)(hB:HA B)(hw:fL n at_ b A 0 B)(hs:fj n B 0 C):Cz k C:=by
 obtain⟨f,h1,h2,h3⟩:=h.write hA hw
 obtain⟨g,h4,h5,h6⟩:=h3.sync hB hs
 rw[h2]at h4
 injection h4 with h4
 exact h6.mono (fun x hx=>by rcases hx with⟨hx|hx,hy⟩;exact hx;exact hy (hx.trans h4)) (Nat.le_refl _)
def Cz.WK(h:Cz k A)(hA:HA A)(hs:fj n A 0 B):Cz k B:=by
 obtain⟨g,h4,h5,h6⟩:=h.sync hA hs
 exact h6.mono (fun x hx=>hx.1) (Nat.le_refl _)
def Cd.remove{d:Dg}{c:List UInt8}(h:Cd k A D)(hA:HA A)(hv:vw A (iz d)=some c)(hc:c.length≤1000)(hs:jg (iz d) A 0 B):Cd k B D:=by
 rcases BX hs with⟨bZ,_⟩|⟨_,⟨f,hf⟩,hn,cL,mS,qd,_⟩
 ·exact absurd rfl bZ
 have oB:∀m,B.look m=if m=iz d then none else A.look m:=fun m=>by
  unfold Ab.look
  rw[hn,nQ]
 obtain⟨N0,rest,h1,h2⟩:=h.st
 refine⟨fun w hw=>h.wr w (qd ▸ hw),fun g hg hd=>by rw[tV mS];exact h.cl g (mS ▸ hg) hd,N0,rest++[Ab.dE A.names (iz d)],by rw[cL,h1];rfl,h2.keys,h2.own,fun x hx=>by rw[mS];exact h2.known x hx,fun m g hg=>?_,fun m g hg=>?_,h2.Y4⟩
 ·rw[oB]at hg
  by_cases hm:m=iz d
  ·rw[if_pos hm]at hg;cases hg
  ·rw[if_neg hm]at hg;exact h2.hold m g hg
 ·have jN:B.now g=A.now g:=by unfold Ab.now;rw[tV mS]
  rw[oB,jN]
  rcases h2.more m g hg with hm|hr
  ·by_cases he:m=iz d
   ·right
    refine⟨⟨d,he⟩,?_⟩
    unfold vw at hv
    rw[← he,hm]at hv
    injection hv with hv
    rw[hv];exact hc
   ·rw[if_neg he];exact .inl hm
  ·exact .inr hr
def Cz.dA(h:Cz k A)(hA:HA A):HA (A.dA 0 [] (-1) 0)∧Cz k (A.dA 0 [] (-1) 0)∧(A.dA 0 [] (-1) 0).room=A.room∧(A.dA 0 [] (-1) 0).names.length≤k∧(A.dA 0 [] (-1) 0).aw.length=1∧(A.dA 0 [] (-1) 0).writes=[] ∧
  (∀n c,vw A n=some c→vw (A.dA 0 [] (-1) 0) n=some c)∧∀n c,vw (A.dA 0 [] (-1) 0) n=some c→vw A n=some c∨(∃d,n=iz d)∧c.length≤1000:=by
 obtain⟨N0,rest,h1,h2⟩:=h.st
 have lG:(A.dA 0 [] (-1) 0).names=N0:=by
  simp only[Ab.dA,h1,List.length_cons]
  rw[show(max 0 (min (0:Int) (((rest.length+1:Nat):Int)-1))).toNat=0 by omega]
  rfl
 have cL:(A.dA 0 [] (-1) 0).aw=[(A.dA 0 [] (-1) 0).names]:=rfl
 have EH:(A.dA 0 [] (-1) 0).fs.map (·.1)=A.fs.map (·.1):=by
  simp only[Ab.dA]
  rw[wK _ _ (fun x=>by split <;> rfl),tI]
 have ml:∀n f,Ab.cM N0 n=some f→(A.dA 0 [] (-1) 0).file f=A.file f:=fun n f hf=>by
  refine(HU 0 [] (-1) 0 (h2.known _ (k6 hf)) ?_).2 ⟨h.cl f (h2.known _ (k6 hf)) (fun x=>x),fun w hw=>absurd (h.wr w hw) (fun x=>x)⟩
  unfold Ab.reach
  rw[List.mem_flatMap]
  exact⟨N0,by rw[lG];simp,List.mem_map.2 ⟨_,k6 hf,rfl⟩⟩
 have hB:HA (A.dA 0 [] (-1) 0):=⟨rfl,rfl,by rw[lG];exact h2.keys,by rw[lG];exact h2.own,by rw[EH];exact hA.ids,fun x hx=>by rw[EH];rw[lG]at hx;exact h2.known x hx⟩
 have oB:∀m,(A.dA 0 [] (-1) 0).look m=Ab.cM N0 m:=fun m=>by unfold Ab.look;rw[lG]
 refine⟨hB,Cd.one hB cL (fun w hw=>by cases hw) (fun f hf _=>?_) (by rw[lG];exact h2.Y4),rfl,by rw[lG];exact h2.Y4,rfl,rfl,fun n c hc=>?_,fun n c hc=>?_⟩
 ·rw[EH]at hf
  obtain⟨x,hx,hxf⟩:=yO hf
  have hl:Ab.jE [] (-1) 0 0 A.writes A.fs=A.fs:=by
   cases hw:A.writes with
   | nil=>rfl
   | cons w l=>exact absurd (h.wr w (by rw[hw];simp)) (fun x=>x)
  have hc:=h.cl f hf (fun x=>x)
  have hAf:A.file f=x.2:=by unfold Ab.file;rw[hx];rfl
  rw[hAf]at hc
  have:(A.dA 0 [] (-1) 0).file f=x.2:=by
   simp only[Ab.dA,hl]
   unfold Ab.file
   simp only
   rw[kR _ (fun x=>by split <;> rfl),hx]
   simp only[Option.map_some,Option.getD_some]
   split
   ·exact Prod.ext hc rfl
   ·rfl
  rw[this];exact hc
 ·unfold vw at hc ⊢
  rw[oB]
  cases hl:A.look n with
  | none=>rw[hl]at hc;cases hc
  | some f =>
   rw[hl]at hc
   have hh:=h2.hold n f hl
   rw[hh]
   rw[← hc]
   simp only[Option.map_some]
   unfold Ab.now
   rw[ml n f hh]
 ·unfold vw at hc ⊢
  rw[oB]at hc
  cases hl:Ab.cM N0 n with
  | none=>rw[hl]at hc;cases hc
  | some f =>
   rw[hl]at hc
   simp only[Option.map_some,Option.some.injEq]at hc
   have jN:(A.dA 0 [] (-1) 0).now f=A.now f:=by unfold Ab.now;rw[ml n f hl]
   rw[jN]at hc
   rcases h2.more n f hl with hm|⟨hd,hlen⟩
   ·left;rw[hm,← hc];rfl
   ·right;exact⟨hd,by rw[← hc];exact hlen⟩
def oz(name:ByteArray)(A:Ab)(x:JN)(ls:List (List UInt8))(e:Nat)(A':Ab)(x':JN):Prop :=
 if x.br then e=10∧A'=A∧x'=x else if ls.any (fun b=>decide (4096<b.length))then e=1∧A'=A∧x'=x else if 524288<(ls.flatMap aZ).length then e=3∧A'=A∧x'=x
 else ∃y:PS,Ag name ls (A,x.n,x.s,x.c) e y∧A'=y.1∧x'=⟨y.2.1,y.2.2.1,y.2.2.2,decide (e≠0)⟩
end Go.Proofs.YtdigdgohdpeebaaGreatDoor
