import Derived.Test.YtedjnjkijiddlaaGreatDoorQPT3
import Derived.Test.YtedjnjkijiddlaaGreatDoorQPT4
import Derived.Test.YtedjnjkijiddlaaGreatDoorQPT5
import Derived.Test.YtedjnjkijiddlaaGreatDoorQPT6
import Derived.Test.YtedjnjkijiddlaaGreatDoorQPT9
set_option linter.unusedSimpArgs false
set_option linter.unusedVariables false
set_option maxRecDepth 20000
set_option linter.defProp false
namespace Go.Proofs.YtedjnjkijiddlaaGreatDoor
open Go Go.SL
variable{bs:List UInt8}{k n:Nat}
attribute [local irreducible] J K aE Ends ae aB aP bP bq aS aZ bu
def qu(A:HP)(v:Value)(bs:List UInt8)(hv:eM A v bs)(hl:bs.length≤1000000000000):aE Tryz.prog 140 [v] [A] (fun r H=>H=[aB 5 1 r (aV bs).length (bV (aV bs)),A]):=by
 obtain⟨a,c,rfl,hc⟩:=hv.2
 refine aE.ao Tryz.func140 Tryz.ntmps140 fun G F R hE=>?_
 refine go ?_
 refine aH (mC bs.length ag) ?_
 rintro r _ rfl
 refine aO 0 rfl ?_
 rintro ra rc rfl
 refine go ?_
 have hu:=pQ (n:=bs.length) ag
 refine aR (mm:=bs.length) (news:=bV bs) 0 1 zr zr zr zr zr zr zr zr zr zr zr zr hv.1 (by show _=_*1;rw[bC];omega) (cX _) ag (by show(_+_)*1≤_;omega) (fun _=>rfl) bD ?_
 intro v1
 rw[show bV (uv bs.length)++bV bs=bV (aV bs)from by simp[bV,aV],show(uv bs.length).length+bs.length=(aV bs).length from by simp[aV]]
 refine go ?_
 refine aL hE Tryz.func140 rfl _ zr zr ah
def Oc(A:HP)(v:Value)(bs:List UInt8)(hv:eM A v bs)(hl:bs.length≤9223372036854775807) :
    aE Tryz.prog 188 [v] [A] (fun r H=>r=(match l9 bs with
      | some (k,n) => .tuple #[.int .i64 (k:Int),.int .i64 (n:Int),.bool (decide (n≤4096))]
      | none => .tuple #[.int .i64 0,.int .i64 0,.bool false])∧H=[A]):=by
  obtain⟨a,c,rfl,hc⟩:=hv.2
  refine aE.ao Tryz.func188 Tryz.ntmps188 fun G F R hE=>?_
  refine go ?_
  refine bB (fun k:Nat=>1≤k∧k≤3∧(2≤k→1≤bs.length∧di (bs.take 1)=none)∧(3≤k→2≤bs.length∧di (bs.take 2)=none)) (fun k=>3-k)
    (fun k=>[(0,.slice a bs.length c),(5,.int .i64 (k:Int))])
    (fun _=>A::F) 1 ⟨ag,ag,ag,ag⟩ rfl cg ah ?_
  rintro k⟨ve,sM,h1,h2⟩ ih
  refine go ?_
  refine aq zr zr ?_ ?_
  case' refine_2 =>
    intro fA
    have hn:l9 bs=none:=by
      unfold l9
      split
      · obtain⟨_,h3⟩:=h1 ag
        rw[h3]
        simp only
        split
        · obtain⟨_,h4⟩:=h2 ag
          rw[h4];rfl
        · rfl
      · rfl
    rw[hn]at hE
    refine go ?_
    refine ad hE Tryz.func188 zr zr ⟨rfl,rfl⟩
  intro de
  have XQ:k≤bs.length:=by omega
  refine go ?_
  refine bh (p:=0) (q:=(k:Int)) zr zr zr zr zr zr zr ag ag (.inr ag) ?_
  have hf:=hv.front k XQ
  refine au 18 (.slice (sliceAt a c 0 1) k c) rfl (by rw[show(0:Int).toNat=0 from rfl,show((k:Int)).toNat=k from by omega];rfl) ?_
  ((refine aH (mD A _ (bs.take k) hf (by rw[List.length_take];omega)) ?_))
  cases hu:di (bs.take k)with
  | none =>
    rintro _ _⟨rfl,rfl⟩
    refine go ?_
    refine aM ih (k+1) rfl ⟨ag,ag,fun h=>by
      by_cases hk:k=1
      · subst hk;exact⟨ag,hu⟩
      · exact h1 ag,fun h=>by
      have hk:k=2:=by omega
      subst hk;exact⟨ag,hu⟩⟩ ag cg ah
  | some n =>
    rintro _ _⟨rfl,rfl⟩
    have aeF:=oI hu (by rw[List.length_take];omega)
    have Hl:l9 bs=some (k,n):=by
      unfold l9
      rw[if_pos ag]
      by_cases hk:k=1
      · subst hk;rw[hu]
      · have hk:k=2:=by omega
        subst hk
        obtain⟨_,h3⟩:=h1 ag
        rw[h3]
        simp only
        rw[if_pos ag,hu];rfl
    rw[Hl]at hE
    simp only at hE
    rw[show decide (n≤4096)=decide ((n:Int)≤4096)from decide_eq_decide.2 ⟨fun _=>by omega,fun _=>by omega⟩]at hE
    refine go ?_
    refine ad hE Tryz.func188 zr zr ⟨rfl,rfl⟩
def lz(b:List UInt8)(k last:Nat):Bool :=
 let h:=(b.drop (16*k)).take 16
 decide (last<oX h∧oX h≤1073741824∧oX h%2=k∧oX (h.drop 4)+32≤b.length∧h=bZ (oX h) (oX (h.drop 4)))
def fh(b:List UInt8)(k:Nat)(s:Nat × Nat):Nat × Nat:=if lz b k s.1 then(oX ((b.drop (16*k)).take 16),oX (((b.drop (16*k)).take 16).drop 4))else s
def fj(b:List UInt8):List UInt8:=if b.length<32 then []else(b.drop 32).take (fh b 1 (fh b 0 (0,0))).2
def adY{b:List UInt8}(hk:16*k+16≤b.length):((b.drop (16*k)).take 16).length=16:=by rw[List.length_take,List.length_drop];omega
def Lu(A:HP)(v:Value)(b:List UInt8)(hv:eM A v b)(hl:b.length≤9223372036854775807) :
  aE Tryz.prog 132 [v] [A] (fun r H=>eM A r (fj b)∧H=[A]):=by
 obtain⟨a,c,rfl,hc⟩:=hv.2
 refine aE.ao Tryz.func132 Tryz.ntmps132 fun G F R hE=>?_
 repeat'(first|(with_reducible intro pM)|refine gy ?_|refine aq zr zr ?_ ?_)
 case' refine_1 =>
  have hn:fj b=[]:=by unfold fj;rw[if_pos ag]
  rw[hn]at hE
  refine ad hE Tryz.func132 zr zr ⟨⟨Ei A,none,0,rfl,Nat.le_refl _⟩,rfl⟩
 have aeT:32≤b.length:=by omega
 refine bB (fun s:Nat × Nat × Nat=>s.1≤2∧(s.1=0→s.2=(0,0))∧(s.1=1→s.2=fh b 0 (0,0))∧(s.1=2→s.2=fh b 1 (fh b 0 (0,0)))∧s.2.2+32≤b.length∧s.2.1≤1073741824) (fun s=>2-s.1)
  (fun s=>[(0,.slice a b.length c),(3,.int .i64 (s.2.1:Int)),(4,.int .i64 (s.2.2:Int)),(12,.int .i64 (s.1:Int))])
  (fun _=>A::F) (0,0,0) ⟨ag,fun _=>rfl,ag,ag,by simp only;omega,by simp only;omega⟩ rfl cg ah ?_
 rintro⟨k,last,len⟩⟨hk,Tl,ve,sM,hlen,k8⟩ ih
 simp only at hk Tl ve sM hlen k8
 refine go ?_
 refine aq zr zr ?_ ?_
 case' refine_2 =>
  intro fA
  simp only at fA
  have h2:=sM ag
  have hf:fj b=(b.drop 32).take len:=by unfold fj;rw[if_neg ag,← h2]
  refine go ?_
  refine bh (p:=32) (q:=32+(len:Int)) zr zr zr zr zr zr zr ag ag (.inr ag) ?_
  have hp:=hv.piece 32 (32+len) ag ag
  rw[show 32+len-32=len from by omega,← hf]at hp
  refine au 58 (.slice (sliceAt a c 32 1) len (c-32)) rfl (by rw[show(32:Int).toNat=32 from rfl,show(32+(len:Int)).toNat=32+len from by omega,show 32+len-32=len from by omega];rfl) ?_
  refine go ?_
  refine ad hE Tryz.func132 zr zr ⟨hp,rfl⟩
 intro de
 simp only at de
 have adH:16*k+16≤b.length:=by omega
 refine go ?_
 refine ib zr zr zr (by simp only[gq];omega) ?_
 refine au 17 (.int .i64 ((16*k:Nat):Int)) rfl (congrArg (Value.int .i64) (by simp only;omega)) ?_
 refine bh (p:=((16*k:Nat):Int)) (q:=(b.length:Int)) zr zr zr zr zr zr zr ag ag (.inl rfl) ?_
 refine au 18 (.slice (sliceAt a c (16*k) 1) (b.length-16*k) (c-16*k)) rfl (by rw[show(((16*k:Nat):Int)).toNat=16*k from by omega,show((b.length:Int)).toNat=b.length from by omega];rfl) ?_
 have hh1:=hv.cut (16*k) ag
 refine bh (p:=0) (q:=16) zr zr zr zr zr zr zr ag ag (.inr ag) ?_
 obtain⟨hd,hhd⟩:∃hd,hd=(b.drop (16*k)).take 16:=⟨_,rfl⟩
 have Dj:hd.length=16:=by rw[hhd];exact adY adH
 obtain⟨a1,ha1⟩:∃a1,a1=sliceAt (sliceAt a c (16*k) 1) (c-16*k) 0 1:=⟨_,rfl⟩
 have hh2:eM A (.slice a1 16 (c-16*k)) hd:=by
  rw[show b.length-16*k=(b.drop (16*k)).length from by rw[List.length_drop]]at hh1
  have:=hh1.front 16 (by rw[List.length_drop];omega)
  rw[ha1,hhd];exact this
 refine au 19 (.slice a1 16 (c-16*k)) rfl (by rw[show(0:Int).toNat=0 from rfl,show(16:Int).toNat=16 from rfl,ha1];rfl) ?_
 refine go ?_
 refine aF (fun w=>Sat G w ([])) (.st 0 (.st 2 (.st 3 (.act 1 (.act 4 (.st 5 (.st 6 .nil))))))) rfl ak ak ak dT ?_
 refine go ?_
 refine bh (p:=4) (q:=16) zr zr zr zr zr zr zr ag ag (.inl rfl) ?_
 have hh3:=(show eM A (.slice a1 hd.length (c-16*k)) hd by rw[Dj];exact hh2).cut 4 ag
 rw[Dj]at hh3
 refine au 23 (.slice (sliceAt a1 (c-16*k) 4 1) (16-4) (c-16*k-4)) rfl (by rw[show(4:Int).toNat=4 from rfl,show(16:Int).toNat=16 from rfl];rfl) ?_
 refine bo (Du A _ hd hh2.1 ag) ?_
 ((refine cN (Du A _ (hd.drop 4) hh3.1 (by rw[List.length_drop];omega)) ?_))
 rintro _ _⟨rfl,rfl⟩
 have hn:=Og hd
 have hm:=Og (hd.drop 4)
 have kC:lz b k last=decide (last<oX hd∧oX hd≤1073741824∧oX hd%2=k∧oX (hd.drop 4)+32≤b.length∧hd=bZ (oX hd) (oX (hd.drop 4))):=by unfold lz;rw[← hhd]
 have pK:∀s':Nat × Nat,s'=fh b k (last,len)→s'.2+32≤b.length∧s'.1≤1073741824→(k+1≤2∧(k+1=0→s'=(0,0))∧(k+1=1→s'=fh b 0 (0,0))∧(k+1=2→s'=fh b 1 (fh b 0 (0,0)))∧s'.2+32≤b.length∧s'.1≤1073741824):=by
  intro s' h1 h2
  refine⟨ag,ag,fun h=>?_,fun h=>?_,h2⟩
  ·have:k=0:=by omega
   subst this;rw[h1,Tl rfl]
  ·have:k=1:=by omega
   subst this;rw[h1,ve rfl]
 have lL:lz b k last=false→(last,len)=fh b k (last,len):=fun h=>by unfold fh;rw[if_neg (by rw[h];simp)]
 have lE:lz b k last=true→(oX hd,oX (hd.drop 4))=fh b k (last,len):=fun h=>by unfold fh;rw[if_pos h,← hhd]
 repeat'(first|(with_reducible intro pM)|refine gy ?_|refine ie zr zr zr zr ?_ ?_|refine mI zr zr zr ag ag ?_)
 any_goals (
  have hf:lz b k last=false:=by rw[kC];exact decide_eq_false (fun h=>by simp only at *;omega)
  refine aM ih (k+1,last,len) rfl (pK _ (lL hf) ⟨hlen,k8⟩) (by simp only;omega) cg ah)
 refine aH (yP (oX hd) (oX (hd.drop 4)) ag ag) ?_
 rintro rW _ rfl
 refine iy 0 rfl ?_
 intro hvh
 refine aO 0 rfl ?_
 rintro xa xc rfl
 refine go ?_
 refine aJ (Mn A (aB 5 1 (.slice xa (bZ (oX hd) (oX (hd.drop 4))).length xc) (bZ (oX hd) (oX (hd.drop 4))).length (bV (bZ (oX hd) (oX (hd.drop 4))))) (.slice a1 16 (c-16*k)) (.slice xa (bZ (oX hd) (oX (hd.drop 4))).length xc) hd (bZ (oX hd) (oX (hd.drop 4))) hh2.1 hvh) ?_
 repeat'(first|(with_reducible intro pM)|refine gy ?_|refine aq zr zr ?_ ?_)
 ·have hf:lz b k last=true:=by rw[kC];exact decide_eq_true (by refine⟨?_,?_,?_,?_,‹_›⟩ <;> (simp only at *;omega))
  refine go ?_
  refine aM ih (k+1,oX hd,oX (hd.drop 4)) rfl (pK _ (lE hf) ⟨by simp only at *;omega,by simp only at *;omega⟩) (by simp only;omega) cg ah
 ·have hf:lz b k last=false:=by rw[kC];exact decide_eq_false (fun h=>‹¬_› h.2.2.2.2)
  refine aM ih (k+1,last,len) rfl (pK _ (lL hf) ⟨hlen,k8⟩) (by simp only;omega) cg ah
attribute [local irreducible] bX
def qZ(h:l9 bs=some (k,n)):1≤k∧k≤2∧k≤bs.length∧n<16384:=by
 unfold l9 at h
 split at h
 ·rename_i h1
  split at h
  ·rename_i m hm
   cases h
   exact⟨ag,ag,h1,oI hm (by rw[List.length_take];omega)⟩
  ·split at h
   ·rename_i h2
    cases hu:di (bs.take 2)with
    | none=>rw[hu]at h;cases h
    | some m =>
     rw[hu]at h
     cases h
     exact⟨ag,ag,h2,oI hu (by rw[List.length_take];omega)⟩
   ·cases h
 ·cases h
def gj:Nat→List UInt8→List (List UInt8)
 | 0,_=>[]
 | f+1,bs=>match l9 bs with
  | none=>[]
  | some (k,n)=>if n≤4096∧k+n≤bs.length then(bs.drop k).take n::gj f (bs.drop (k+n))else []
def rP:∀(f g:Nat) (bs:List UInt8),bs.length≤f→bs.length≤g→gj f bs=gj g bs
 | 0,0,_,_,_=>rfl
 | 0,g+1,bs,hf,_=>by
  have:bs=[]:=List.eq_nil_of_length_eq_zero ag
  subst this;rfl
 | f+1,0,bs,_,hg=>by
  have:bs=[]:=List.eq_nil_of_length_eq_zero ag
  subst this;rfl
 | f+1,g+1,bs,hf,hg=>by
  unfold gj
  split
  ·rfl
  ·rename_i k n hl
   have:=qZ hl
   split
   ·rw[rP f g _ (by rw[List.length_drop];omega) (by rw[List.length_drop];omega)]
   ·rfl
def cp(bs:List UInt8):List (List UInt8):=gj bs.length bs
def rQ(h:l9 bs=none):cp bs=[]:=by
 unfold cp
 cases hl:bs.length with
 | zero=>rfl
 | succ f=>unfold gj;rw[h]
def tB(h:l9 bs=some (k,n))(hb:¬(n≤4096∧k+n≤bs.length)):cp bs=[]:=by
 unfold cp
 cases hl:bs.length with
 | zero=>rfl
 | succ f=>unfold gj;rw[h];simp only;rw[if_neg hb]
def rR(h:l9 bs=some (k,n))(hb:n≤4096∧k+n≤bs.length):cp bs=(bs.drop k).take n::cp (bs.drop (k+n)):=by
 have h1:=qZ h
 unfold cp
 obtain⟨f,hf⟩:∃f,bs.length=f+1:=⟨bs.length-1,ag⟩
 rw[hf]
 show gj (f+1) bs=_
 rw[gj,h]
 simp only
 rw[if_pos hb,rP f _ _ (by rw[List.length_drop];omega) (Nat.le_refl _)]
def DY(a:Option Addr)(n c:Nat):aE Tryz.prog 131 [.slice a n c] [] (fun r H=>∃b,r = .func (.func 187) #[] #[ptr b]∧H=[ae b (cl [.slice a n c] 22)]):=by
 refine aE.ao Tryz.func131 Tryz.ntmps131 fun G F R hE=>?_
 refine go ?_
 refine bG zr zr bD ?_
 intro b
 refine go ?_
 refine ad hE Tryz.func131 zr zr ⟨b,rfl,rfl⟩
def B6(A:HP)(l bx:Nat)(v:Value)(bs:List UInt8)(hv:eM A v bs)(hl:bs.length≤1000000000)(Lp:HP)(Inv:Nat→HP)(hy:∀i x,(cp bs)[i]?=some x→∀r,bX Tryz.prog l [r] [Lp,Inv i,aB 5 1 r x.length (bV x)] (fun v H=>v = .bool true∧H=[Lp,Inv (i+1)])) :
  aE Tryz.prog 187 [.func (.yield l) #[] #[],ptr bx] [Lp,ae bx (cl [v] 22),A,Inv 0] (fun _ H=>∃v',H=[Lp,ae bx (cl [v'] 22),A,Inv (cp bs).length]):=by
 refine aE.ao Tryz.func187 Tryz.ntmps187 fun G F R hE=>?_
 refine go ?_
 refine bB (fun y:Value × List UInt8 × Nat=>eM A y.1 y.2.1∧y.2.1.length≤bs.length∧cp y.2.1=(cp bs).drop y.2.2∧y.2.2≤(cp bs).length) (fun y=>y.2.1.length)
  (fun _=>[(0,.func (.yield l) #[] #[]),(1,ptr bx)])
  (fun y=>[Lp,ae bx (cl [y.1] 22),A,Inv y.2.2]++F) (v,bs,0) ⟨hv,Nat.le_refl _,by simp,Nat.zero_le _⟩ rfl cg ah ?_
 rintro⟨v1,rest,i⟩⟨mf,Co,zW,Y4⟩ ih
 simp only at mf Co zW Y4
 have mh:cp rest=[]→i=(cp bs).length:=fun h=>by
  rw[zW]at h
  have:(cp bs).length≤i:=by simpa using h
  omega
 obtain⟨a,c,rfl,hc⟩:=mf.2
 refine go ?_
 refine aJ (Oc A _ rest mf ag) ?_
 cases Bc:l9 rest with
 | none =>
  obtain rfl:=mh (rQ Bc)
  refine go ?_
  refine ad hE Tryz.func187 zr zr ⟨_,rfl⟩
 | some kn =>
  obtain⟨k,n⟩:=kn
  have hp:=qZ Bc
  by_cases hn:n≤4096
  case neg =>
   have iK:cp rest=[]:=tB Bc ag
   obtain rfl:=mh iK
   have hd:decide (n≤4096)=false:=decide_eq_false hn
   simp only[hd]
   refine go ?_
   refine ad hE Tryz.func187 zr zr ⟨_,rfl⟩
  have hd:decide (n≤4096)=true:=decide_eq_true hn
  simp only[hd]
  refine go ?_
  by_cases hk:(rest.length:Int)<(k:Int)+n
  case pos =>
   obtain rfl:=mh (tB Bc ag)
   have O3:decide ((rest.length:Int)<(k:Int)+n)=true:=decide_eq_true hk
   simp only[O3]
   refine go ?_
   refine ad hE Tryz.func187 zr zr ⟨_,rfl⟩
  have O3:decide ((rest.length:Int)<(k:Int)+n)=false:=decide_eq_false hk
  simp only[O3]
  have yR:=rR Bc ⟨hn,ag⟩
  obtain⟨x,hx⟩:∃x,x=(rest.drop k).take n:=⟨_,rfl⟩
  have ME:x.length=n:=by rw[hx,List.length_take,List.length_drop];omega
  rw[← hx]at yR
  have EN:(cp bs)[i]?=some x:=by
   have:=congrArg (fun l=>l[0]?) zW
   simp only[List.getElem?_drop,yR]at this
   simpa using this.symm
  have rZ:cp (rest.drop (k+n))=(cp bs).drop (i+1):=by
   have:=congrArg (fun l=>l.drop 1) zW
   simp only[yR,List.drop_drop]at this
   simpa using this
  have RM:i+1≤(cp bs).length:=by
   have:=(List.getElem?_eq_some_iff.1 EN).1
   omega
  have tj:=mf.piece k (k+n) ag ag
  rw[show k+n-k=n from by omega,← hx]at tj
  refine go ?_
  refine bh (p:=(k:Int)) (q:=((k+n:Nat):Int)) zr zr zr zr zr zr zr ag ag (.inr ag) ?_
  refine au 29 (.slice (sliceAt a c k 1) n (c-k)) rfl (by rw[show((k:Int)).toNat=k from by omega,show(((k+n:Nat):Int)).toNat=k+n from by omega,show k+n-k=n from by omega];rfl) ?_
  refine go ?_
  refine aH (lk A _ x tj.1 ag) ?_
  rintro r _ rfl
  refine go ?_
  refine kQ zr zr zr (hy i x EN r) ah ?_ mM
  rintro _ _⟨rfl,rfl⟩
  refine go ?_
  refine bh (p:=((k+n:Nat):Int)) (q:=(rest.length:Int)) zr zr zr zr zr zr zr ag ag (.inl rfl) ?_
  have lK:=mf.cut (k+n) ag
  refine au 38 (.slice (sliceAt a c (k+n) 1) (rest.length-(k+n)) (c-(k+n))) rfl (by rw[show(((k+n:Nat):Int)).toNat=k+n from by omega,show((rest.length:Int)).toNat=rest.length from by omega];rfl) ?_
  refine go ?_
  refine aM ih (.slice (sliceAt a c (k+n) 1) (rest.length-(k+n)) (c-(k+n)),rest.drop (k+n),i+1) rfl (⟨lK,by simp only[List.length_drop];omega,rZ,RM⟩) (by simp only[List.length_drop];omega) cg ah
end Go.Proofs.YtedjnjkijiddlaaGreatDoor
namespace Go.Proofs.YtedjnjkijiddlaaGreatDoor
open Go Go.SL
def Na{e:TypeId}{sz n c:Nat}{a:Option Addr}{cs:List Value}(H:List HP):al (aB e sz (.slice a n c) n cs::H) (aB e sz (.slice (sliceAt a c 0 sz) 0 c) 0 []::H) :=
 al.fold (A:=aB e sz (.slice (sliceAt a c 0 sz) 0 c) 0 []) (B:=[aB e sz (.slice a n c) n cs]) fun h hs=>by
  refine⟨h,sub.refl h,?_⟩
  obtain⟨hl,⟨a',he,hn,hem⟩|⟨b,o,cap,pre,bT,he,hp,hn,hc,wA⟩⟩:=eU hs
  ·simp only[Value.slice.injEq]at he
   obtain⟨rfl,rfl,rfl⟩:=he
   exact⟨by simp,.inl ⟨_,rfl,rfl,hem⟩⟩
  ·simp only[Value.slice.injEq]at he
   obtain⟨rfl,-,rfl⟩:=he
   refine⟨by simp,.inr ⟨b,o,c,pre,cs++bT,?_,hp,Nat.zero_le _,by rw[List.length_append];simpa using hc,by simpa using wA⟩⟩
   unfold sliceAt
   split
   ·rfl
   ·simp[Addr.add]
attribute [local irreducible] J K aE Ends ae aB aP bP bq aS aZ bu bX
def xV(ls:List (List UInt8))(i:Nat):((ls.take i).flatten).length≤ls.flatten.length:=by
 conv=>rhs;rw[← List.take_append_drop i ls,List.flatten_append,List.length_append]
 omega
def Qf(n:Nat)(hn:n≤1000000000):aE Tryz.prog 218 [.slice none 0 0,.int .i64 (n:Int)] [] (fun r H=>H=[aB 5 1 r 0 []]):=by
 refine aE.ao Tryz.func218 Tryz.ntmps218 fun G F R hE=>?_
 (repeat(first|refine gy ?_|refine TN (U:=aQ) zr zr zr zr ?_))
 refine aX 1 ((.int .i64 (n:Int))) rfl ((congrArg (Value.int .i64) ag)) ?_
 refine aq zr zr ?_ ?_
 ·intro lu
  have hp:0<n:=by omega
  (repeat(first|refine gy ?_|refine TN (U:=aQ) zr zr zr zr ?_))
  refine bh (p:=0) (q:=0) zr zr zr zr zr zr zr ag ag (.inr ag) ?_
  refine au 20 (.slice none 0 0) zr zr ?_
  refine aI (bN 5 1 none _) ?_
  refine iy 0 rfl ?_
  intro lJ
  refine go ?_
  refine Ml (U:=aQ) (mm:=n) (cs:=[]) 0 zr zr zr zr zr zr zr zr zr zr zr zr lJ rfl ag hp ag (by show _*1≤_;omega) (by show _*1≤_;omega) bD ?_
  intro v'
  refine aO 0 rfl ?_
  rintro a' c' rfl
  refine go ?_
  refine bh (p:=0) (q:=0) zr zr zr zr zr zr zr ag ag (.inr ag) ?_
  refine au 25 (.slice (sliceAt a' c' 0 1) 0 c') zr zr ?_
  refine aI (Na _) (go ?_)
  refine aL hE Tryz.func218 rfl _ zr zr ah
 ·intro hz
  have SW:n=0:=by omega
  subst SW
  refine go ?_
  refine ai (bN 5 1 none _) ?_
  refine aL hE Tryz.func218 rfl _ zr zr ah
def Iv(A:HP)(v:Value)(ls:List (List UInt8))(hv:sj A v ls)(hl:ls.flatten.length≤1000000000)(hn:ls.length≤1000000000):aE Tryz.prog 191 [v] [A] (fun r H=>H=[aB 5 1 r ls.flatten.length (bV ls.flatten),A]):=by
 obtain⟨cs,dE,lA,⟨a,c,rfl,hc⟩,pL⟩:=hv
 refine aE.ao Tryz.func191 Tryz.ntmps191 fun G F R hE=>?_
 refine go ?_
 refine bB (fun i:Nat=>i≤ls.length) (fun i=>ls.length-i)
  (fun i=>[(0,.slice a ls.length c),(9,.slice a ls.length c),(10,.int .i64 (ls.length:Int)),(11,.int .i64 (i:Int)),(3,.int .i64 (((ls.take i).flatten.length:Nat):Int))])
  (fun _=>A::F) 0 (Nat.zero_le _) rfl cg ah ?_
 rintro i hi ih
 refine go ?_
 refine aq zr zr ?_ ?_
 ·intro de
  have lx:i<ls.length:=by omega
  obtain⟨x,hx⟩:∃x,ls[i]?=some x:=⟨ls[i],List.getElem?_eq_getElem lx⟩
  obtain⟨cv,nt,hb⟩:=pL i x hx
  obtain⟨b0,o0,c0,pG⟩:=dE.some (by intro h;rw[h]at nt;simp at nt)
  simp only[Value.slice.injEq]at pG
  obtain⟨rfl,-,rfl⟩:=pG
  refine go ?_
  refine bM i zr zr zr zr zr zr zr zr lx ?_
  obtain⟨ax,cx,rfl,hcx⟩:=hb.2
  have o5:(ls.take (i+1)).flatten.length=(ls.take i).flatten.length+x.length:=by rw[List.take_add_one,hx];simp
  have hle:=xV ls (i+1)
  refine bj 0 i zr zr zr dE rfl nt zr zr (go ?_)
  refine aX 3 ((.int .i64 (((ls.take (i+1)).flatten.length:Nat):Int))) rfl ((congrArg (Value.int .i64) ag)) ?_
  refine aM ih (i+1) rfl ag ag cg ah
 intro fA
 have gl:i=ls.length:=by omega
 subst gl
 rw[List.take_length]
 ((refine go ?_;(refine aH (Qf ls.flatten.length hl) ?_)))
 rintro gv _ rfl
 refine aO 0 rfl ?_
 rintro ga gc rfl
 refine go ?_
 refine bB (fun i:Value × Nat=>i.2≤ls.length) (fun i=>ls.length-i.2)
  (fun i=>[(0,.slice a ls.length c),(25,.slice a ls.length c),(26,.int .i64 (ls.length:Int)),(27,.int .i64 (i.2:Int)),(6,i.1)])
  (fun i=>aB 5 1 i.1 (ls.take i.2).flatten.length (bV (ls.take i.2).flatten)::A::F) (.slice ga 0 gc,0) (Nat.zero_le _) rfl cg ah ?_
 rintro⟨v,i⟩ hi ih
 simp only at hi
 refine go ?_
 refine aq zr zr ?_ ?_
 ·intro de
  simp only at de
  have lx:i<ls.length:=by omega
  obtain⟨x,hx⟩:∃x,ls[i]?=some x:=⟨ls[i],List.getElem?_eq_getElem lx⟩
  obtain⟨cv,nt,hb⟩:=pL i x hx
  obtain⟨b0,o0,c0,pG⟩:=dE.some (by intro h;rw[h]at nt;simp at nt)
  simp only[Value.slice.injEq]at pG
  obtain⟨rfl,-,rfl⟩:=pG
  refine go ?_
  refine bM i zr zr zr zr zr zr zr zr lx ?_
  obtain⟨ax,cx,rfl,hcx⟩:=hb.2
  have o5:(ls.take (i+1)).flatten=(ls.take i).flatten++x:=by rw[List.take_add_one,hx];simp
  have gk:(ls.take (i+1)).flatten.length=(ls.take i).flatten.length+x.length:=by rw[o5,List.length_append]
  have hle:=xV ls (i+1)
  refine bj 1 i zr zr zr dE rfl nt zr zr ?_
  refine aO 0 rfl ?_
  intro av cv o4
  simp only at o4
  subst o4
  refine go ?_
  refine aR (mm:=x.length) (news:=bV x) 0 1 zr zr zr zr zr zr zr zr zr zr zr zr hb.1 (by show _=_*1;rw[bC];omega) (cX _) (by simp only;omega) (by show(_+_)*1≤_;simp only;omega) (fun _=>rfl) bD ?_
  intro v1
  simp only
  rw[show bV (ls.take i).flatten++bV x=bV (ls.take (i+1)).flatten from by rw[o5];simp[bV],← gk]
  refine go ?_
  refine aM ih (v1,i+1) rfl (by simp only;omega) (by simp only;omega) cg ah
 intro fA
 simp only at fA
 have gl:i=ls.length:=by omega
 subst gl
 rw[List.take_length]
 refine dz 0 rfl ?_
 intro av cv o4
 simp only at o4
 subst o4
 refine go ?_
 refine aL hE Tryz.func191 rfl _ zr zr ah
def JJ{σ:Type}(I:σ→HP)(V:HP)(v:Value)(lp:List Value)(hv:Vw V v lp.length lp)(hn:lp.length≤1000000000)(ss:List (σ→Nat→σ→Prop))(hlen:ss.length=lp.length)(Q:Nat→σ→Prop)(cK:∀(i:Nat) (fv:Value) (s:σ→Nat→σ→Prop),lp[i]?=some fv→ss[i]?=some s→∃g fi cap,fv = .func (.func g) fi cap∧∀x,Q i x→aE Tryz.prog g (fi.toList++cap.toList) [I x] (fun r H=>∃(e:Nat) (x':σ),r = .int .i64 (e:Int)∧H=[I x']∧s x e x'∧(e=0→Q (i+1) x')))(x0:σ)(hQ:Q 0 x0) :
  aE Tryz.prog 151 [v] [V,I x0] (fun r H=>∃(e:Nat) (x':σ),r = .int .i64 (e:Int)∧H=[V,I x']∧iZ ss x0 e x'):=by
 obtain⟨a,c,rfl⟩:=hv.shape
 refine aE.ao Tryz.func151 Tryz.ntmps151 fun G F R hE=>?_
 refine go ?_
 refine bB (fun y:Nat × σ=>y.1≤lp.length∧Q y.1 y.2∧∀e x',iZ (ss.drop y.1) y.2 e x'→iZ ss x0 e x') (fun y=>lp.length-y.1)
  (fun y=>[(0,.slice a lp.length c),(6,.slice a lp.length c),(7,.int .i64 (lp.length:Int)),(8,.int .i64 (y.1:Int))])
  (fun y=>V::I y.2::F) (0,x0) ⟨Nat.zero_le _,hQ,fun _ _ h=>h⟩ rfl cg ah ?_
 rintro⟨i,x⟩⟨hi,hq,hr⟩ ih
 simp only at hi hq hr
 refine go ?_
 refine aq zr zr ?_ ?_
 ·intro de
  simp only at de
  have lx:i<lp.length:=by omega
  obtain⟨fv,mS⟩:∃fv,lp[i]?=some fv:=⟨lp[i],List.getElem?_eq_getElem lx⟩
  obtain⟨s,hs⟩:∃s,ss[i]?=some s:=⟨ss[i],List.getElem?_eq_getElem ag⟩
  obtain⟨g,fi,cap,rfl,hc⟩:=cK i fv s mS hs
  have mj:ss.drop i=s::ss.drop (i+1):=by
   rw[List.drop_eq_getElem_cons ag]
   congr 1
   have:=List.getElem?_eq_some_iff.1 hs
   exact this.2
  obtain⟨b0,o0,c0,pG⟩:=hv.some (by intro h;rw[h]at lx;simp at lx)
  simp only[Value.slice.injEq]at pG
  obtain⟨rfl,-,rfl⟩:=pG
  refine go ?_
  refine bM i zr zr zr zr zr zr zr zr lx ?_
  refine bj 0 i zr zr zr hv rfl mS zr zr (go ?_)
  refine uC zr zr zr (by simp) (hc x hq) ah ?_ mM
  rintro _ _⟨e,x',rfl,rfl,K1,Qy⟩
  refine go ?_
  refine aq zr zr ?_ ?_
  ·intro bY
   have he:e≠0:=by omega
   refine go ?_
   ((refine ad hE Tryz.func151 zr zr ⟨e,x',rfl,rfl,hr e x' (by rw[mj];exact⟨e,x',K1,.inl ⟨he,rfl,rfl⟩⟩)⟩))
  ·intro heq
   have he:e=0:=by omega
   refine go ?_
   refine aM ih (i+1,x') rfl (⟨by simp only;omega,Qy he,fun e2 x2 h2=>hr e2 x2 (by rw[mj];exact⟨e,x',K1,.inr ⟨he,h2⟩⟩)⟩) (by simp only;omega) cg ah
 ·intro fA
  simp only at fA
  have gl:i=lp.length:=by omega
  subst gl
  refine go ?_
  ((refine ad hE Tryz.func151 zr zr ⟨0,x,rfl,rfl,hr 0 x (by rw[List.drop_eq_nil_of_le ag];exact⟨rfl,rfl⟩)⟩))
attribute [local irreducible] aC
def NO(bd jb xj xf xw xb:Nat)(name fresh:ByteArray)(wa ba:Option Addr)(wc bl bc:Nat)(whole:List UInt8)(br:Bool)(A:Ab)(n s c:Int)(cK:A.aw.length≤1000000000) :
  aE Tryz.prog 192 [ptr xj,ptr xf] ([aC bd A,ae jb (cl [ptr bd,.string name,.int .i64 n,.int .i64 s,.int .i64 c,.bool br] 186),ae xj (cl [ptr jb] 85),ae xf (cl [.string fresh] 9),ae xw (cl [.slice wa whole.length wc] 22),ae xb (cl [.slice ba bl bc] 22),aB 5 1 (.slice wa whole.length wc) whole.length (bV whole)]) (fun r H=>∃(e:Nat) (A1:Ab),e=(A.remove (isName fresh) fresh).1∧A1=(A.remove (isName fresh) fresh).2∧r = .int .i64 (e:Int)∧H=[aC bd A1,ae jb (cl [ptr bd,.string name,.int .i64 n,.int .i64 s,.int .i64 c,.bool br] 186),ae xj (cl [ptr jb] 85),ae xf (cl [.string fresh] 9),ae xw (cl [.slice wa whole.length wc] 22),ae xb (cl [.slice ba bl bc] 22),aB 5 1 (.slice wa whole.length wc) whole.length (bV whole)]):=by
 refine aE.ao Tryz.func192 Tryz.ntmps192 fun G F R hE=>?_
 refine go ?_
 refine aF (fun w=>Sat G w ([ae jb (cl [ptr bd,.string name,.int .i64 n,.int .i64 s,.int .i64 c,.bool br] 186),ae xj (cl [ptr jb] 85),ae xf (cl [.string fresh] 9),ae xw (cl [.slice wa whole.length wc] 22),aB 5 1 (.slice wa whole.length wc) whole.length (bV whole)])) (cZ 0 5 (.act 5 (.st 6 .nil))) rfl ak ak ak dT ?_
 refine go ?_
 refine bo (vx bd A fresh cK) ?_
 refine go ?_
 refine ad hE Tryz.func192 zr zr ⟨_,_,rfl,rfl,rfl,rfl⟩
def NM(bd jb xj xf xw xb:Nat)(name fresh:ByteArray)(wa ba:Option Addr)(wc bl bc:Nat)(whole:List UInt8)(br:Bool)(A:Ab)(n s c:Int)(cK:A.aw.length≤1000000000) :
  aE Tryz.prog 193 [ptr xj,ptr xf] ([aC bd A,ae jb (cl [ptr bd,.string name,.int .i64 n,.int .i64 s,.int .i64 c,.bool br] 186),ae xj (cl [ptr jb] 85),ae xf (cl [.string fresh] 9),ae xw (cl [.slice wa whole.length wc] 22),ae xb (cl [.slice ba bl bc] 22),aB 5 1 (.slice wa whole.length wc) whole.length (bV whole)]) (fun r H=>∃(e:Nat) (A1:Ab),(∃f,f ∉ A.fs.map (·.1)∧e=(A.create (isName fresh) fresh f).1∧A1=(A.create (isName fresh) fresh f).2)∧r = .int .i64 (e:Int)∧H=[aC bd A1,ae jb (cl [ptr bd,.string name,.int .i64 n,.int .i64 s,.int .i64 c,.bool br] 186),ae xj (cl [ptr jb] 85),ae xf (cl [.string fresh] 9),ae xw (cl [.slice wa whole.length wc] 22),ae xb (cl [.slice ba bl bc] 22),aB 5 1 (.slice wa whole.length wc) whole.length (bV whole)]):=by
 refine aE.ao Tryz.func193 Tryz.ntmps193 fun G F R hE=>?_
 refine go ?_
 refine aF (fun w=>Sat G w ([ae jb (cl [ptr bd,.string name,.int .i64 n,.int .i64 s,.int .i64 c,.bool br] 186),ae xj (cl [ptr jb] 85),ae xf (cl [.string fresh] 9),ae xw (cl [.slice wa whole.length wc] 22),aB 5 1 (.slice wa whole.length wc) whole.length (bV whole)])) (cZ 0 5 (.act 5 (.st 6 .nil))) rfl ak ak ak dT ?_
 refine go ?_
 refine cN (vB bd A fresh cK) ?_
 rintro _ _⟨f,hf,rfl,rfl⟩
 refine go ?_
 refine ad hE Tryz.func193 zr zr ⟨_,_,⟨f,hf,rfl,rfl⟩,rfl,rfl⟩
def NK(bd jb xj xf xw xb:Nat)(name fresh:ByteArray)(wa ba:Option Addr)(wc bl bc:Nat)(whole:List UInt8)(br:Bool)(A:Ab)(n s c:Int)(fb:A.writes.length≤1000000000)(iC:whole.length≤1000000000) :
  aE Tryz.prog 194 [ptr xj,ptr xf,ptr xw] ([aC bd A,ae jb (cl [ptr bd,.string name,.int .i64 n,.int .i64 s,.int .i64 c,.bool br] 186),ae xj (cl [ptr jb] 85),ae xf (cl [.string fresh] 9),ae xw (cl [.slice wa whole.length wc] 22),ae xb (cl [.slice ba bl bc] 22),aB 5 1 (.slice wa whole.length wc) whole.length (bV whole)]) (fun r H=>∃(e:Nat) (A1:Ab),e=(A.write (fZ fresh 0 whole) fresh 0 whole).1∧A1=(A.write (fZ fresh 0 whole) fresh 0 whole).2∧r = .int .i64 (e:Int)∧H=[aC bd A1,ae jb (cl [ptr bd,.string name,.int .i64 n,.int .i64 s,.int .i64 c,.bool br] 186),ae xj (cl [ptr jb] 85),ae xf (cl [.string fresh] 9),ae xw (cl [.slice wa whole.length wc] 22),ae xb (cl [.slice ba bl bc] 22),aB 5 1 (.slice wa whole.length wc) whole.length (bV whole)]):=by
 refine aE.ao Tryz.func194 Tryz.ntmps194 fun G F R hE=>?_
 refine go ?_
 refine aF (fun w=>Sat G w ([ae jb (cl [ptr bd,.string name,.int .i64 n,.int .i64 s,.int .i64 c,.bool br] 186),ae xj (cl [ptr jb] 85),ae xf (cl [.string fresh] 9),ae xw (cl [.slice wa whole.length wc] 22),aB 5 1 (.slice wa whole.length wc) whole.length (bV whole)])) (cZ 0 6 (.act 6 (.st 7 .nil))) rfl ak ak ak dT ?_
 refine go ?_
 refine iy 6 rfl ?_
 intro dE
 refine go ?_
 refine aK ?_
 refine lV 3 zr zr zr zr zr zr (go ?_)
 refine bo (ui bd A fresh 0 _ _ whole dE fb iC ag) ?_
 refine go ?_
 refine ad hE Tryz.func194 zr zr ⟨_,_,rfl,rfl,rfl,rfl⟩
def NI(bd jb xj xf xw xb:Nat)(name fresh:ByteArray)(wa ba:Option Addr)(wc bl bc:Nat)(whole:List UInt8)(br:Bool)(A:Ab)(n s c:Int)(fb:A.writes.length≤1000000000) :
  aE Tryz.prog 195 [ptr xj,ptr xf] ([aC bd A,ae jb (cl [ptr bd,.string name,.int .i64 n,.int .i64 s,.int .i64 c,.bool br] 186),ae xj (cl [ptr jb] 85),ae xf (cl [.string fresh] 9),ae xw (cl [.slice wa whole.length wc] 22),ae xb (cl [.slice ba bl bc] 22),aB 5 1 (.slice wa whole.length wc) whole.length (bV whole)]) (fun r H=>∃(e:Nat) (A1:Ab),e=(A.sync (isName fresh) fresh).1∧A1=(A.sync (isName fresh) fresh).2∧r = .int .i64 (e:Int)∧H=[aC bd A1,ae jb (cl [ptr bd,.string name,.int .i64 n,.int .i64 s,.int .i64 c,.bool br] 186),ae xj (cl [ptr jb] 85),ae xf (cl [.string fresh] 9),ae xw (cl [.slice wa whole.length wc] 22),ae xb (cl [.slice ba bl bc] 22),aB 5 1 (.slice wa whole.length wc) whole.length (bV whole)]):=by
 refine aE.ao Tryz.func195 Tryz.ntmps195 fun G F R hE=>?_
 refine go ?_
 refine aF (fun w=>Sat G w ([ae jb (cl [ptr bd,.string name,.int .i64 n,.int .i64 s,.int .i64 c,.bool br] 186),ae xj (cl [ptr jb] 85),ae xf (cl [.string fresh] 9),ae xw (cl [.slice wa whole.length wc] 22),aB 5 1 (.slice wa whole.length wc) whole.length (bV whole)])) (cZ 0 5 (.act 5 (.st 6 .nil))) rfl ak ak ak dT ?_
 refine go ?_
 refine bo (uj bd A fresh fb) ?_
 refine go ?_
 refine ad hE Tryz.func195 zr zr ⟨_,_,rfl,rfl,rfl,rfl⟩
def NG(bd jb xj xf xw xb:Nat)(name fresh:ByteArray)(wa ba:Option Addr)(wc bl bc:Nat)(whole:List UInt8)(br:Bool)(A:Ab)(n s c:Int)(cK:A.aw.length≤1000000000) :
  aE Tryz.prog 196 [ptr xj,ptr xf] ([aC bd A,ae jb (cl [ptr bd,.string name,.int .i64 n,.int .i64 s,.int .i64 c,.bool br] 186),ae xj (cl [ptr jb] 85),ae xf (cl [.string fresh] 9),ae xw (cl [.slice wa whole.length wc] 22),ae xb (cl [.slice ba bl bc] 22),aB 5 1 (.slice wa whole.length wc) whole.length (bV whole)]) (fun r H=>∃(e:Nat) (A1:Ab),e=(A.rename ([fresh,name].all isName) fresh name).1∧A1=(A.rename ([fresh,name].all isName) fresh name).2∧r = .int .i64 (e:Int)∧H=[aC bd A1,ae jb (cl [ptr bd,.string name,.int .i64 n,.int .i64 s,.int .i64 c,.bool br] 186),ae xj (cl [ptr jb] 85),ae xf (cl [.string fresh] 9),ae xw (cl [.slice wa whole.length wc] 22),ae xb (cl [.slice ba bl bc] 22),aB 5 1 (.slice wa whole.length wc) whole.length (bV whole)]):=by
 refine aE.ao Tryz.func196 Tryz.ntmps196 fun G F R hE=>?_
 refine go ?_
 refine aF (fun w=>Sat G w ([ae jb (cl [ptr bd,.string name,.int .i64 n,.int .i64 s,.int .i64 c,.bool br] 186),ae xj (cl [ptr jb] 85),ae xf (cl [.string fresh] 9),ae xw (cl [.slice wa whole.length wc] 22),aB 5 1 (.slice wa whole.length wc) whole.length (bV whole)])) (cZ 0 9 (.act 9 (.st 10 .nil))) rfl ak ak ak dT ?_
 refine go ?_
 refine bo (BE bd A fresh name cK) ?_
 refine go ?_
 refine ad hE Tryz.func196 zr zr ⟨_,_,rfl,rfl,rfl,rfl⟩
def ND(bd jb xj xf xw xb:Nat)(name fresh:ByteArray)(wa ba:Option Addr)(wc bl bc:Nat)(whole:List UInt8)(br:Bool)(A:Ab)(n s c:Int) :
  aE Tryz.prog 197 [ptr xb,ptr xj] ([aC bd A,ae jb (cl [ptr bd,.string name,.int .i64 n,.int .i64 s,.int .i64 c,.bool br] 186),ae xj (cl [ptr jb] 85),ae xf (cl [.string fresh] 9),ae xw (cl [.slice wa whole.length wc] 22),ae xb (cl [.slice ba bl bc] 22),aB 5 1 (.slice wa whole.length wc) whole.length (bV whole)]) (fun r H=>r = .int .i64 0∧H=[aC bd A,ae jb (cl [ptr bd,.string name,.int .i64 1,.int .i64 (bl:Int),.int .i64 (bl:Int),.bool br] 186),ae xj (cl [ptr jb] 85),ae xf (cl [.string fresh] 9),ae xw (cl [.slice wa whole.length wc] 22),ae xb (cl [.slice ba bl bc] 22),aB 5 1 (.slice wa whole.length wc) whole.length (bV whole)]):=by
 refine aE.ao Tryz.func197 Tryz.ntmps197 fun G F R hE=>?_
 refine go ?_
 refine aF (fun w=>Sat G w ([ae xj (cl [ptr jb] 85),ae xb (cl [.slice ba bl bc] 22)])) (cZ 0 9 (.act 9 (.st 10 (.st 11 (.act 12 (.st 13 (.st 14 (.act 15 .nil)))))))) rfl ak ak ak dT ?_
 refine go ?_
 refine aT ?_
 refine cq 1 (fun w hw=>by exact hw.cV ah) zr zr zr zr zr zr zr zr zr ?_
 refine go ?_
 refine aT ?_
 refine cq 1 (fun w hw=>by exact hw.cV ah) zr zr zr zr zr zr zr zr zr ?_
 refine go ?_
 refine ad hE Tryz.func197 zr zr ⟨rfl,rfl⟩
end Go.Proofs.YtedjnjkijiddlaaGreatDoor
namespace Go.Proofs.YtedjnjkijiddlaaGreatDoor
open Go Go.SL
abbrev PS:=Ab × Int × Int × Int
def SP(g:Ab→Nat→Ab→Prop)(x:PS)(e:Nat)(y:PS):Prop:=g x.1 e y.1∧y.2=x.2
def BY(fresh:ByteArray):=SP fun A e B=>e=(A.remove (isName fresh) fresh).1∧B=(A.remove (isName fresh) fresh).2
def BZ(fresh:ByteArray):=SP fun A e B=>∃f,f ∉ A.fs.map (·.1)∧e=(A.create (isName fresh) fresh f).1∧B=(A.create (isName fresh) fresh f).2
def GC(fresh:ByteArray)(whole:List UInt8):=SP fun A e B=>e=(A.write (fZ fresh 0 whole) fresh 0 whole).1∧B=(A.write (fZ fresh 0 whole) fresh 0 whole).2
def Nj(fresh:ByteArray):=SP fun A e B=>e=(A.sync (isName fresh) fresh).1∧B=(A.sync (isName fresh) fresh).2
def BX(fresh name:ByteArray):=SP fun A e B=>e=(A.rename ([fresh,name].all isName) fresh name).1∧B=(A.rename ([fresh,name].all isName) fresh name).2
def GD:=SP fun A e B=>e=A.cu.1∧B=A.cu.2
def W0(bl:Nat)(x:PS)(e:Nat)(y:PS):Prop:=e=0∧y=(x.1,1,(bl:Int),(bl:Int))
def bL(name:ByteArray):ByteArray:=name++⟨#[46,110,101,119]⟩
def ck(ls:List (List UInt8)):List UInt8:=List.replicate 16 0++bZ 1 (ls.flatMap aV).length++ls.flatMap aV
def gI(name:ByteArray)(ls:List (List UInt8))(A:Ab):List (PS→Nat→PS→Prop) :=
 (if(A.size (bL name)).2=0 then [BY (bL name)]else []) ++
 [BZ (bL name),GC (bL name) (ck ls),Nj (bL name),BX (bL name) name,GD,W0 (ls.flatMap aV).length]
def Ap(name:ByteArray)(ls:List (List UInt8))(x:PS)(e:Nat)(y:PS):Prop:=iZ (gI name ls x.1) x e y
attribute [local irreducible] J K aE Ends ae aB aP bP bq aS aZ bu bX aC
def _root_.Go.SL.al.lX(l:List HP):al [Sep l] l:=by have:=al.cD l [];rwa[List.append_nil]at this
def _root_.Go.SL.al.l6(l:List HP):al l [Sep l]:=by have:=al.bS l [];rwa[List.append_nil]at this
def PI(bd jb xj xf xw xb:Nat)(name fresh:ByteArray)(wa ba:Option Addr)(wc bl bc:Nat)(whole:List UInt8)(br:Bool)(x:PS):HP:=Sep [aC bd x.1,ae jb (cl [ptr bd,.string name,.int .i64 x.2.1,.int .i64 x.2.2.1,.int .i64 x.2.2.2,.bool br] 186),ae xj (cl [ptr jb] 85),ae xf (cl [.string fresh] 9),ae xw (cl [.slice wa whole.length wc] 22),ae xb (cl [.slice ba bl bc] 22),aB 5 1 (.slice wa whole.length wc) whole.length (bV whole)]
def PQ(i:Nat)(x:PS):Prop:=x.1.aw.length≤900000000+i∧x.1.writes.length≤900000000+i
def PQ.next{i:Nat}{x:PS}(h:PQ i x){B:Ab}(g:j0 x.1 B):PQ (i+1) (B,x.2):=by
 obtain⟨h1,h2⟩:=h
 obtain⟨g1,g2⟩:=g
 exact⟨by simp only;omega,by simp only;omega⟩
end Go.Proofs.YtedjnjkijiddlaaGreatDoor
namespace Go.Proofs.YtedjnjkijiddlaaGreatDoor
open Go Go.SL
def LD{P:Program}{f:FuncId}{args:List Value}{Pre:List HP}{Post:Value→List HP→Prop}(X:List HP)(c:aE P f args Pre Post):aE P f args (Pre++X) (fun v H=>∃H',Post v H'∧H=H'++X) :=
 ⟨c.1,fun G w F hw=>(c.2 G w (X++F) (by rw[List.append_assoc]at hw;exact hw)).mono fun e w' h'=>let ⟨v,H,he,RC,hs⟩:=h';⟨v,H++X,he,⟨H,RC,rfl⟩,by rw[List.append_assoc];exact hs⟩⟩
attribute [local irreducible] J K aE Ends ae aB aP bP bq aS aZ bu bX aC
def W4(bd jb xj xf xw xb:Nat)(name fresh:ByteArray)(wa ba:Option Addr)(wc bl bc:Nat)(whole:List UInt8)(br:Bool)(i:Nat)(hi:i≤10)(x:PS)(hq:PQ i x) :
  aE Tryz.prog 192 [ptr xj,ptr xf] [PI bd jb xj xf xw xb name fresh wa ba wc bl bc whole br x] (fun r H=>∃(e:Nat) (x':PS),r = .int .i64 (e:Int)∧H=[PI bd jb xj xf xw xb name fresh wa ba wc bl bc whole br x']∧BY fresh x e x'∧(e=0→PQ (i+1) x')) :=
 (NO bd jb xj xf xw xb name fresh wa ba wc bl bc whole br x.1 x.2.1 x.2.2.1 x.2.2.2 (by have:=hq.1;omega)).conv (al.lX _) (by
  rintro v H⟨e,A1,he,sP,rfl,rfl⟩
  exact⟨_,⟨_,(A1,x.2),rfl,rfl,⟨⟨he,sP⟩,rfl⟩,fun _=>hq.next (sP ▸ qs _ _ _)⟩,al.l6 _⟩)
def NN(bd jb xj xf xw xb:Nat)(name fresh:ByteArray)(wa ba:Option Addr)(wc bl bc:Nat)(whole:List UInt8)(br:Bool)(i:Nat)(hi:i≤10)(x:PS)(hq:PQ i x) :
  aE Tryz.prog 193 [ptr xj,ptr xf] [PI bd jb xj xf xw xb name fresh wa ba wc bl bc whole br x] (fun r H=>∃(e:Nat) (x':PS),r = .int .i64 (e:Int)∧H=[PI bd jb xj xf xw xb name fresh wa ba wc bl bc whole br x']∧BZ fresh x e x'∧(e=0→PQ (i+1) x')) :=
 (NM bd jb xj xf xw xb name fresh wa ba wc bl bc whole br x.1 x.2.1 x.2.2.1 x.2.2.2 (by have:=hq.1;omega)).conv (al.lX _) (by
  rintro v H⟨e,A1,⟨f,hf,he,sP⟩,rfl,rfl⟩
  exact⟨_,⟨_,(A1,x.2),rfl,rfl,⟨⟨f,hf,he,sP⟩,rfl⟩,fun _=>hq.next (sP ▸ qt _ _ _ _)⟩,al.l6 _⟩)
def NL(bd jb xj xf xw xb:Nat)(name fresh:ByteArray)(wa ba:Option Addr)(wc bl bc:Nat)(whole:List UInt8)(br:Bool)(i:Nat)(hi:i≤10)(iC:whole.length≤1000000000)(x:PS)(hq:PQ i x) :
  aE Tryz.prog 194 [ptr xj,ptr xf,ptr xw] [PI bd jb xj xf xw xb name fresh wa ba wc bl bc whole br x] (fun r H=>∃(e:Nat) (x':PS),r = .int .i64 (e:Int)∧H=[PI bd jb xj xf xw xb name fresh wa ba wc bl bc whole br x']∧GC fresh whole x e x'∧(e=0→PQ (i+1) x')) :=
 (NK bd jb xj xf xw xb name fresh wa ba wc bl bc whole br x.1 x.2.1 x.2.2.1 x.2.2.2 (by have:=hq.2;omega) iC).conv (al.lX _) (by
  rintro v H⟨e,A1,he,sP,rfl,rfl⟩
  exact⟨_,⟨_,(A1,x.2),rfl,rfl,⟨⟨he,sP⟩,rfl⟩,fun _=>hq.next (sP ▸ kD _ _ _ _ _)⟩,al.l6 _⟩)
def NJ(bd jb xj xf xw xb:Nat)(name fresh:ByteArray)(wa ba:Option Addr)(wc bl bc:Nat)(whole:List UInt8)(br:Bool)(i:Nat)(hi:i≤10)(x:PS)(hq:PQ i x) :
  aE Tryz.prog 195 [ptr xj,ptr xf] [PI bd jb xj xf xw xb name fresh wa ba wc bl bc whole br x] (fun r H=>∃(e:Nat) (x':PS),r = .int .i64 (e:Int)∧H=[PI bd jb xj xf xw xb name fresh wa ba wc bl bc whole br x']∧Nj fresh x e x'∧(e=0→PQ (i+1) x')) :=
 (NI bd jb xj xf xw xb name fresh wa ba wc bl bc whole br x.1 x.2.1 x.2.2.1 x.2.2.2 (by have:=hq.2;omega)).conv (al.lX _) (by
  rintro v H⟨e,A1,he,sP,rfl,rfl⟩
  exact⟨_,⟨_,(A1,x.2),rfl,rfl,⟨⟨he,sP⟩,rfl⟩,fun _=>hq.next (sP ▸ kE _ _ _)⟩,al.l6 _⟩)
def NH(bd jb xj xf xw xb:Nat)(name fresh:ByteArray)(wa ba:Option Addr)(wc bl bc:Nat)(whole:List UInt8)(br:Bool)(i:Nat)(hi:i≤10)(x:PS)(hq:PQ i x) :
  aE Tryz.prog 196 [ptr xj,ptr xf] [PI bd jb xj xf xw xb name fresh wa ba wc bl bc whole br x] (fun r H=>∃(e:Nat) (x':PS),r = .int .i64 (e:Int)∧H=[PI bd jb xj xf xw xb name fresh wa ba wc bl bc whole br x']∧BX fresh name x e x'∧(e=0→PQ (i+1) x')) :=
 (NG bd jb xj xf xw xb name fresh wa ba wc bl bc whole br x.1 x.2.1 x.2.2.1 x.2.2.2 (by have:=hq.1;omega)).conv (al.lX _) (by
  rintro v H⟨e,A1,he,sP,rfl,rfl⟩
  exact⟨_,⟨_,(A1,x.2),rfl,rfl,⟨⟨he,sP⟩,rfl⟩,fun _=>hq.next (sP ▸ qq _ _ _ _)⟩,al.l6 _⟩)
def NA(bd jb xj xf xw xb:Nat)(name fresh:ByteArray)(wa ba:Option Addr)(wc bl bc:Nat)(whole:List UInt8)(br:Bool)(i:Nat)(x:PS)(hq:PQ i x) :
  aE Tryz.prog 75 [ptr bd] [PI bd jb xj xf xw xb name fresh wa ba wc bl bc whole br x] (fun r H=>∃(e:Nat) (x':PS),r = .int .i64 (e:Int)∧H=[PI bd jb xj xf xw xb name fresh wa ba wc bl bc whole br x']∧GD x e x'∧(e=0→PQ (i+1) x')) :=
 (LD ([aC bd x.1,ae jb (cl [ptr bd,.string name,.int .i64 x.2.1,.int .i64 x.2.2.1,.int .i64 x.2.2.2,.bool br] 186),ae xj (cl [ptr jb] 85),ae xf (cl [.string fresh] 9),ae xw (cl [.slice wa whole.length wc] 22),ae xb (cl [.slice ba bl bc] 22),aB 5 1 (.slice wa whole.length wc) whole.length (bV whole)].drop 1) (pw bd x.1)).conv (al.lX _) (by
  rintro v H⟨_,⟨rfl,rfl⟩,rfl⟩
  exact⟨_,⟨_,(x.1.cu.2,x.2),rfl,rfl,⟨⟨rfl,rfl⟩,rfl⟩,fun _=>hq.next (jW _)⟩,al.l6 _⟩)
def NF(bd jb xj xf xw xb:Nat)(name fresh:ByteArray)(wa ba:Option Addr)(wc bl bc:Nat)(whole:List UInt8)(br:Bool)(i:Nat)(x:PS)(hq:PQ i x) :
  aE Tryz.prog 197 [ptr xb,ptr xj] [PI bd jb xj xf xw xb name fresh wa ba wc bl bc whole br x] (fun r H=>∃(e:Nat) (x':PS),r = .int .i64 (e:Int)∧H=[PI bd jb xj xf xw xb name fresh wa ba wc bl bc whole br x']∧W0 bl x e x'∧(e=0→PQ (i+1) x')) :=
 (ND bd jb xj xf xw xb name fresh wa ba wc bl bc whole br x.1 x.2.1 x.2.2.1 x.2.2.2).conv (al.lX _) (by
  rintro v H⟨rfl,rfl⟩
  exact⟨_,⟨0,(x.1,1,(bl:Int),(bl:Int)),rfl,rfl,⟨rfl,rfl⟩,fun _=>⟨by have:=hq.1;simp only;omega,by have:=hq.2;simp only;omega⟩⟩,al.l6 _⟩)
def jr(jb bd:Nat)(name:ByteArray)(n s c:Int)(br:Bool):HP:=ae jb (cl [ptr bd,.string name,.int .i64 n,.int .i64 s,.int .i64 c,.bool br] 186)
def Bq{ls:List (List UInt8)}{i:Nat}{x:List UInt8}(h:ls[i]?=some x):(ls.take (i+1)).flatMap aV=(ls.take i).flatMap aV++aV x:=by
 rw[List.take_add_one,h];simp
def Js(ls:List (List UInt8))(i:Nat):((ls.take i).flatMap aV).length≤(ls.flatMap aV).length:=by
 conv=>rhs;rw[← List.take_append_drop i ls,List.flatMap_append,List.length_append]
 omega
def IS(jb bd:Nat)(name:ByteArray)(n s c:Int)(br:Bool)(A:Ab)(V:HP)(lv:Value)(ls:List (List UInt8))(hv:sj V lv ls)(hl:(ls.flatMap aV).length≤500000000)(wI:ls.length≤1000000000)(Ji:name.size≤1000000000)(cK:A.aw.length≤900000000)(qj:A.writes.length≤900000000) :
    aE Tryz.prog 133 [ptr jb,lv] [aC bd A,jr jb bd name n s c br,V]
      (fun r H=>∃(e:Nat) (y:PS),r = .int .i64 (e:Int)∧H=[aC bd y.1,jr jb bd name y.2.1 y.2.2.1 y.2.2.2 br,V]∧Ap name ls (A,n,s,c) e y):=by
  obtain⟨cs,dE,lA,⟨a,cc,rfl,hc⟩,pL⟩:=hv
  unfold jr
  refine aE.ao Tryz.func133 Tryz.ntmps133 fun G F R hE=>?_
  refine go ?_
  refine bG zr zr bD ?_
  intro xj
  refine go ?_
  refine zI zr zr zr (by show name.size+4≤_;omega) ?_
  refine go ?_
  refine au 17 (.string (bL name)) zr zr ?_
  generalize xg:bL name=fresh
  refine az zr zr zr bD ?_
  intro xf
  refine go ?_
  refine az zr zr zr bD ?_
  intro xb
  refine go ?_
  refine ai (bN 5 1 none _) ?_
  refine bB (fun y:Value × Nat=>y.2≤ls.length) (fun y=>ls.length-y.2)
    (fun y=>[(0,ptr jb),(2,ptr xj),(5,ptr xf),(6,ptr xb),(18,.slice a ls.length cc),(19,.int .i64 (ls.length:Int)),(20,.int .i64 (y.2:Int))])
    (fun y=>ae xb (cl [y.1] 22)::aB 5 1 y.1 ((ls.take y.2).flatMap aV).length (bV ((ls.take y.2).flatMap aV))::ae xf (cl [.string fresh] 9)::ae xj (cl [ptr jb] 85)::aC bd A::ae jb (cl [ptr bd,.string name,.int .i64 n,.int .i64 s,.int .i64 c,.bool br] 186)::V::F) (.slice none 0 0,0) (Nat.zero_le _) rfl cg ah ?_
  rintro⟨v,i⟩ hi ih
  simp only at hi
  refine go ?_
  refine aq zr zr ?_ ?_
  · intro de
    simp only at de
    have lx:i<ls.length:=by omega
    obtain⟨x,hx⟩:∃x,ls[i]?=some x:=⟨ls[i],List.getElem?_eq_getElem lx⟩
    obtain⟨cv,nt,hb⟩:=pL i x hx
    obtain⟨b0,o0,c0,pG⟩:=dE.some (by intro h;rw[h]at nt;simp at nt)
    simp only[Value.slice.injEq]at pG
    obtain⟨rfl,-,rfl⟩:=pG
    refine go ?_
    refine bM i zr zr zr zr zr zr zr zr lx ?_
    obtain⟨ax,cx,rfl,hcx⟩:=hb.2
    have o5:=Bq hx
    have gk:((ls.take (i+1)).flatMap aV).length=((ls.take i).flatMap aV).length+(aV x).length:=by rw[o5,List.length_append]
    have hle:=Js ls (i+1)
    have ME:x.length≤(aV x).length:=by simp[aV]
    refine bj 6 i zr zr zr dE rfl nt zr zr ?_
    refine aO 1 rfl ?_
    intro av cv o4
    simp only at o4
    subst o4
    refine go ?_
    refine aF (fun w=>Sat G w ([ae xb (cl [.slice av ((ls.take i).flatMap aV).length cv] 22)])) (.st 0 (.st 1 (.act 2 (.act 3 (.act 4 .nil))))) rfl ak ak ak dT ?_
    refine go ?_
    refine cN (qu V _ x hb ag) ?_
    rintro r _ rfl
    refine aO 0 rfl ?_
    rintro ra rc rfl
    refine iy 0 rfl ?_
    intro F'
    refine go ?_
    refine aR (mm:=(aV x).length) (news:=bV (aV x)) 3 0 zr zr zr zr zr zr zr zr zr zr zr zr F' (by show _=_*1;rw[bC];omega) (cX _) (by simp only;omega) (by show(_+_)*1≤_;simp only;omega) (fun _=>rfl) (fun _ w hw=>by exact hw.cV ah) ?_
    intro v1
    simp only
    rw[show bV ((ls.take i).flatMap aV)++bV (aV x)=bV ((ls.take (i+1)).flatMap aV)from by rw[o5];simp[bV],← gk]
    refine aO 3 rfl ?_
    rintro va vc rfl
    refine go ?_
    refine aM ih (.slice va ((ls.take (i+1)).flatMap aV).length vc,i+1) rfl (by simp only;omega) (by simp only;omega) cg ah
  intro fA
  simp only at fA
  have gl:i=ls.length:=by omega
  subst gl
  rw[List.take_length]
  refine dz 1 rfl ?_
  intro av cv o4
  simp only at o4
  subst o4
  obtain⟨B,hB⟩:∃B,B=ls.flatMap aV:=⟨_,rfl⟩
  rw[← hB]at hl ⊢
  have hhl:(bZ 1 B.length).length=16:=gf _ _
  have fb:(ck ls)=List.replicate 16 0++bZ 1 B.length++B:=by rw[hB];rfl
  obtain⟨W,hW⟩:∃W,W=ck ls:=⟨_,rfl⟩
  rw[← hW]at fb
  have E4:W.length=32+B.length:=by rw[fb];simp only[List.length_append,List.length_replicate,hhl]
  have ad3:∀(m:Nat) (ra:Option Addr) (rc row:Nat),eM (aB 5 1 (.slice ra (bZ 1 B.length).length rc) (bZ 1 B.length).length (bV (bZ 1 B.length))) (.slice ra (bZ 1 B.length).length rc) (bZ 1 B.length) →
      eM (aB 5 1 (.slice av B.length cv) B.length (bV B)) (.slice av B.length cv) B→aE Tryz.prog 191 [.slice (some ⟨row,0,none⟩) 3 3]
      [Sep [ae row (cl [.slice (some ⟨m,0,none⟩) 16 16,.slice ra (bZ 1 B.length).length rc,.slice av B.length cv] 22),ae m (cl (bV (List.replicate 16 0)) 5),aB 5 1 (.slice ra (bZ 1 B.length).length rc) (bZ 1 B.length).length (bV (bZ 1 B.length)),aB 5 1 (.slice av B.length cv) B.length (bV B)]]
      (fun r H=>H=[aB 5 1 r W.length (bV W),Sep [ae row (cl [.slice (some ⟨m,0,none⟩) 16 16,.slice ra (bZ 1 B.length).length rc,.slice av B.length cv] 22),ae m (cl (bV (List.replicate 16 0)) 5),aB 5 1 (.slice ra (bZ 1 B.length).length rc) (bZ 1 B.length).length (bV (bZ 1 B.length)),aB 5 1 (.slice av B.length cv) B.length (bV B)]]):=by
    intro m ra rc row nX rh
    have nW:[List.replicate 16 0,bZ 1 B.length,B].flatten=W:=by rw[fb];simp only[List.flatten_cons,List.flatten_nil,List.append_nil,List.append_assoc]
    have:=Iv (Sep [ae row (cl [.slice (some ⟨m,0,none⟩) 16 16,.slice ra (bZ 1 B.length).length rc,.slice av B.length cv] 22),ae m (cl (bV (List.replicate 16 0)) 5),aB 5 1 (.slice ra (bZ 1 B.length).length rc) (bZ 1 B.length).length (bV (bZ 1 B.length)),aB 5 1 (.slice av B.length cv) B.length (bV B)]) (.slice (some ⟨row,0,none⟩) 3 3) [List.replicate 16 0,bZ 1 B.length,B]
      ⟨[.slice (some ⟨m,0,none⟩) 16 16,.slice ra (bZ 1 B.length).length rc,.slice av B.length cv],(Vw.ae rfl).mono (bg (i:=0) rfl),rfl,⟨_,_,rfl,Nat.le_refl 3⟩,fun i x hx=>by
        match i,hx with
        | 0,hx=>cases hx;exact⟨_,rfl,⟨(Vw.ae (b:=m) (l:=bV (List.replicate 16 0)) (e:=5) rfl).mono (bg (i:=1) rfl),_,_,rfl,by decide⟩⟩
        | 1,hx=>cases hx;exact⟨_,rfl,nX.mono (bg (i:=2) rfl)⟩
        | 2,hx=>cases hx;exact⟨_,rfl,rh.mono (bg (i:=3) rfl)⟩
        | k+3,hx=>simp at hx⟩ (by rw[nW,E4];omega) (by show 3≤_;omega)
    rw[nW]at this
    exact this
  refine qE (bs:=B) 1 rfl ?_
  intro rh
  refine fL rfl ?_
  refine sl 1 (fun y:Option Addr × Nat × Nat=>True) (fun y=>[(0,ptr jb),(2,ptr xj),(5,ptr xf),(6,ptr xb),(9,ptr y.2.2)]) (fun y=>ae y.2.2 (cl [.slice y.1 W.length y.2.1] 22)::aB 5 1 (.slice y.1 W.length y.2.1) W.length (bV W)::ae xb (cl [.slice av B.length cv] 22)::ae xf (cl [.string fresh] 9)::ae xj (cl [ptr jb] 85)::aC bd A::ae jb (cl [ptr bd,.string name,.int .i64 n,.int .i64 s,.int .i64 c,.bool br] 186)::V::F) rfl ?_ ?_
  rotate_left
  · intro tail
    refine aF (fun w=>Sat G w ([ae xb (cl [.slice av B.length cv] 22)])) (.st 1 (.st 2 (.st 4 (.fork (.fork (.act 0 (.fork (.act 3 (.fork (.act 5 (.fork (.act 6 (.act 7 (.act 8 .nil))) (.act 7 (.act 6 (.act 8 .nil))))) (.act 7 (.act 5 (.act 6 (.act 8 .nil)))))) (.act 7 (.act 3 (.act 5 (.act 6 (.act 8 .nil))))))) (.act 3 (.fork (.act 0 (.fork (.act 5 (.fork (.act 6 (.act 7 (.act 8 .nil))) (.act 7 (.act 6 (.act 8 .nil))))) (.act 7 (.act 5 (.act 6 (.act 8 .nil)))))) (.act 7 (.act 0 (.act 5 (.act 6 (.act 8 .nil)))))))) (.act 7 (.fork (.act 0 (.act 3 (.act 5 (.act 6 (.act 8 .nil))))) (.act 3 (.act 0 (.act 5 (.act 6 (.act 8 .nil))))))))))) rfl ak ak ak dT ?_
    repeat'(first|refine qL ?_ ?_|(refine nh (U:=aQ) (p:=16) (q:=16) zr zr zr zr zr zr zr zr zr ag ag (by show 1*16≤_;omega) (fun _ w hw=>by exact hw.cV ah) ?_;intro m)|(((refine cN (yP 1 B.length ag ag) ?_));rintro _ _ rfl;((refine aO 0 rfl ?_));rintro ra rc rfl;refine gQ (bs:=bZ 1 B.length) 0 rfl ?_;intro nX)|(refine aj zr zr zr zr zr zr zr zr zr (fun _ w hw=>by exact hw.cV ah) ?_;intro row)|(refine az zr zr zr (fun _ w hw=>by exact hw.cV ah) ?_;intro x9)|(refine gD zr zr zr zr (ad3 m ra rc row nX rh) (al.trans ah (al.bS [_,_,_,_] _)) ?_ TQ;rintro _ _ rfl;((refine aO 0 rfl ?_));rintro wa wc rfl)|(refine aT ?_;(first|refine cq 0 gB zr zr zr zr zr zr zr zr zr ?_|refine cq 2 gB zr zr zr zr zr zr zr zr zr ?_);refine FO ?_;refine lh tail (wa,wc,x9) rfl trivial cg ah)|(refine gy ?_)|fail)
  rintro⟨wa,wc,x9⟩ -
  simp only
  refine go ?_
  refine aF (fun w=>Sat G w ([ae jb (cl [ptr bd,.string name,.int .i64 n,.int .i64 s,.int .i64 c,.bool br] 186),ae xj (cl [ptr jb] 85),ae xf (cl [.string fresh] 9)])) (cZ 0 5 (.act 5 (cZ 6 5 .nil))) rfl ak ak ak dT ?_
  refine go ?_
  refine bo (um bd A fresh) ?_
  refine go ?_
  refine sl 1 (fun y:Value × List Value=>y.2=if(A.size fresh).2=0 then [.func (.func 192) #[] #[ptr xj,ptr xf] ]else []) (fun y=>[(0,ptr jb),(2,ptr xj),(5,ptr xf),(6,ptr xb),(9,ptr x9),(10,y.1)]) (fun y=>ae xj (cl [ptr jb] 85)::ae jb (cl [ptr bd,.string name,.int .i64 n,.int .i64 s,.int .i64 c,.bool br] 186)::aB 96 1 y.1 y.2.length y.2::ae x9 (cl [.slice wa W.length wc] 22)::aB 5 1 (.slice wa W.length wc) W.length (bV W)::ae xb (cl [.slice av B.length cv] 22)::ae xf (cl [.string fresh] 9)::aC bd A::V::F) rfl ?_ ?_
  rotate_left
  · intro tail
    refine ai (bN 96 1 none _) ?_
    refine aq zr zr ?_ ?_
    · intro he
      refine go ?_
      refine aj zr zr zr zr zr zr zr zr zr bD ?_
      intro row
      refine go ?_
      refine aR (mm:=1) (news:=[.func (.func 192) #[] #[ptr xj,ptr xf]]) 1 0 zr zr zr zr zr zr zr zr zr zr zr zr (Vw.ae rfl) rfl (by simp[Value.oneCell']) ag (by show(0+1)*8≤_;omega) (fun _=>rfl) bD ?_
      intro v1
      refine aO 1 rfl ?_
      rintro va vc rfl
      refine ld ?_
      refine lh tail (.slice va (0+1) vc,[.func (.func 192) #[] #[ptr xj,ptr xf] ]) rfl (by rw[if_pos ag]) cg ah
    · intro he
      refine lh tail (.slice none 0 0,[]) rfl (by rw[if_neg ag]) cg ah
  rintro⟨sv,fv⟩ mS
  simp only at mS ⊢
  refine dz 2 rfl ?_
  rintro va vc rfl
  refine go ?_
  have nW:fv.length≤1:=by rw[mS];split <;> simp
  refine aj (cs:=[.func (.func 193) #[] #[ptr xj,ptr xf],.func (.func 194) #[] #[ptr xj,ptr xf,ptr x9],.func (.func 195) #[] #[ptr xj,ptr xf],.func (.func 196) #[] #[ptr xj,ptr xf],.func (.func 75) #[ptr bd] #[],.func (.func 197) #[] #[ptr xb,ptr xj] ]) zr zr zr zr zr zr zr zr zr bD ?_
  intro row
  refine go ?_
  refine aR (mm:=6) (news:=[.func (.func 193) #[] #[ptr xj,ptr xf],.func (.func 194) #[] #[ptr xj,ptr xf,ptr x9],.func (.func 195) #[] #[ptr xj,ptr xf],.func (.func 196) #[] #[ptr xj,ptr xf],.func (.func 75) #[ptr bd] #[],.func (.func 197) #[] #[ptr xb,ptr xj] ]) 3 0 zr zr zr zr zr zr zr zr zr zr zr zr (Vw.ae rfl) rfl (by simp[Value.oneCell']) ag (by show(_+6)*8≤_;omega) (fun _=>rfl) bD ?_
  intro v1
  refine iy 3 rfl ?_
  intro mf
  obtain⟨fs,nr⟩:∃fs,fs=fv++[.func (.func 193) #[] #[ptr xj,ptr xf],.func (.func 194) #[] #[ptr xj,ptr xf,ptr x9],.func (.func 195) #[] #[ptr xj,ptr xf],.func (.func 196) #[] #[ptr xj,ptr xf],.func (.func 75) #[ptr bd] #[],.func (.func 197) #[] #[ptr xb,ptr xj] ]:=⟨_,rfl⟩
  rw[← nr]at mf ⊢
  have abK:fs.length=fv.length+6:=by rw[nr,List.length_append];rfl
  rw[← abK]at mf ⊢
  have nV:(gI name ls A).length=fs.length:=by
    rw[abK,mS];unfold gI;rw[xg]
    split <;> rfl
  have hWb:W.length≤1000000000:=by omega
  have vd:∀(i:Nat) (fv:Value) (s:PS→Nat→PS→Prop),fs[i]?=some fv→(gI name ls A)[i]?=some s→∃g fi cap,fv = .func (.func g) fi cap∧∀x,PQ i x→aE Tryz.prog g (fi.toList++cap.toList) [PI bd jb xj xf x9 xb name fresh wa av wc B.length cv W br x] (fun r H=>∃(e:Nat) (x':PS),r = .int .i64 (e:Int)∧H=[PI bd jb xj xf x9 xb name fresh wa av wc B.length cv W br x']∧s x e x'∧(e=0→PQ (i+1) x')):=by
    intro i f1 s1 h1 h2
    have hi:i<fs.length:=(List.getElem?_eq_some_iff.1 h1).1
    have yM:i≤10:=by omega
    unfold gI at h2
    rw[xg,← hW,← hB]at h2
    rw[nr,mS]at h1
    by_cases hz:(A.size fresh).2=0
    · rw[if_pos hz]at h1 h2
      match i,h1,h2 with
      | 0,h1,h2=>cases h1;cases h2;exact⟨_,_,_,rfl,fun x hq=>W4 _ _ _ _ _ _ _ _ _ _ _ _ _ _ _ _ yM x hq⟩
      | 1,h1,h2=>cases h1;cases h2;exact⟨_,_,_,rfl,fun x hq=>NN _ _ _ _ _ _ _ _ _ _ _ _ _ _ _ _ yM x hq⟩
      | 2,h1,h2=>cases h1;cases h2;exact⟨_,_,_,rfl,fun x hq=>NL _ _ _ _ _ _ _ _ _ _ _ _ _ _ _ _ yM hWb x hq⟩
      | 3,h1,h2=>cases h1;cases h2;exact⟨_,_,_,rfl,fun x hq=>NJ _ _ _ _ _ _ _ _ _ _ _ _ _ _ _ _ yM x hq⟩
      | 4,h1,h2=>cases h1;cases h2;exact⟨_,_,_,rfl,fun x hq=>NH _ _ _ _ _ _ _ _ _ _ _ _ _ _ _ _ yM x hq⟩
      | 5,h1,h2=>cases h1;cases h2;exact⟨_,_,_,rfl,fun x hq=>NA _ _ _ _ _ _ _ _ _ _ _ _ _ _ _ _ x hq⟩
      | 6,h1,h2=>cases h1;cases h2;exact⟨_,_,_,rfl,fun x hq=>NF _ _ _ _ _ _ _ _ _ _ _ _ _ _ _ _ x hq⟩
      | k+7,h1,h2=>simp at h1
    · rw[if_neg hz]at h1 h2
      match i,h1,h2 with
      | 0,h1,h2=>cases h1;cases h2;exact⟨_,_,_,rfl,fun x hq=>NN _ _ _ _ _ _ _ _ _ _ _ _ _ _ _ _ yM x hq⟩
      | 1,h1,h2=>cases h1;cases h2;exact⟨_,_,_,rfl,fun x hq=>NL _ _ _ _ _ _ _ _ _ _ _ _ _ _ _ _ yM hWb x hq⟩
      | 2,h1,h2=>cases h1;cases h2;exact⟨_,_,_,rfl,fun x hq=>NJ _ _ _ _ _ _ _ _ _ _ _ _ _ _ _ _ yM x hq⟩
      | 3,h1,h2=>cases h1;cases h2;exact⟨_,_,_,rfl,fun x hq=>NH _ _ _ _ _ _ _ _ _ _ _ _ _ _ _ _ yM x hq⟩
      | 4,h1,h2=>cases h1;cases h2;exact⟨_,_,_,rfl,fun x hq=>NA _ _ _ _ _ _ _ _ _ _ _ _ _ _ _ _ x hq⟩
      | 5,h1,h2=>cases h1;cases h2;exact⟨_,_,_,rfl,fun x hq=>NF _ _ _ _ _ _ _ _ _ _ _ _ _ _ _ _ x hq⟩
      | k+6,h1,h2=>simp at h1
  have fH:=JJ (PI bd jb xj xf x9 xb name fresh wa av wc B.length cv W br) (aB 96 1 v1 fs.length fs) v1 fs mf ag (gI name ls A) nV PQ vd (A,n,s,c) ⟨by simp only;omega,by simp only;omega⟩
  refine aO 3 rfl ?_
  rintro va2 vc2 rfl
  refine go ?_
  refine gD zr zr zr zr fH (al.trans ah (al.cons _ (al.bS [aC bd A,ae jb (cl [ptr bd,.string name,.int .i64 n,.int .i64 s,.int .i64 c,.bool br] 186),ae xj (cl [ptr jb] 85),ae xf (cl [.string fresh] 9),ae x9 (cl [.slice wa W.length wc] 22),ae xb (cl [.slice av B.length cv] 22),aB 5 1 (.slice wa W.length wc) W.length (bV W)] _))) ?_ mM
  rintro _ _⟨e,y,rfl,rfl,hr⟩
  refine aI (al.trans (al.pick [1] rfl) (al.cD [aC bd y.1,ae jb (cl [ptr bd,.string name,.int .i64 y.2.1,.int .i64 y.2.2.1,.int .i64 y.2.2.2,.bool br] 186),ae xj (cl [ptr jb] 85),ae xf (cl [.string fresh] 9),ae x9 (cl [.slice wa W.length wc] 22),ae xb (cl [.slice av B.length cv] 22),aB 5 1 (.slice wa W.length wc) W.length (bV W)] _)) (go ?_)
  refine ad hE Tryz.func133 zr zr ⟨e,y,rfl,rfl,hr⟩
def Rj(name:ByteArray)(f:Nat):((Ab.new 1).create (isName name) name f).1=if isName name then 0 else 1:=by
 cases h:isName name <;> simp[Ab.create,Ab.meet,Ab.new,Ab.look,Ab.cP]
def I1(name:ByteArray):aE Tryz.prog 129 [.string name] [] (fun r H=>r = .bool (isName name)∧H=[]):=by
 refine aE.ao Tryz.func129 Tryz.ntmps129 fun G F R hE=>?_
 refine go ?_
 refine aH (Ij 1 ag ag) ?_
 rintro _ _⟨bd,rfl,rfl⟩
 refine go ?_
 refine aH (vB bd (Ab.new 1) name (by simp[Ab.new])) ?_
 rintro _ _⟨f,hf,rfl,rfl⟩
 rw[Rj]
 refine go ?_
 ((refine aX 2 ((.bool (isName name))) rfl ((congrArg Value.bool (by cases isName name <;> rfl))) ?_))
 refine ai (al.drop _ _) ?_
 refine ad hE Tryz.func129 zr zr ⟨rfl,rfl⟩
def sR(jb bd:Nat)(name:ByteArray)(n s c:Int)(br:Bool)(e:Nat):aE Tryz.prog 141 [ptr jb,.int .i64 (e:Int)] [jr jb bd name n s c br] (fun r H=>r = .int .i64 (e:Int)∧H=[jr jb bd name n s c (br || decide (e≠0))]):=by
 unfold jr
 refine aE.ao Tryz.func141 Tryz.ntmps141 fun G F R hE=>?_
 cases br
 ·refine go ?_
  have hd:decide ((e:Int)≠0)=(false || decide (e≠0)):=by by_cases h:e=0 <;> simp[h]
  simp only[hd]
  refine ad hE Tryz.func141 zr zr ⟨rfl,rfl⟩
 ·refine go ?_
  refine ad hE Tryz.func141 zr zr ⟨rfl,rfl⟩
structure JN where
 n:Int
 s:Int
 c:Int
 br:Bool
def rU(jb bd:Nat)(name:ByteArray)(x:JN):HP:=jr jb bd name x.n x.s x.c x.br
def cY(name:ByteArray)(A:Ab)(x:JN)(b:List UInt8):Nat × Ab × JN :=
 if x.br then(10,A,x)else if 4096<b.length then(1,A,x)else if 524288<x.s+(aV b).length then(3,A,x)else
 if(A.write (fZ name (32+x.s) (aV b)) name (32+x.s).toNat (aV b)).1=0 then(0,(A.write (fZ name (32+x.s) (aV b)) name (32+x.s).toNat (aV b)).2,{ x with s:=x.s+(aV b).length })
 else((A.write (fZ name (32+x.s) (aV b)) name (32+x.s).toNat (aV b)).1,(A.write (fZ name (32+x.s) (aV b)) name (32+x.s).toNat (aV b)).2,{ x with br:=true })
def n9(b:List UInt8)(h:b.length≤1000000000000):(aV b).length≤b.length+10:=by
 have:=pQ (n:=b.length) ag
 simp[aV];omega
def jrE(jb bd:Nat)(name:ByteArray)(n s c:Int):HP:=fun h=>∃br,ae jb (cl [ptr bd,.string name,.int .i64 n,.int .i64 s,.int .i64 c,.bool br] 186) h
def He(jb bd:Nat)(name:ByteArray)(n s c:Int)(br:Bool)(H:List HP):al (ae jb (cl [ptr bd,.string name,.int .i64 n,.int .i64 s,.int .i64 c,.bool br] 186)::H) (jrE jb bd name n s c::H) :=
 al.fold (B:=[_]) fun h' hs=>⟨h',sub.refl h',br,eU hs⟩
end Go.Proofs.YtedjnjkijiddlaaGreatDoor
namespace Go.Proofs.YtedjnjkijiddlaaGreatDoor
open Go Go.SL
def yA{G:cJ}{w:World}{jb bd:Nat}{name:ByteArray}{n s c:Int}(hw:Sat G w [jrE jb bd name n s c]):w.cell? ⟨jb,0,none⟩=some (ptr bd)∧w.cell? ⟨jb,1,none⟩=some (.string name)∧w.cell? ⟨jb,3,none⟩=some (.int .i64 s):=by
 obtain⟨h,hh,br,hA⟩:=hw.lf (i:=0) rfl
 have hb:h jb=some (cl [ptr bd,.string name,.int .i64 n,.int .i64 s,.int .i64 c,.bool br] 186):=by rw[hA jb,if_pos rfl]
 exact⟨dW hh (by unfold dF;rw[hb];rfl),dW hh (by unfold dF;rw[hb];rfl),dW hh (by unfold dF;rw[hb];rfl)⟩
attribute [local irreducible] J K aE Ends ae aB aP bP bq aS aZ bu bX aC
def IA(jb bd:Nat)(name:ByteArray)(A:Ab)(x:JN)(X:HP)(bv:Value)(b:List UInt8)(hv:eM X bv b)(hl:b.length≤9223372036854775807)(hs:0≤x.s∧x.s≤1000000000)(fb:A.writes.length≤1000000000) :
  aE Tryz.prog 91 [ptr jb,bv] [aC bd A,rU jb bd name x,X]
   (fun r H=>r = .int .i64 ((cY name A x b).1:Int)∧H=[aC bd (cY name A x b).2.1,rU jb bd name (cY name A x b).2.2,X]):=by
 obtain⟨n,s,c,br⟩:=x
 obtain⟨a,cc,rfl,hc⟩:=hv.2
 simp only at hs
 dsimp only [rU,jr]
 refine aE.ao Tryz.func91 Tryz.ntmps91 fun G F R hE=>?_
 dsimp only [cY]at hE
 cases br with
 | true =>
  simp only[if_true]at hE
  refine go ?_
  refine ad hE Tryz.func91 zr zr ⟨rfl,rfl⟩
 | false =>
  simp only[Bool.false_eq_true,if_false]at hE
  refine go ?_
  refine aq zr zr ?_ ?_
  ·intro tQ
   rw[if_pos ag]at hE
   refine go ?_
   refine ad hE Tryz.func91 zr zr ⟨rfl,rfl⟩
  intro Ae
  have hb4:b.length≤4096:=by omega
  have pL:=n9 b ag
  rw[if_neg ag]at hE
  refine go ?_
  refine aH (qu X _ b hv ag) ?_
  rintro r _ rfl
  refine aO 0 rfl ?_
  rintro ra rc rfl
  refine gQ (bs:=aV b) 0 rfl ?_
  intro MJ
  refine go ?_
  refine aq zr zr ?_ ?_
  ·intro tQ
   rw[if_pos ag]at hE
   refine go ?_
   refine ad hE Tryz.func91 zr zr ⟨rfl,rfl⟩
  intro yN
  rw[if_neg ag]at hE
  refine go ?_
  refine aF (fun w=>Sat G w [jrE jb bd name n s c]) (cZ 0 15 (.act 15 (.act 16 (.st 17 .nil)))) rfl ak ak ak (fun w hw=>hw.cV (al.trans ah (He jb bd name n s c false []))) ?_
  refine go ?_
  refine aK ?_
  refine lU zr zr (fun w hw=>(yA hw).1) zr zr ?_
  refine go ?_
  refine aK ?_
  refine lU zr zr (fun w hw=>(yA hw).2.1) zr zr ?_
  refine go ?_
  refine aK ?_
  refine lU zr zr (fun w hw=>(yA hw).2.2) zr zr ?_
  refine go ?_
  obtain⟨W,hW⟩:∃W,W=A.write (fZ name (32+s) (aV b)) name (32+s).toNat (aV b):=⟨_,rfl⟩
  have qj:=ui bd A name (32+s) (aB 5 1 (.slice ra (aV b).length rc) (aV b).length (bV (aV b))) (.slice ra (aV b).length rc) (aV b) MJ.1 fb ag ag
  rw[← hW]at hE qj
  refine gD rfl rfl rfl rfl qj ah ?_ (fun _ _ w hp hw=>by obtain⟨rfl,rfl⟩:=hp;exact hw.cV (al.trans ah (He jb bd name n s c false [])))
  rintro _ _⟨rfl,rfl⟩
  refine gD zr zr zr zr (sR jb bd name n s c false W.1) ah ?_ (fun _ _ w hp hw=>by obtain⟨rfl,rfl⟩:=hp;exact hw.cV (al.trans ah (He jb bd name n s c _ [])))
  rintro _ _⟨rfl,rfl⟩
  unfold jr
  refine go ?_
  refine aq zr zr ?_ ?_
  ·intro bY
   have fT:¬W.1=0:=by omega
   rw[if_neg fT]at hE
   have hd:(false || decide (W.1≠0))=true:=by simp[fT]
   simp only[hd]
   refine go ?_
   refine ad hE Tryz.func91 zr zr ⟨rfl,rfl⟩
  ·intro heq
   have o6:W.1=0:=by omega
   rw[if_pos o6]at hE
   have hd:(false || decide (W.1≠0))=false:=by simp[o6]
   simp only[hd]
   refine go ?_
   refine ad hE Tryz.func91 zr zr ⟨rfl,rfl⟩
def CI(bd jb x1 x3:Nat)(name:ByteArray)(next sz:Nat)(x:PS):HP:=Sep [aC bd x.1,ae jb (cl [ptr bd,.string name,.int .i64 x.2.1,.int .i64 x.2.2.1,.int .i64 x.2.2.2,.bool false] 186),ae x1 (cl [ptr jb] 85),ae x3 (cl [.int .i64 (next:Int)] 3)]
def CQ(sz:Nat)(i:Nat)(x:PS):Prop:=x.2.2.1=(sz:Int)∧x.1.aw.length≤900000000+i∧x.1.writes.length≤900000000+i
def CQ.next{sz i:Nat}{x:PS}(h:CQ sz i x){B:Ab}(g:j0 x.1 B):CQ sz (i+1) (B,x.2):=by
 obtain⟨h0,h1,h2⟩:=h
 obtain⟨g1,g2⟩:=g
 exact⟨h0,by simp only;omega,by simp only;omega⟩
def JG(name:ByteArray):=SP fun A e B=>e=(A.sync (isName name) name).1∧B=(A.sync (isName name) name).2
def TH(name:ByteArray)(next sz:Nat):=SP fun A e B=>e=(A.write (fZ name ((next%2*16:Nat):Int) (bZ next sz)) name (next%2*16) (bZ next sz)).1∧B=(A.write (fZ name ((next%2*16:Nat):Int) (bZ next sz)) name (next%2*16) (bZ next sz)).2
def acf(next:Nat)(x:PS)(e:Nat)(y:PS):Prop:=e=0∧y=(x.1,(next:Int),x.2.2.1,x.2.2.1)
def qw(name:ByteArray)(next sz:Nat):List (PS→Nat→PS→Prop):=[JG name,TH name next sz,JG name,acf next]
def j5(name:ByteArray)(A:Ab)(x:JN)(e:Nat)(A':Ab)(x':JN):Prop :=
 if x.br then e=10∧A'=A∧x'=x else if x.s=x.c then e=0∧A'=A∧x'=x else if 1073741824≤x.n then e=3∧A'=A∧x'=x
 else ∃y:PS,iZ (qw name (x.n.toNat+1) x.s.toNat) (A,x.n,x.s,x.c) e y∧A'=y.1∧x'=⟨y.2.1,y.2.2.1,y.2.2.2,decide (e≠0)⟩
def F0(bd jb x1 x3:Nat)(name:ByteArray)(next sz:Nat)(A:Ab)(n s c:Int)(fb:A.writes.length≤1000000000) :
  aE Tryz.prog 152 [ptr x1] ([aC bd A,ae jb (cl [ptr bd,.string name,.int .i64 n,.int .i64 s,.int .i64 c,.bool false] 186),ae x1 (cl [ptr jb] 85),ae x3 (cl [.int .i64 (next:Int)] 3)]) (fun r H=>∃(e:Nat) (A1:Ab),e=(A.sync (isName name) name).1∧A1=(A.sync (isName name) name).2∧r = .int .i64 (e:Int)∧H=[aC bd A1,ae jb (cl [ptr bd,.string name,.int .i64 n,.int .i64 s,.int .i64 c,.bool false] 186),ae x1 (cl [ptr jb] 85),ae x3 (cl [.int .i64 (next:Int)] 3)]):=by
 refine aE.ao Tryz.func152 Tryz.ntmps152 fun G F R hE=>?_
 refine go ?_
 refine aF (fun w=>Sat G w ([ae jb (cl [ptr bd,.string name,.int .i64 n,.int .i64 s,.int .i64 c,.bool false] 186),ae x1 (cl [ptr jb] 85),ae x3 (cl [.int .i64 (next:Int)] 3)])) (cZ 0 8 (.act 8 (.st 9 .nil))) rfl ak ak ak dT ?_
 refine go ?_
 refine bo (uj bd A name fb) ?_
 refine go ?_
 refine ad hE Tryz.func152 zr zr ⟨_,_,rfl,rfl,rfl,rfl⟩
def FY(bd jb x1 x3:Nat)(name:ByteArray)(next sz:Nat)(A:Ab)(n s c:Int)(fb:A.writes.length≤1000000000) :
  aE Tryz.prog 155 [ptr x1] ([aC bd A,ae jb (cl [ptr bd,.string name,.int .i64 n,.int .i64 s,.int .i64 c,.bool false] 186),ae x1 (cl [ptr jb] 85),ae x3 (cl [.int .i64 (next:Int)] 3)]) (fun r H=>∃(e:Nat) (A1:Ab),e=(A.sync (isName name) name).1∧A1=(A.sync (isName name) name).2∧r = .int .i64 (e:Int)∧H=[aC bd A1,ae jb (cl [ptr bd,.string name,.int .i64 n,.int .i64 s,.int .i64 c,.bool false] 186),ae x1 (cl [ptr jb] 85),ae x3 (cl [.int .i64 (next:Int)] 3)]):=by
 refine aE.ao Tryz.func155 Tryz.ntmps155 fun G F R hE=>?_
 refine go ?_
 refine aF (fun w=>Sat G w ([ae jb (cl [ptr bd,.string name,.int .i64 n,.int .i64 s,.int .i64 c,.bool false] 186),ae x1 (cl [ptr jb] 85),ae x3 (cl [.int .i64 (next:Int)] 3)])) (cZ 0 8 (.act 8 (.st 9 .nil))) rfl ak ak ak dT ?_
 refine go ?_
 refine bo (uj bd A name fb) ?_
 refine go ?_
 refine ad hE Tryz.func155 zr zr ⟨_,_,rfl,rfl,rfl,rfl⟩
def FZ(bd jb x1 x3:Nat)(name:ByteArray)(next sz:Nat)(pK:next≤2000000000)(iB:sz≤2000000000)(A:Ab)(n c:Int)(fb:A.writes.length≤1000000000) :
  aE Tryz.prog 153 [ptr x1,ptr x3] ([aC bd A,ae jb (cl [ptr bd,.string name,.int .i64 n,.int .i64 (sz:Int),.int .i64 c,.bool false] 186),ae x1 (cl [ptr jb] 85),ae x3 (cl [.int .i64 (next:Int)] 3)]) (fun r H=>∃(e:Nat) (A1:Ab),e=(A.write (fZ name ((next%2*16:Nat):Int) (bZ next sz)) name (next%2*16) (bZ next sz)).1∧A1=(A.write (fZ name ((next%2*16:Nat):Int) (bZ next sz)) name (next%2*16) (bZ next sz)).2∧r = .int .i64 (e:Int)∧H=[aC bd A1,ae jb (cl [ptr bd,.string name,.int .i64 n,.int .i64 (sz:Int),.int .i64 c,.bool false] 186),ae x1 (cl [ptr jb] 85),ae x3 (cl [.int .i64 (next:Int)] 3)]):=by
 refine aE.ao Tryz.func153 Tryz.ntmps153 fun G F R hE=>?_
 refine go ?_
 refine aF (fun w=>Sat G w ([ae jb (cl [ptr bd,.string name,.int .i64 n,.int .i64 (sz:Int),.int .i64 c,.bool false] 186),ae x1 (cl [ptr jb] 85),ae x3 (cl [.int .i64 (next:Int)] 3)])) (cZ 0 16 (.act 16 (.act 17 (.st 18 .nil)))) rfl ak ak ak dT ?_
 refine go ?_
 refine mI zr zr zr ag ag ?_
 refine au 12 (.int .i64 ((next%2:Nat):Int)) rfl (congrArg (Value.int .i64) ag) (go ?_)
 refine ib zr zr zr (by simp only[gq];omega) ?_
 refine au 13 (.int .i64 ((next%2*16:Nat):Int)) rfl (congrArg (Value.int .i64) ag) (go ?_)
 refine cN (yP next sz ag ag) ?_
 rintro _ _ rfl
 refine aO 0 rfl ?_
 rintro ra rc rfl
 refine gQ (bs:=bZ next sz) 0 rfl ?_
 intro MJ
 have qj:=ui bd A name ((next%2*16:Nat):Int) _ _ (bZ next sz) MJ.1 fb (by rw[gf];omega) ag
 rw[Int.toNat_natCast]at qj
 refine bo qj ?_
 refine go ?_
 refine ad hE Tryz.func153 zr zr ⟨_,_,rfl,rfl,rfl,rfl⟩
def jrS(jb:Nat)(s:Int):HP:=fun h=>∃bd name n c br,ae jb (cl [ptr bd,.string name,.int .i64 n,.int .i64 s,.int .i64 c,.bool br] 186) h
def Ol(jb bd:Nat)(name:ByteArray)(n s c:Int)(br:Bool)(H:List HP):al (ae jb (cl [ptr bd,.string name,.int .i64 n,.int .i64 s,.int .i64 c,.bool br] 186)::H) (jrS jb s::H) :=
 al.fold (B:=[_]) fun h' hs=>⟨h',sub.refl h',bd,name,n,c,br,eU hs⟩
end Go.Proofs.YtedjnjkijiddlaaGreatDoor
namespace Go.Proofs.YtedjnjkijiddlaaGreatDoor
open Go Go.SL
def Om{G:cJ}{w:World}{jb:Nat}{s:Int}{H:List HP}(hw:Sat G w (jrS jb s::H)):w.cell? ⟨jb,3,none⟩=some (.int .i64 s):=by
 obtain⟨h,hh,bd,name,n,c,br,hA⟩:=hw.lf (i:=0) rfl
 have hb:h jb=some (cl [ptr bd,.string name,.int .i64 n,.int .i64 s,.int .i64 c,.bool br] 186):=by rw[hA jb,if_pos rfl]
 exact dW hh (by unfold dF;rw[hb];rfl)
attribute [local irreducible] J K aE Ends ae aB aP bP bq aS aZ bu bX aC
def FX(bd jb x1 x3:Nat)(name:ByteArray)(next sz:Nat)(A:Ab)(n s c:Int) :
  aE Tryz.prog 156 [ptr x3,ptr x1] ([aC bd A,ae jb (cl [ptr bd,.string name,.int .i64 n,.int .i64 s,.int .i64 c,.bool false] 186),ae x1 (cl [ptr jb] 85),ae x3 (cl [.int .i64 (next:Int)] 3)]) (fun r H=>r = .int .i64 0∧H=[aC bd A,ae jb (cl [ptr bd,.string name,.int .i64 (next:Int),.int .i64 s,.int .i64 s,.bool false] 186),ae x1 (cl [ptr jb] 85),ae x3 (cl [.int .i64 (next:Int)] 3)]):=by
 refine aE.ao Tryz.func156 Tryz.ntmps156 fun G F R hE=>?_
 refine go ?_
 refine aF (fun w=>Sat G w [jrS jb s,ae x1 (cl [ptr jb] 85),ae x3 (cl [.int .i64 (next:Int)] 3)]) (cZ 0 9 (.act 9 (.st 10 (.st 11 (.act 12 .nil))))) rfl ak ak ak (fun w hw=>hw.cV (al.trans ah (Ol jb bd name _ s _ _ _))) ?_
 refine go ?_
 refine aK ?_
 refine lU zr zr (fun w hw=>Om hw) zr zr ?_
 refine go ?_
 refine aT ?_
 refine cq 1 (fun w hw=>by exact hw.cV (al.trans ah (Ol jb bd name _ s _ _ _))) zr zr zr zr zr zr zr zr zr ?_
 refine go ?_
 refine ad hE Tryz.func156 zr zr ⟨rfl,rfl⟩
def Mt(bd jb x1 x3:Nat)(name:ByteArray)(next sz:Nat)(i:Nat)(hi:i≤10)(x:PS)(hq:CQ sz i x) :
  aE Tryz.prog 152 [ptr x1] [CI bd jb x1 x3 name next sz x] (fun r H=>∃(e:Nat) (x':PS),r = .int .i64 (e:Int)∧H=[CI bd jb x1 x3 name next sz x']∧JG name x e x'∧(e=0→CQ sz (i+1) x')):=by
 obtain⟨A,n,s,c⟩:=x
 have h0:=hq.1
 simp only at h0
 subst h0
 exact(F0 bd jb x1 x3 name next sz A n (sz:Int) c (by have:=hq.2.2;simp only at this;omega)).conv (al.lX _) (by
  rintro v H⟨e,A1,he,sP,rfl,rfl⟩
  exact⟨_,⟨_,(A1,n,(sz:Int),c),rfl,rfl,⟨⟨he,sP⟩,rfl⟩,fun _=>hq.next (sP ▸ kE _ _ _)⟩,al.l6 _⟩)
def Mr(bd jb x1 x3:Nat)(name:ByteArray)(next sz:Nat)(i:Nat)(hi:i≤10)(x:PS)(hq:CQ sz i x) :
  aE Tryz.prog 155 [ptr x1] [CI bd jb x1 x3 name next sz x] (fun r H=>∃(e:Nat) (x':PS),r = .int .i64 (e:Int)∧H=[CI bd jb x1 x3 name next sz x']∧JG name x e x'∧(e=0→CQ sz (i+1) x')):=by
 obtain⟨A,n,s,c⟩:=x
 have h0:=hq.1
 simp only at h0
 subst h0
 exact(FY bd jb x1 x3 name next sz A n (sz:Int) c (by have:=hq.2.2;simp only at this;omega)).conv (al.lX _) (by
  rintro v H⟨e,A1,he,sP,rfl,rfl⟩
  exact⟨_,⟨_,(A1,n,(sz:Int),c),rfl,rfl,⟨⟨he,sP⟩,rfl⟩,fun _=>hq.next (sP ▸ kE _ _ _)⟩,al.l6 _⟩)
def Ms(bd jb x1 x3:Nat)(name:ByteArray)(next sz:Nat)(i:Nat)(hi:i≤10)(pK:next≤2000000000)(iB:sz≤2000000000)(x:PS)(hq:CQ sz i x) :
  aE Tryz.prog 153 [ptr x1,ptr x3] [CI bd jb x1 x3 name next sz x] (fun r H=>∃(e:Nat) (x':PS),r = .int .i64 (e:Int)∧H=[CI bd jb x1 x3 name next sz x']∧TH name next sz x e x'∧(e=0→CQ sz (i+1) x')):=by
 obtain⟨A,n,s,c⟩:=x
 have h0:=hq.1
 simp only at h0
 subst h0
 exact(FZ bd jb x1 x3 name next sz pK iB A n c (by have:=hq.2.2;simp only at this;omega)).conv (al.lX _) (by
  rintro v H⟨e,A1,he,sP,rfl,rfl⟩
  exact⟨_,⟨_,(A1,n,(sz:Int),c),rfl,rfl,⟨⟨he,sP⟩,rfl⟩,fun _=>hq.next (sP ▸ kD _ _ _ _ _)⟩,al.l6 _⟩)
def Mq(bd jb x1 x3:Nat)(name:ByteArray)(next sz:Nat)(i:Nat)(hi:i≤10)(x:PS)(hq:CQ sz i x) :
  aE Tryz.prog 156 [ptr x3,ptr x1] [CI bd jb x1 x3 name next sz x] (fun r H=>∃(e:Nat) (x':PS),r = .int .i64 (e:Int)∧H=[CI bd jb x1 x3 name next sz x']∧acf next x e x'∧(e=0→CQ sz (i+1) x')):=by
 obtain⟨A,n,s,c⟩:=x
 have h0:=hq.1
 simp only at h0
 subst h0
 exact(FX bd jb x1 x3 name next sz A n (sz:Int) c).conv (al.lX _) (by
  rintro v H⟨rfl,rfl⟩
  exact⟨_,⟨_,(A,(next:Int),(sz:Int),(sz:Int)),(by exact(congrArg (Value.int .i64) (show(0:Int)=((0:Nat):Int)from rfl))),rfl,⟨rfl,rfl⟩,fun _=>⟨rfl,by have:=hq.2.1;simp only at this ⊢;omega,by have:=hq.2.2;simp only at this ⊢;omega⟩⟩,al.l6 _⟩)
def Iw(jb bd:Nat)(name:ByteArray)(A:Ab)(x:JN)(hn:0≤x.n)(hs:0≤x.s∧x.s≤1000000000)(cK:A.aw.length≤900000000)(qj:A.writes.length≤900000000) :
  aE Tryz.prog 92 [ptr jb] [aC bd A,rU jb bd name x]
   (fun r H=>∃(e:Nat) (A':Ab) (x':JN),r = .int .i64 (e:Int)∧H=[aC bd A',rU jb bd name x']∧j5 name A x e A' x'):=by
 obtain⟨n,s,c,br⟩:=x
 simp only at hs hn
 dsimp only [rU,jr]
 refine aE.ao Tryz.func92 Tryz.ntmps92 fun G F R hE=>?_
 refine go ?_
 refine bG zr zr bD ?_
 intro x1
 cases br with
 | true =>
  refine go ?_
  ((refine ad hE Tryz.func92 zr zr ⟨10,A,⟨n,s,c,true⟩,rfl,rfl,(by unfold j5;rw[if_pos rfl];exact⟨rfl,rfl,rfl⟩)⟩))
 | false =>
  refine go ?_
  refine aF (fun w=>Sat G w ([ae x1 (cl [ptr jb] 85),ae jb (cl [ptr bd,.string name,.int .i64 n,.int .i64 s,.int .i64 c,.bool false] 186)])) (cZ 0 10 .nil) rfl ak ak ak dT ?_
  refine go ?_
  refine aq zr zr ?_ ?_
  ·intro heq
   refine go ?_
   ((refine ad hE Tryz.func92 zr zr ⟨0,A,⟨n,s,c,false⟩,rfl,rfl,(by unfold j5;rw[if_neg (by simp),if_pos heq];exact⟨rfl,rfl,rfl⟩)⟩))
  intro bY
  refine go ?_
  refine aq zr zr ?_ ?_
  ·intro tQ
   refine go ?_
   ((refine ad hE Tryz.func92 zr zr ⟨3,A,⟨n,s,c,false⟩,rfl,rfl,(by unfold j5;rw[if_neg (by simp),if_neg bY,if_pos tQ];exact⟨rfl,rfl,rfl⟩)⟩))
  intro Ae
  obtain⟨sz,rfl⟩:∃sz:Nat,s=(sz:Int):=⟨s.toNat,ag⟩
  obtain⟨nx,pK⟩:∃nx:Nat,n+1=(nx:Int):=⟨n.toNat+1,ag⟩
  refine go ?_
  refine au 29 (.int .i64 (nx:Int)) rfl (congrArg (Value.int .i64) pK) ?_
  refine az zr zr zr bD ?_
  intro x3
  refine go ?_
  refine aF (fun w=>Sat G w ([ae x1 (cl [ptr jb] 85)])) (cZ 0 5 (.act 5 (.act 6 (.act 7 (.st 8 .nil))))) rfl ak ak ak dT ?_
  refine go ?_
  have vd:∀(i:Nat) (fv:Value) (s:PS→Nat→PS→Prop),([.func (.func 152) #[] #[ptr x1],.func (.func 153) #[] #[ptr x1,ptr x3],.func (.func 155) #[] #[ptr x1],.func (.func 156) #[] #[ptr x3,ptr x1] ]:List Value)[i]?=some fv→(qw name nx sz)[i]?=some s→∃g fi cap,fv = .func (.func g) fi cap∧∀x,CQ sz i x→aE Tryz.prog g (fi.toList++cap.toList) [CI bd jb x1 x3 name nx sz x] (fun r H=>∃(e:Nat) (x':PS),r = .int .i64 (e:Int)∧H=[CI bd jb x1 x3 name nx sz x']∧s x e x'∧(e=0→CQ sz (i+1) x')):=by
   intro i f1 s1 h1 h2
   match i,h1,h2 with
   | 0,h1,h2=>cases h1;cases h2;exact⟨_,_,_,rfl,fun x hq=>Mt bd jb x1 x3 name nx sz 0 ag x hq⟩
   | 1,h1,h2=>cases h1;cases h2;exact⟨_,_,_,rfl,fun x hq=>Ms bd jb x1 x3 name nx sz 1 ag ag ag x hq⟩
   | 2,h1,h2=>cases h1;cases h2;exact⟨_,_,_,rfl,fun x hq=>Mr bd jb x1 x3 name nx sz 2 ag x hq⟩
   | 3,h1,h2=>cases h1;cases h2;exact⟨_,_,_,rfl,fun x hq=>Mq bd jb x1 x3 name nx sz 3 ag x hq⟩
   | k+4,h1,h2=>simp at h1
  refine aj (cs:=[.func (.func 152) #[] #[ptr x1],.func (.func 153) #[] #[ptr x1,ptr x3],.func (.func 155) #[] #[ptr x1],.func (.func 156) #[] #[ptr x3,ptr x1] ]) zr zr zr zr zr zr zr zr zr (fun _ w hw=>by exact hw.cV ah) ?_
  intro row
  have fH:=JJ (CI bd jb x1 x3 name nx sz) (ae row (cl ([.func (.func 152) #[] #[ptr x1],.func (.func 153) #[] #[ptr x1,ptr x3],.func (.func 155) #[] #[ptr x1],.func (.func 156) #[] #[ptr x3,ptr x1] ]) 96)) (.slice (some ⟨row,0,none⟩) 4 4) ([.func (.func 152) #[] #[ptr x1],.func (.func 153) #[] #[ptr x1,ptr x3],.func (.func 155) #[] #[ptr x1],.func (.func 156) #[] #[ptr x3,ptr x1] ]) (Vw.ae rfl) (by show 4≤_;omega) (qw name nx sz) rfl (CQ sz) vd (A,n,(sz:Int),c) ⟨rfl,by simp only;omega,by simp only;omega⟩
  refine gD zr zr zr zr fH (al.trans ah (al.cons _ (al.bS ([aC bd A,ae jb (cl [ptr bd,.string name,.int .i64 n,.int .i64 (sz:Int),.int .i64 c,.bool false] 186),ae x1 (cl [ptr jb] 85),ae x3 (cl [.int .i64 (nx:Int)] 3)]) _))) ?_ (fun _ _ w hp hw=>by
   obtain⟨e,y,rfl,rfl,hr⟩:=hp
   exact hw.cV (al.trans (al.trans (al.pick [1] rfl) (al.cD ([aC bd y.1,ae jb (cl [ptr bd,.string name,.int .i64 y.2.1,.int .i64 y.2.2.1,.int .i64 y.2.2.2,.bool false] 186),ae x1 (cl [ptr jb] 85),ae x3 (cl [.int .i64 (nx:Int)] 3)]) _)) ah))
  rintro _ _⟨e,y,rfl,rfl,hr⟩
  refine aI (al.trans (al.pick [1] rfl) (al.cD ([aC bd y.1,ae jb (cl [ptr bd,.string name,.int .i64 y.2.1,.int .i64 y.2.2.1,.int .i64 y.2.2.2,.bool false] 186),ae x1 (cl [ptr jb] 85),ae x3 (cl [.int .i64 (nx:Int)] 3)]) _)) ?_
  refine bo (sR jb bd name y.2.1 y.2.2.1 y.2.2.2 false e) ?_
  unfold jr
  refine go ?_
  ((refine ad hE Tryz.func92 zr zr ⟨e,y.1,⟨y.2.1,y.2.2.1,y.2.2.2,decide (e≠0)⟩,rfl,rfl,(by unfold j5;rw[if_neg (by simp),if_neg bY,if_neg Ae];exact⟨y,(by simp only[Int.toNat_natCast];rw[show n.toNat+1=nx from by omega];exact hr),rfl,rfl⟩)⟩))
end Go.Proofs.YtedjnjkijiddlaaGreatDoor
namespace Go.Proofs.YtedjnjkijiddlaaGreatDoor
open Go Go.SL
def p7:∀(f:Nat) (bs:List UInt8),((gj f bs).flatMap aV).length≤2*bs.length∧(gj f bs).length≤bs.length∧∀x∈gj f bs,x.length≤4096
 | 0,bs=>by simp[gj]
 | f+1,bs=>by
  unfold gj
  split
  ·simp
  ·rename_i k n hl
   have hp:=qZ hl
   split
   ·rename_i hb
    obtain⟨h1,h2,h3⟩:=p7 f (bs.drop (k+n))
    have hx:((bs.drop k).take n).length=n:=by rw[List.length_take,List.length_drop];omega
    have he:(aV ((bs.drop k).take n)).length≤n+2:=by
     have:=xF 1 n (by have:=hp.2.2.2;omega)
     simp only[aV,List.length_append,hx];omega
    rw[List.length_drop]at h1 h2
    simp only[List.flatMap_cons,List.length_append,List.length_cons]
    refine⟨ag,ag,fun x hm=>?_⟩
    rcases List.mem_cons.1 hm with rfl|hm
    ·rw[hx];omega
    ·exact h3 x hm
   ·simp
def p8(bs:List UInt8):((cp bs).flatMap aV).length≤2*bs.length∧(cp bs).length≤bs.length∧∀x∈cp bs,x.length≤4096:=p7 _ bs
def uq(M:fU)(cs:List Value)(ls:List (List UInt8)):Prop:=cs.length=ls.length∧∀(j:Nat) (y:List UInt8),ls[j]?=some y→∃cv,cs[j]?=some cv∧Dn M 1 cv y.length (bV y)
def LI(lb:Nat)(ls:List (List UInt8)):HP:=fun h=>∃x:Value × List Value × fU,uq x.2.2 x.2.1 ls∧Sep [ae lb (cl [x.1] 68),aB 22 1 x.1 ls.length x.2.1,aZ 5 x.2.2] h
def zv(e:TypeId)(H:List HP):al H (aZ e []::H):=al.qA H
def PZ(lb:Nat)(a:Option Addr)(H:List HP):al (ae lb (cl [.slice a 0 0] 68)::H) (LI lb []::H):=by
 have h1:al (ae lb (cl [.slice a 0 0] 68)::H) ([ae lb (cl [.slice a 0 0] 68),aB 22 1 (.slice a 0 0) 0 [],aZ 5 [] ]++H) :=
  al.cons _ ((bN 22 1 a H).trans (al.cons _ (zv 5 H)))
 exact h1.trans (al.fold fun h hs=>⟨h,sub.refl h,(.slice a 0 0,[],[]),⟨rfl,fun j y hj=>by simp at hj⟩,hs⟩)
def Sy(lb:Nat)(ls:List (List UInt8))(x:List UInt8)(v rv:Value)(cs:List Value)(M M':fU)(hR:uq M cs ls)(hr:Dn M' 1 rv x.length (bV x))(hs:∀y∈M,y∈M')(H:List HP) :
  al (ae lb (cl [v] 68)::aB 22 1 v (ls.length+1) (cs++[rv])::aZ 5 M'::H) (LI lb (ls++[x])::H):=by
 refine al.fold (B:=[ae lb (cl [v] 68),aB 22 1 v (ls.length+1) (cs++[rv]),aZ 5 M']) fun h hp=>⟨h,sub.refl h,(v,cs++[rv],M'),⟨by simp[hR.1],fun j y hj=>?_⟩,by simp only[List.length_append,List.length_singleton];exact hp⟩
 simp only
 rw[List.getElem?_append]at hj ⊢
 rw[hR.1]
 split at hj
 ·rename_i de
  obtain⟨cv,h1,h2⟩:=hR.2 j y hj
  rw[if_pos de]
  exact⟨cv,h1,h2.mono hs⟩
 ·rename_i fA
  rw[if_neg fA]
  have h0:j-ls.length=0:=by
   rcases Nat.eq_zero_or_pos (j-ls.length)with h|h
   ·exact h
   ·rw[List.getElem?_eq_none (by simp;omega)]at hj;cases hj
  rw[h0]at hj ⊢
  cases hj
  exact⟨rv,rfl,hr⟩
def JO(lb:Nat)(ls:List (List UInt8)):∀h,LI lb ls h→∃x:Value × List Value × fU,uq x.2.2 x.2.1 ls∧Sep [ae lb (cl [x.1] 68),aB 22 1 x.1 ls.length x.2.1,aZ 5 x.2.2] h:=fun h hs=>hs
def vR(v:Value)(ls:List (List UInt8)):HP:=fun h=>∃x:List Value × fU,uq x.2 x.1 ls∧Sep [aB 22 1 v ls.length x.1,aZ 5 x.2] h
def Od{v:Value}{ls:List (List UInt8)}{cs:List Value}{M:fU}(hR:uq M cs ls)(H:List HP):al (aB 22 1 v ls.length cs::aZ 5 M::H) (vR v ls::H) :=
 al.fold (B:=[aB 22 1 v ls.length cs,aZ 5 M]) fun h hp=>⟨h,sub.refl h,(cs,M),hR,hp⟩
def Hc(v:Value)(ls:List (List UInt8)):∀h,vR v ls h→∃x:List Value × fU,uq x.2 x.1 ls∧Sep [aB 22 1 v ls.length x.1,aZ 5 x.2] h:=fun h hs=>hs
def uq.lat{v:Value}{ls:List (List UInt8)}{cs:List Value}{M:fU}(hR:uq M cs ls)(h0:∃h,aB 22 1 v ls.length cs h):sj (Sep [aB 22 1 v ls.length cs,aZ 5 M]) v ls:=by
 have hv:=Vw.oT 22 1 v ls.length cs h0
 refine⟨cs,hv.mono (bg (i:=0) rfl),hR.1,?_,fun i x hx=>?_⟩
 ·obtain⟨h,hl,⟨a,rfl,hn,_⟩|⟨b,o,cap,pre,bT,rfl,hp,hn,hc,_⟩⟩:=h0
  ·exact⟨a,0,by rw[hn],ag⟩
  ·exact⟨_,cap,rfl,hn⟩
 ·obtain⟨cv,h1,h2⟩:=hR.2 i x hx
  obtain⟨a,c,rW,hc⟩:=h2.shape
  exact⟨cv,h1,(h2.view 5).mono (bg (i:=1) rfl),a,c,rW,hc⟩
section
variable{P:Program}{f:FuncId}{n:Nat}{R:Ending→World→Prop}{G:cJ}{k:List Item}{L:fJ}{H:List HP}
def TM{v:Value}{ls:List (List UInt8)}{cs:List Value}{M:fU}(i:Nat)(hR:uq M cs ls)(hi:cE H i=some (aB 22 1 v ls.length cs))(h:sj (Sep [aB 22 1 v ls.length cs,aZ 5 M]) v ls→K P f n R G k L H):K P f n R G k L H :=
 sk fun⟨w,hw⟩=>by
  obtain⟨h1,_,hA⟩:=hw.lf hi
  exact h (hR.lat ⟨h1,hA⟩)
def acs{bd:Nat}{A:Ab}(i:Nat)(hi:cE H i=some (aC bd A))(h:(∃D,Rel D A)→K P f n R G k L H):K P f n R G k L H :=
 sk fun⟨w,hw⟩=>by
  obtain⟨h1,_,D,hR,_⟩:=hw.lf hi
  exact h ⟨D,hR⟩
end
def D3(A:Ab)(hR:∃D,Rel D A)(name:ByteArray)(at_ n:Int):(A.read name at_ n).1.length≤1048576:=by
 obtain⟨D,hR⟩:=hR
 unfold Ab.read
 split
 ·simp
 split
 ·simp
 ·rename_i f hf
  split
  ·simp
  ·have h1:(A.now f).length≤1048576:=by
    unfold Ab.now Ab.file
    cases h:A.fs.find? (fun x=>decide (x.1=f))with
    | none=>simp
    | some x =>
     have:=hR.gG x (List.mem_of_find?_eq_some h)
     simpa using this.1
   rw[List.length_take,List.length_drop];omega
end Go.Proofs.YtedjnjkijiddlaaGreatDoor
namespace Go.Proofs.YtedjnjkijiddlaaGreatDoor
open Go Go.SL
attribute [local irreducible] J K aE Ends ae aB aP bP bq aS aZ bu bX aC LI vR
def fW(A:Ab)(name:ByteArray):List (List UInt8):=cp (fj (A.read name 0 (A.size name).1).1)
def ou(A:Ab)(name:ByteArray)(e:Nat)(A':Ab)(x:JN):Prop :=
 if ¬(isName name=true∧isName (bL name)=true)then e=1∧A'=A else if A.off then e=7∧A'=A
 else ∃y:PS,Ap name (fW A name) (A,0,0,0) e y∧A'=y.1∧x=⟨y.2.1,y.2.2.1,y.2.2.2,false⟩
def PV(bd:Nat)(name:ByteArray)(A:Ab)(Ji:name.size≤1000000000)(cK:A.aw.length≤900000000)(qj:A.writes.length≤900000000) :
  aE Tryz.prog 76 [ptr bd,.string name] [aC bd A]
   (fun r H=>∃(e:Nat) (A':Ab) (x:JN),ou A name e A' x∧((e≠0∧r = .tuple #[.pointer none,.slice none 0 0,.int .i64 (e:Int)]∧H=[aC bd A']) ∨
    (e=0∧∃jb lv,r = .tuple #[ptr jb,lv,.int .i64 0]∧H=[aC bd A',rU jb bd name x,vR lv (fW A name)]))):=by
 refine aE.ao Tryz.func76 Tryz.ntmps76 fun G F R hE=>?_
 refine acs 0 rfl ?_
 intro aed
 refine go ?_
 refine aJ (I1 name) ?_
 cases h1:isName name with
 | false =>
  refine go ?_
  ((refine ad hE Tryz.func76 zr zr ⟨1,A,⟨0,0,0,false⟩,(by unfold ou;rw[if_pos (by simp[h1])];exact⟨rfl,rfl⟩),.inl ⟨ag,rfl,rfl⟩⟩))
 | true =>
 refine go ?_
 refine zI zr zr zr (by show name.size+4≤_;omega) ?_
 refine au 25 (.string (bL name)) zr zr ?_
 ((refine go ?_;(refine aH (I1 (bL name)) ?_)))
 rintro _ _⟨rfl,rfl⟩
 cases h2:isName (bL name)with
 | false =>
  refine go ?_
  ((refine ad hE Tryz.func76 zr zr ⟨1,A,⟨0,0,0,false⟩,(by unfold ou;rw[if_pos (by simp[h2])];exact⟨rfl,rfl⟩),.inl ⟨ag,rfl,rfl⟩⟩))
 | true =>
 refine go ?_
 refine aJ (PX bd A) ?_
 cases h3:A.off with
 | true =>
  refine go ?_
  ((refine ad hE Tryz.func76 zr zr ⟨7,A,⟨0,0,0,false⟩,(by unfold ou;rw[if_neg (by simp[h1,h2]),if_pos h3];exact⟨rfl,rfl⟩),.inl ⟨ag,rfl,rfl⟩⟩))
 | false =>
 refine go ?_
 refine aJ (um bd A name) ?_
 refine go ?_
 refine aH (xq bd A name 0 (A.size name).1) ?_
 rintro _ _⟨rb,rfl,rfl⟩
 have EF:=D3 A aed name 0 (A.size name).1
 obtain⟨B,hB⟩:∃B,B=(A.read name 0 (A.size name).1).1:=⟨_,rfl⟩
 rw[← hB]at EF ⊢
 refine go ?_
 refine aO 1 rfl ?_
 rintro ra rc rfl
 refine gQ (bs:=B) 1 rfl ?_
 intro MJ
 refine az zr zr zr bD ?_
 intro lb
 refine go ?_
 refine aH (Lu _ _ B MJ ag) ?_
 rintro fv _⟨hbf,rfl⟩
 obtain⟨fa,fc,rfl,hfc⟩:=hbf.2
 refine aH (DY fa (fj B).length fc) ?_
 rintro _ _⟨bx,rfl,rfl⟩
 have nW:(fj B).length≤1048576:=by
  unfold fj
  split
  ·simp
  ·rw[List.length_take,List.length_drop];omega
 refine go ?_
 obtain⟨rs,Qv⟩:∃rs,rs=cp (fj B):=⟨_,rfl⟩
 have Dl:=p8 (fj B)
 rw[← Qv]at Dl
 refine fL rfl ?_
 refine ai (al.trans (al.pick [2] rfl) (PZ lb none _)) ?_
 refine xr (Fr:=aC bd A::F) (Pre:=fun _ _=>[ae bx (cl [.slice fa (fj B).length fc] 22),aB 5 1 (.slice ra B.length rc) B.length (bV B),LI lb [] ]) (Post:=?Po) rfl hE.1.1 rfl ?c (fun l r=>ah) ?iK
 case c =>
  intro l r
  refine B6 (aB 5 1 (.slice ra B.length rc) B.length (bV B)) l bx _ (fj B) hbf ag _ (fun i=>LI lb ((cp (fj B)).take i)) ?_
  intro i x hx rv
  refine bX.Eg zr zr ?_
  intro G2 F2 R2 hY
  have lx:i<(cp (fj B)).length:=(List.getElem?_eq_some_iff.1 hx).1
  have wL:=(p8 (fj B)).2.1
  have j8:(cp (fj B)).take (i+1)=(cp (fj B)).take i++[x]:=by rw[List.take_add_one,hx];rfl
  have rF:((cp (fj B)).take i).length≤(fj B).length:=by rw[List.length_take];omega
  simp only[j8]at hY
  generalize (cp (fj B)).take i=ts at rF hY ⊢
  refine go ?_
  refine gn rfl hY ?_
  refine ai (al.pick [1] rfl) ?_
  refine eG (JO lb ts) ?_
  rintro⟨lv,cs,M⟩ hR
  refine ai (al.trans (al.pick [4,2] rfl) (al.join _ _ _)) ?_
  refine eG (DR 5 1 x.length rv (bV x) M) ?_
  rintro M'⟨Qu,eF⟩
  obtain⟨xa,xc,rfl,hxc⟩:=Qu.shape
  refine dz 2 rfl ?_
  intro la lc Ti
  simp only at Ti
  subst Ti
  refine go ?_
  refine aj zr zr zr zr zr zr zr zr zr bD ?_
  intro row
  refine go ?_
  refine aR (mm:=1) (news:=[.slice xa x.length xc]) 3 0 zr zr zr zr zr zr zr zr zr zr zr zr (Vw.ae rfl) rfl (by simp[Value.oneCell']) ag (by show(_+1)*24≤_;omega) (fun _=>rfl) bD ?_
  intro v1
  refine aO 3 rfl ?_
  rintro va vc rfl
  refine go ?_
  refine ai (al.trans ah (Sy lb ts x _ (.slice xa x.length xc) cs M M' hR Qu eF _)) ?_
  refine fK hY rfl ah ⟨rfl,rfl⟩
 intro l r v H fG
 obtain⟨v',rfl⟩:=fG
 refine⟨_,_,_,rfl,by decide,?_⟩
 rw[hE.1.2,List.take_length,← Qv]
 refine ai (al.pick [2] rfl) ?_
 refine eG (JO lb rs) ?_
 rintro⟨lv,cs,M⟩ hR
 refine dz 1 rfl ?_
 intro la lc Ti
 simp only at Ti
 subst Ti
 simp only at hR
 refine TM 1 hR rfl ?_
 intro mR
 refine go ?_
 refine bG zr zr bD ?_
 intro jb
 refine go ?_
 have rG:=IS jb bd name 0 0 0 false A (Sep [aB 22 1 (.slice la rs.length lc) rs.length cs,aZ 5 M]) (.slice la rs.length lc) rs mR ag ag Ji cK qj
 refine gD zr zr zr zr rG (al.trans ah (al.cons (aC bd A) (al.cons (jr jb bd name 0 0 0 false) (al.bS [aB 22 1 (.slice la rs.length lc) rs.length cs,aZ 5 M] _)))) ?_ mM
 rintro _ _⟨e,y,rfl,rfl,Hn⟩
 have mi:fW A name=rs:=by rw[Qv,hB];rfl
 have k6:ou A name e y.1 ⟨y.2.1,y.2.2.1,y.2.2.2,false⟩:=by
  unfold ou
  rw[if_neg (by simp[h1,h2]),if_neg (by rw[h3];simp),mi]
  exact⟨y,Hn,rfl,rfl⟩
 rw[mi]at hE
 refine go ?_
 refine aq zr zr ?_ ?_
 ·intro bY
  have fT:e≠0:=by omega
  refine go ?_
  refine rz hE Tryz.func76 rfl _ rfl ⟨e,_,_,k6,.inl ⟨fT,rfl,rfl⟩⟩ ah
 ·intro heq
  have o6:e=0:=by omega
  subst o6
  refine go ?_
  refine aF (fun w=>Sat G w ([ae lb (cl [.slice la rs.length lc] 68)])) (cZ 0 5 .nil) rfl ak ak ak dT ?_
  refine go ?_
  refine ai (al.trans (al.pick [2] rfl) (al.cD [aB 22 1 (.slice la rs.length lc) rs.length cs,aZ 5 M] _)) ?_
  refine ai (Od hR _) ?_
  refine rz hE Tryz.func76 rfl _ rfl ⟨0,_,_,k6,.inr ⟨rfl,jb,_,rfl,rfl⟩⟩ ah
end Go.Proofs.YtedjnjkijiddlaaGreatDoor
namespace Go.Proofs.YtedjnjkijiddlaaGreatDoor
open Go Go.SL
variable{A A':Ab}{x:Bl}{nm:ByteArray}{n:Int}{b:List UInt8}{e:Nat}
def qU(hn:isName nm=true)(at_:Nat)(b:List UInt8)(h:at_+b.length≤1048576):fZ nm (at_:Int) b=true:=by
 unfold fZ
 rw[hn]
 simp
 omega
def CU{C:List UInt8}{c:Int}{s:Nat}(h:HA A)(hn:isName nm=true)(hv:vw A nm=some C)(hb:b.length≤4096)(yN:s+(aV b).length≤524288)(hr:A.used+(32+s+(aV b).length)≤A.room) :
  (cY nm A ⟨n,s,c,false⟩ b).1=0∧HA (cY nm A ⟨n,s,c,false⟩ b).2.1∧vw (cY nm A ⟨n,s,c,false⟩ b).2.1=eK (vw A) nm (some (bK C (32+s) (aV b)))∧(cY nm A ⟨n,s,c,false⟩ b).2.1.room=A.room ∧
   (cY nm A ⟨n,s,c,false⟩ b).2.2=⟨n,((s+(aV b).length:Nat):Int),c,false⟩:=by
 have hw:fZ nm (32+(s:Int)) (aV b)=true:=by
  have:=qU hn (32+s) (aV b) ag
  simpa using this
 have ht:(32+(s:Int)).toNat=32+s:=by omega
 obtain⟨h0,h1,h2,h3⟩:=h.uM hv (32+s) (aV b) ag (B:=(A.write true nm (32+s) (aV b)).2) (e:=(A.write true nm (32+s) (aV b)).1) rfl
 unfold cY
 simp only[Bool.false_eq_true,if_false]
 rw[if_neg ag,if_neg ag,hw,ht,if_pos h0]
 exact⟨rfl,h1,h2,h3,by simp⟩
def CF{C:List UInt8}{c:Int}{s:Nat}{x':JN}(h:HA A)(hn:isName nm=true)(hv:vw A nm=some C)(RH:0≤n)(Te:n<1073741824)(hr:A.used+32≤A.room)(hR:j5 nm A ⟨n,s,c,false⟩ e A' x') :
  e=0∧HA A'∧(∃C',vw A'=eK (vw A) nm (some C')∧C'.length≤max C.length 32)∧A'.room=A.room∧∃n' c',x'=⟨n',s,c',false⟩∧n≤n'∧n'≤n+1:=by
 unfold j5 at hR
 simp only[Bool.false_eq_true,if_false]at hR
 by_cases Qs:(s:Int)=c
 ·rw[if_pos Qs]at hR
  obtain⟨rfl,rfl,rfl⟩:=hR
  exact⟨rfl,h,⟨C,(IK hv).symm,Nat.le_max_left _ _⟩,rfl,n,c,rfl,ag,ag⟩
 rw[if_neg Qs,if_neg ag]at hR
 obtain⟨y,fV,rfl,rfl⟩:=hR
 obtain⟨e1,x1,⟨⟨Cs,yX⟩,h1c⟩,c1⟩:=fV
 rw[hn]at Cs yX
 obtain⟨g0,g1,g2,g3⟩:=h.xP hv (B:=x1.1) (e:=e1) (by rw[Cs,yX])
 subst g0
 rcases c1 with⟨bY,_⟩|⟨_,e2,x2,⟨⟨Lr,vZ⟩,h2c⟩,c2⟩
 ·exact absurd rfl bY
 obtain⟨nx,pK⟩:∃nx,nx=n.toNat+1:=⟨_,rfl⟩
 rw[← pK]at Lr vZ
 have hhl:=gf nx s
 rw[show((s:Int)).toNat=s from by omega]at Lr vZ
 have hw:fZ nm ((nx%2*16:Nat):Int) (bZ nx s)=true:=qU hn _ _ ag
 rw[hw]at Lr vZ
 have hu:x1.1.used=A.used:=by rw[jO g1,jO h,g2];exact xK Es (g2 ▸ g1.BS) h.BS
 obtain⟨k0,k1,k2,k3⟩:=g1.uM (nm:=nm) (c:=C) (by rw[g2];exact hv) (nx%2*16) (bZ nx s) (by rw[hu,g3];omega) (B:=x2.1) (e:=e2) (by rw[Lr,vZ])
 subst k0
 rcases c2 with⟨bY,_⟩|⟨_,e3,x3,⟨⟨HE,Bk⟩,Zn⟩,c3⟩
 ·exact absurd rfl bY
 rw[hn]at HE Bk
 obtain⟨m0,m1,m2,m3⟩:=k1.xP (nm:=nm) (c:=bK C (nx%2*16) (bZ nx s)) (by rw[k2,dv]) (B:=x3.1) (e:=e3) (by rw[HE,Bk])
 subst m0
 rcases c3 with⟨bY,_⟩|⟨_,e4,x4,⟨Gf,E6⟩,c4⟩
 ·exact absurd rfl bY
 subst Gf
 rcases c4 with⟨bY,_⟩|⟨_,he,hy⟩
 ·exact absurd rfl bY
 subst he
 have uH:x3.2=(n,(s:Int),c):=by rw[Zn,h2c,h1c]
 rw[hy,E6]
 simp only
 rw[uH]
 refine⟨trivial,m1,⟨_,by rw[m2,k2,g2],by rw[eW,hhl];omega⟩,by rw[m3,k3,g3],_,_,rfl,ag,ag⟩
def yl{x:JN}(h:HA A)(hn:isName nm=true)(hf:isName (bL nm)=true)(bY:bL nm≠nm)(hv:vw A nm=none)(Hj:vw A (bL nm)=none)(hl:A.names.length<200)(hr:A.used+32≤A.room)(hR:ou A nm e A' x) :
  e=0∧HA A'∧vw A'=eK (vw A) nm (some (ck []))∧A'.room=A.room∧x=⟨1,0,0,false⟩∧fW A nm=[]:=by
 have nW:fW A nm=[]:=by
  have oE:A.look nm=none:=by
   unfold vw at hv
   cases hx:A.look nm with
   | none=>rfl
   | some f=>rw[hx]at hv;cases hv
  have rY:(A.read nm 0 (A.size nm).1).1=[]:=by
   unfold Ab.read
   rw[if_neg (by rw[h.on];simp),oE]
  unfold fW
  rw[rY]
  rfl
 unfold ou at hR
 rw[if_neg (by rw[hn,hf];simp),if_neg (by rw[h.on];simp),nW]at hR
 obtain⟨y,fV,rfl,rfl⟩:=hR
 unfold Ap gI at fV
 have iB:(A.size (bL nm)).2=4:=by
  have oE:A.look (bL nm)=none:=by
   unfold vw at Hj
   cases hx:A.look (bL nm)with
   | none=>rfl
   | some f=>rw[hx]at Hj;cases Hj
  unfold Ab.size
  rw[oE]
 simp only[iB]at fV
 rw[if_neg ag,List.nil_append]at fV
 have fb:(ck []).length=32:=by unfold ck;simp[gf]
 obtain⟨e1,x1,⟨⟨f,h1f,Cs,yX⟩,h1c⟩,c1⟩:=fV
 rw[hf]at Cs yX
 obtain⟨g0,g1,g2,g3⟩:=h.JE Hj hl h1f (B:=x1.1) (e:=e1) (by rw[Cs,yX])
 subst g0
 rcases c1 with⟨fT,_⟩|⟨_,e2,x2,⟨⟨Lr,vZ⟩,h2c⟩,c2⟩
 ·exact absurd rfl fT
 have hw:fZ (bL nm) 0 (ck [])=true:=by
  have:=qU hf 0 (ck []) ag
  simpa using this
 rw[hw]at Lr vZ
 obtain⟨hu,EJ⟩:=h.pR g1 Hj g2
 obtain⟨k0,k1,k2,k3⟩:=g1.uM (nm:=bL nm) (c:=[]) (by rw[g2,dv]) 0 (ck []) (by rw[hu,g3];simp only[List.length_nil];omega) (B:=x2.1) (e:=e2) (by rw[Lr,vZ])
 subst k0
 rcases c2 with⟨fT,_⟩|⟨_,e3,x3,⟨⟨HE,Bk⟩,Zn⟩,c3⟩
 ·exact absurd rfl fT
 rw[hf]at HE Bk
 have qj:bK [] 0 (ck [])=ck []:=by unfold bK;simp
 rw[qj]at k2
 obtain⟨m0,m1,m2,m3⟩:=k1.xP (nm:=bL nm) (c:=ck []) (by rw[k2,dv]) (B:=x3.1) (e:=e3) (by rw[HE,Bk])
 subst m0
 rcases c3 with⟨fT,_⟩|⟨_,e4,x4,⟨⟨Gf,E6⟩,h4c⟩,c4⟩
 ·exact absurd rfl fT
 have fH:[bL nm,nm].all isName=true:=by simp[hf,hn]
 rw[fH]at Gf E6
 obtain⟨p0,p1,p2,p3⟩:=m1.IN (o:=bL nm) (n:=nm) (c:=ck []) bY (by rw[m2,k2,dv]) (by rw[m2,k2,dL _ _ (fun e=>bY e.symm),g2,dL _ _ (fun e=>bY e.symm)];exact hv) (B:=x4.1) (e:=e4) (by rw[Gf,E6])
 subst p0
 rcases c4 with⟨fT,_⟩|⟨_,e5,x5,⟨⟨R4,R3⟩,h5c⟩,c5⟩
 ·exact absurd rfl fT
 obtain⟨q0,q1,q2,q3⟩:=p1.xQ (B:=x5.1) (e:=e5) (by rw[R4,R3])
 subst q0
 rcases c5 with⟨fT,_⟩|⟨_,e6,x6,⟨Zm,Yj⟩,c6⟩
 ·exact absurd rfl fT
 subst Zm
 rcases c6 with⟨fT,_⟩|⟨_,he,hy⟩
 ·exact absurd rfl fT
 subst he
 rw[hy,Yj]
 simp only
 refine⟨trivial,q1,?_,by rw[q3,p3,m3,k3,g3],by simp,nW⟩
 rw[q2,p2,m2,k2,g2]
 funext m
 unfold eK
 by_cases h1:m=nm
 ·simp[h1]
 ·by_cases h2:m=bL nm
  ·rw[if_neg h1,if_neg h1,if_pos h2,h2];exact Hj.symm
  ·simp[h1,h2]
def dZ:isName db=true:=by decide +kernel
def jH:isName (bL db)=true:=by decide +kernel
def oR:bL db≠db:=by decide +kernel
def O7(k:List UInt8):jJ k db=none:=by
 cases h:jJ k db with
 | none=>rfl
 | some d=>exact absurd (rk.1 h).symm (gU k d)
def Of(c:List UInt8):rD db c=0:=by unfold rD;rw[O7];rfl
abbrev SJ:=fe × JN
def fO(R:fe→Nat→fe→Prop)(x:SJ)(e:Nat)(y:SJ):Prop:=R x.1 e y.1∧y.2=x.2
def xY(b:List UInt8)(x:SJ)(e:Nat)(y:SJ):Prop:=e=(cY db x.1.A x.2 b).1∧y=(⟨(cY db x.1.A x.2 b).2.1,x.1.bt,x.1.brk⟩,(cY db x.1.A x.2 b).2.2)
def DH(x:SJ)(e:Nat)(y:SJ):Prop:=∃A' x',j5 db x.1.A x.2 e A' x'∧y=(⟨A',x.1.bt,x.1.brk⟩,x')
def kW(b:List UInt8):List (SJ→Nat→SJ→Prop):=[xY b,DH]
def Av(c:List UInt8)(a:Nat)(b:List UInt8)(j:Nat)(h1:a≤j)(h2:j<a+b.length):(bK c a b)[j]?=b[j-a]? := by
 unfold bK
 have hl:((c++List.replicate (a+b.length-c.length) (0:UInt8)).take a).length=a:=by rw[List.length_take,List.length_append,List.length_replicate];omega
 simp only
 rw[List.append_assoc,List.getElem?_append_right (by rw[hl];exact h1),hl,List.getElem?_append_left ag]
def xD{c:List UInt8}{a:Nat}{j:Nat}{v:UInt8}(hc:c[j]?=some v)(h:j<a∨a+b.length≤j):(bK c a b)[j]?=some v:=by
 unfold bK
 have hj:=(List.getElem?_eq_some_iff.1 hc).1
 have hl:((c++List.replicate (a+b.length-c.length) (0:UInt8)).take a).length=a:=by rw[List.length_take,List.length_append,List.length_replicate];omega
 simp only
 rcases h with h|h
 ·rw[List.append_assoc,List.getElem?_append_left (by rw[hl];exact h),List.getElem?_take,if_pos h,List.getElem?_append_left hj]
  exact hc
 ·rw[List.getElem?_append_right (by rw[List.length_append,hl];exact h),List.getElem?_drop,List.length_append,hl]
  rw[show a+b.length+(j-(a+b.length))=j from by omega,List.getElem?_append_left hj]
  exact hc
structure MO(x:Bl)(w c:List UInt8)(P:Int→Prop):Prop where
 len:c.length≤w.length
 has:∀k,P k→∀a n,cC x k=some (a,n)→∀j:Nat,a≤j→(j:Int)<a+n→c[j]?=w[j]?
def MO.nil(x:Bl)(w:List UInt8):MO x w [] (fun _=>False):=⟨Nat.zero_le _,fun k h=>h.elim⟩
def iQ{k a:Int}(h:cC x k=some (a,n)):0≤a∧1≤n∧a+n≤x.size∧0≤k∧k<bO x∧a=k*x.piece∧n=min x.piece (x.size-a)∧bz x=true:=by
 unfold cC at h
 split at h
 ·cases h
 rename_i de
 obtain⟨hr,h0,h1⟩:=wU (x:=x) (i:=k) ag ag
 injection h with h
 injection h with ha hn
 have Qv:=hr
 simp only[bz,decide_eq_true_eq]at Qv
 exact⟨ag,ag,ag,ag,ag,ha.symm,by rw[← hn,← ha],hr⟩
def MO.put{w c:List UInt8}{P:Int→Prop}(h:MO x w c P)(hw:(w.length:Int)=x.size){i a:Int}(e7:cC x i=some (a,n)) :
  MO x w (bK c a.toNat ((w.drop a.toNat).take n.toNat)) (fun k=>P k∨k=i):=by
 obtain⟨h0,h1,h2,h3,h4,h5,h6,hr⟩:=iQ e7
 have iC:((w.drop a.toNat).take n.toNat).length=n.toNat:=by rw[List.length_take,List.length_drop];omega
 refine⟨by rw[eW,iC];have:=h.len;omega,fun k hk a' n' hs j pO Bf=>?_⟩
 obtain⟨g0,g1,g2,g3,g4,g5,g6,_⟩:=iQ hs
 by_cases qm:a≤j∧(j:Int)<a+n
 ·rw[Av _ _ _ _ ag (by rw[iC];omega),List.getElem?_take,if_pos ag,List.getElem?_drop]
  congr 1
  omega
 ·rcases hk with hk|rfl
  ·have hc:=h.has k hk a' n' hs j pO Bf
   have hwj:j<w.length:=by omega
   rw[List.getElem?_eq_getElem hwj]at hc ⊢
   exact xD hc (by rw[iC];omega)
  ·rw[e7]at hs
   injection hs with hs
   injection hs with e1 e2
   omega
def MO.full{w c:List UInt8}{P:Int→Prop}(h:MO x w c P)(hw:(w.length:Int)=x.size)(hr:bz x=true)(hP:∀k,0≤k→k<bO x→P k):c=w:=by
 have Qv:=hr
 simp only[bz,decide_eq_true_eq]at Qv
 apply List.ext_getElem?
 intro j
 rcases Nat.lt_or_ge j w.length with hj|hj
 ·obtain⟨k,hk⟩:∃k,k=(j:Int)/x.piece:=⟨_,rfl⟩
  have e1:=Int.mul_ediv_add_emod (j:Int) x.piece
  have e2:=Int.emod_nonneg (j:Int) (b:=x.piece) ag
  have e3:=Int.emod_lt_of_pos (j:Int) (b:=x.piece) ag
  rw[← hk,Int.mul_comm]at e1
  have Tl:0≤k:=by rw[hk];exact Int.ediv_nonneg ag ag
  have Jl:k<bO x:=by
   unfold bO
   rw[if_pos hr]
   have:=(Int.le_ediv_iff_mul_le (a:=k+1) (b:=x.size+x.piece-1) (c:=x.piece) ag).2 (by rw[Int.add_mul,Int.one_mul];omega)
   omega
  have e7:cC x k=some (k*x.piece,min x.piece (x.size-k*x.piece)):=by unfold cC;rw[if_neg ag]
  exact h.has k (hP k Tl Jl) _ _ e7 j ag ag
 ·rw[List.getElem?_eq_none hj,List.getElem?_eq_none (by have:=h.len;omega)]
def sU{s t:fe}(h:ko x s e t):iO 1 s t:=by
 unfold ko at h
 split at h
 ·exact h.2 ▸ iO.refl _ _
 ·exact n5 (fun sp e7 A e B hh=>by
   simp only[List.mem_cons,List.not_mem_nil,or_false]at e7
   subst e7
   exact m9 hh) h
def SJg(n:Nat)(x y:SJ):Prop:=y.1.A.aw.length≤x.1.A.aw.length+n∧y.1.A.writes.length≤x.1.A.writes.length+n
def uf(A:Ab)(nm:ByteArray)(x:JN)(b:List UInt8):(cY nm A x b).2.1.aw.length≤A.aw.length+1∧(cY nm A x b).2.1.writes.length≤A.writes.length+1:=by
 have hw:=kD A (fZ nm (32+x.s) (aV b)) nm (32+x.s).toNat (aV b)
 obtain⟨h1,h2⟩:=hw
 unfold cY
 split
 ·exact⟨by simp only;omega,by simp only;omega⟩
 split
 ·exact⟨by simp only;omega,by simp only;omega⟩
 split
 ·exact⟨by simp only;omega,by simp only;omega⟩
 split
 ·exact⟨h1,h2⟩
 ·exact⟨h1,h2⟩
def Db{x x':JN}(h:j5 nm A x e A' x'):A'.aw.length≤A.aw.length+4∧A'.writes.length≤A.writes.length+4:=by
 unfold j5 at h
 split at h
 ·obtain⟨_,rfl,_⟩:=h;omega
 split at h
 ·obtain⟨_,rfl,_⟩:=h;omega
 split at h
 ·obtain⟨_,rfl,_⟩:=h;omega
 obtain⟨y,⟨e1,x1,⟨⟨Cs,yX⟩,_⟩,c1⟩,rfl,_⟩:=h
 have g1:=kE A (isName nm) nm
 rw[← yX]at g1
 rcases c1 with⟨_,_,rfl⟩|⟨_,e2,x2,⟨⟨Lr,vZ⟩,_⟩,c2⟩
 ·obtain⟨a,b⟩:=g1;omega
 have g2:=kD x1.1 (fZ nm (((x.n.toNat+1)%2*16:Nat):Int) (bZ (x.n.toNat+1) x.s.toNat)) nm ((x.n.toNat+1)%2*16) (bZ (x.n.toNat+1) x.s.toNat)
 rw[← vZ]at g2
 rcases c2 with⟨_,_,rfl⟩|⟨_,e3,x3,⟨⟨HE,Bk⟩,_⟩,c3⟩
 ·obtain⟨a,b⟩:=g1;obtain⟨c,d⟩:=g2;omega
 have g3:=kE x2.1 (isName nm) nm
 rw[← Bk]at g3
 obtain⟨a,b⟩:=g1
 obtain⟨c,d⟩:=g2
 obtain⟨e',f'⟩:=g3
 rcases c3 with⟨_,_,rfl⟩|⟨_,e4,x4,⟨Gf,E6⟩,c4⟩
 ·omega
 have h41:x4.1=x3.1:=by rw[E6]
 rcases c4 with⟨_,_,rfl⟩|⟨_,_,rfl⟩
 ·rw[h41];omega
 ·rw[h41];omega
def AZ{x y:SJ}(h:iZ (kW b) x e y):SJg 5 x y:=by
 obtain⟨e1,x1,⟨Cs,yX⟩,c1⟩:=h
 have g1:=uf x.1.A db x.2 b
 have R6:x1.1.A=(cY db x.1.A x.2 b).2.1:=by rw[yX]
 rw[← R6]at g1
 obtain⟨a,b⟩:=g1
 rcases c1 with⟨_,_,rfl⟩|⟨_,e2,x2,⟨A',x',hc,h2⟩,c2⟩
 ·exact⟨ag,ag⟩
 have g2:=Db hc
 have h21:x2.1.A=A':=by rw[h2]
 rw[← h21]at g2
 obtain⟨c,d⟩:=g2
 rcases c2 with⟨_,_,rfl⟩|⟨_,_,rfl⟩ <;> exact⟨ag,ag⟩
end Go.Proofs.YtedjnjkijiddlaaGreatDoor
