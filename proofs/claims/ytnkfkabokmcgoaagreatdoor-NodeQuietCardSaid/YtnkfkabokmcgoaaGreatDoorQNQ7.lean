import Derived.Test.YtnkfkabokmcgoaaGreatDoorQNQ2
import Derived.Test.YtnkfkabokmcgoaaGreatDoorQNQ3
import Derived.Test.YtnkfkabokmcgoaaGreatDoorQNQ4
import Derived.Test.YtnkfkabokmcgoaaGreatDoorQNQ5
import Derived.Test.YtnkfkabokmcgoaaGreatDoorQNQ6
import Derived.Shelf.SortG.Plain
import Derived.Shelf.SortG.SortNone
import Derived.Test.YtnkfkabokmcgoaaGreatDoorChecked
set_option linter.unusedSectionVars false
set_option linter.unusedSimpArgs false
set_option linter.unusedVariables false
set_option maxHeartbeats 1000000
set_option maxRecDepth 20000
set_option linter.defProp false
namespace Go.Proofs.YtnkfkabokmcgoaaGreatDoor
open Go Go.SL
variable{bs:List UInt8}{k n:Nat}
attribute [local irreducible] J K aq Ends ag aI aC bF aW aP a6 aZ bN
def ov(h:mB bs=some (k,n)):1≤k∧k≤2∧k≤bs.length∧n<16384:=by
 unfold mB at h
 split at h
 ·rename_i h1
  split at h
  ·rename_i m hm
   cases h
   exact⟨ai,ai,h1,lP hm (by rw[List.length_take];omega)⟩
  ·split at h
   ·rename_i h2
    cases hu:cO (bs.take 2)with
    | none=>rw[hu]at h;cases h
    | some m =>
     rw[hu]at h
     cases h
     exact⟨ai,ai,h2,lP hu (by rw[List.length_take];omega)⟩
   ·cases h
 ·cases h
def eQ:Nat→List UInt8→List (List UInt8)
 | 0,_=>[]
 | f+1,bs=>match mB bs with
  | none=>[]
  | some (k,n)=>if n≤4096∧k+n≤bs.length then(bs.drop k).take n::eQ f (bs.drop (k+n))else []
theorem oO:∀(f g:Nat) (bs:List UInt8),bs.length≤f→bs.length≤g→eQ f bs=eQ g bs
 | 0,0,_,_,_=>rfl
 | 0,g+1,bs,hf,_=>by
  have:bs=[]:=List.eq_nil_of_length_eq_zero ai
  subst this;rfl
 | f+1,0,bs,_,hg=>by
  have:bs=[]:=List.eq_nil_of_length_eq_zero ai
  subst this;rfl
 | f+1,g+1,bs,hf,hg=>by
  unfold eQ
  split
  ·rfl
  ·rename_i k n hl
   have:=ov hl
   split
   ·rw[oO f g _ (by rw[List.length_drop];omega) (by rw[List.length_drop];omega)]
   ·rfl
def bT(bs:List UInt8):List (List UInt8):=eQ bs.length bs
def vQ(h:mB bs=none):bT bs=[]:=by
 unfold bT
 cases hl:bs.length with
 | zero=>rfl
 | succ f=>unfold eQ;rw[h]
def pR(h:mB bs=some (k,n))(hb:¬(n≤4096∧k+n≤bs.length)):bT bs=[]:=by
 unfold bT
 cases hl:bs.length with
 | zero=>rfl
 | succ f=>unfold eQ;rw[h];simp only;rw[if_neg hb]
theorem vR(h:mB bs=some (k,n))(hb:n≤4096∧k+n≤bs.length):bT bs=(bs.drop k).take n::bT (bs.drop (k+n)):=by
 have h1:=ov h
 unfold bT
 obtain⟨f,hf⟩:∃f,bs.length=f+1:=⟨bs.length-1,ai⟩
 grind [eQ,oO]
def Av(a:Option Addr)(n c:Nat):aq Tryz.prog 123 [.slice a n c] [] (fun r H=>∃b,r = .func (.func 219) #[] #[ptr b]∧H=[ag b (cl [.slice a n c] 38)]):=by
 refine aq.aj Tryz.func123 Tryz.ntmps123 fun G F R hE=>?_
 refine go ?_
 refine bp zr zr bh ?_
 intro b
 refine go ?_
 refine ad hE Tryz.func123 zr zr ⟨b,rfl,rfl⟩
theorem yG(A:HP)(l bx:Nat)(v:Value)(bs:List UInt8)(hv:fb A v bs)(hl:bs.length≤1000000000)(Lp:HP)(Inv:Nat→HP)(hy:∀i x,(bT bs)[i]?=some x→∀r,bN Tryz.prog l [r] [Lp,Inv i,aI 5 1 r x.length (bV x)] (fun v H=>v = .bool true∧H=[Lp,Inv (i+1)])) :
  aq Tryz.prog 219 [.func (.yield l) #[] #[],ptr bx] [Lp,ag bx (cl [v] 38),A,Inv 0] (fun _ H=>∃v',H=[Lp,ag bx (cl [v'] 38),A,Inv (bT bs).length]):=by
 refine aq.aj Tryz.func219 Tryz.ntmps219 fun G F R hE=>?_
 refine go ?_
 refine bn (fun y:Value × List UInt8 × Nat=>fb A y.1 y.2.1∧y.2.1.length≤bs.length∧bT y.2.1=(bT bs).drop y.2.2∧y.2.2≤(bT bs).length) (fun y=>y.2.1.length)
  (fun _=>[(0,.func (.yield l) #[] #[]),(1,ptr bx)])
  (fun y=>[Lp,ag bx (cl [y.1] 38),A,Inv y.2.2]++F) (v,bs,0) ⟨hv,Nat.le_refl _,by simp,Nat.zero_le _⟩ rfl bQ ah ?_
 rintro⟨v1,rest,i⟩⟨lB,y3,y1,hr3⟩ ih
 simp only at lB y3 y1 hr3
 have jt:bT rest=[]→i=(bT bs).length:=fun h=>by
  rw[y1]at h
  have:(bT bs).length≤i:=by simpa using h
  omega
 obtain⟨a,c,rfl,hc⟩:=lB.2
 refine go ?_
 refine aw (JZ A _ rest lB ai) ?_
 cases zV:mB rest with
 | none =>
  obtain rfl:=jt (vQ zV)
  refine go ?_
  refine ad hE Tryz.func219 zr zr ⟨_,rfl⟩
 | some kn =>
  obtain⟨k,n⟩:=kn
  have hp:=ov zV
  by_cases hn:n≤4096
  case neg =>
   have gR:bT rest=[]:=pR zV ai
   obtain rfl:=jt gR
   have hd:decide (n≤4096)=false:=decide_eq_false hn
   simp only[hd]
   refine go ?_
   refine ad hE Tryz.func219 zr zr ⟨_,rfl⟩
  have hd:decide (n≤4096)=true:=decide_eq_true hn
  simp only[hd]
  refine go ?_
  by_cases hk:(rest.length:Int)<(k:Int)+n
  case pos =>
   obtain rfl:=jt (pR zV ai)
   have Oi:decide ((rest.length:Int)<(k:Int)+n)=true:=decide_eq_true hk
   simp only[Oi]
   refine go ?_
   refine ad hE Tryz.func219 zr zr ⟨_,rfl⟩
  have Oi:decide ((rest.length:Int)<(k:Int)+n)=false:=decide_eq_false hk
  simp only[Oi]
  have Bh:=vR zV ⟨hn,ai⟩
  obtain⟨x,hx⟩:∃x,x=(rest.drop k).take n:=⟨_,rfl⟩
  have Dz:x.length=n:=by rw[hx,List.length_take,List.length_drop];omega
  rw[← hx]at Bh
  have DL:(bT bs)[i]?=some x:=by
   have:=congrArg (fun l=>l[0]?) y1
   grind
  have xC:bT (rest.drop (k+n))=(bT bs).drop (i+1):=by
   have:=congrArg (fun l=>l.drop 1) y1
   simp only[Bh,List.drop_drop]at this
   grind
  have xF:i+1≤(bT bs).length:=by
   grind
  have MM:=lB.piece k (k+n) ai ai
  rw[show k+n-k=n from by omega,← hx]at MM
  refine go ?_
  refine bu (p:=(k:Int)) (q:=((k+n:Nat):Int)) zr zr zr zr zr zr zr ai ai (.inr ai) ?_
  refine aD 29 (.slice (sliceAt a c k 1) n (c-k)) rfl (by rw[show((k:Int)).toNat=k from by omega,show(((k+n:Nat):Int)).toNat=k+n from by omega,show k+n-k=n from by omega];rfl) ?_
  refine go ?_
  refine aF (jh A _ x MM.1 ai) ?_
  rintro r _ rfl
  refine go ?_
  refine iW zr zr zr (hy i x DL r) ah ?_ iE
  rintro _ _⟨rfl,rfl⟩
  refine go ?_
  refine bu (p:=((k+n:Nat):Int)) (q:=(rest.length:Int)) zr zr zr zr zr zr zr ai ai (.inl rfl) ?_
  have kp:=lB.cut (k+n) ai
  refine aD 38 (.slice (sliceAt a c (k+n) 1) (rest.length-(k+n)) (c-(k+n))) rfl (by rw[show(((k+n:Nat):Int)).toNat=k+n from by omega,show((rest.length:Int)).toNat=rest.length from by omega];rfl) ?_
  refine go ?_
  refine aK ih (.slice (sliceAt a c (k+n) 1) (rest.length-(k+n)) (c-(k+n)),rest.drop (k+n),i+1) rfl (⟨kp,by simp only[List.length_drop];omega,xC,xF⟩) (by simp only[List.length_drop];omega) bQ ah
end Go.Proofs.YtnkfkabokmcgoaaGreatDoor
namespace Go.Proofs.YtnkfkabokmcgoaaGreatDoor
open Go Go.SL
def I2{e:TypeId}{sz n c:Nat}{a:Option Addr}{cs:List Value}(H:List HP):ao (aI e sz (.slice a n c) n cs::H) (aI e sz (.slice (sliceAt a c 0 sz) 0 c) 0 []::H) :=
 ao.fold (A:=aI e sz (.slice (sliceAt a c 0 sz) 0 c) 0 []) (B:=[aI e sz (.slice a n c) n cs]) fun h hs=>by
  refine⟨h,sub.refl h,?_⟩
  obtain⟨hl,⟨a',he,hn,hem⟩|⟨b,o,cap,pre,bL,he,hp,hn,hc,uA⟩⟩:=cW hs
  ·simp only[Value.slice.injEq]at he
   obtain⟨rfl,rfl,rfl⟩:=he
   exact⟨by simp,.inl ⟨_,rfl,rfl,hem⟩⟩
  ·simp only[Value.slice.injEq]at he
   obtain⟨rfl,-,rfl⟩:=he
   refine⟨by simp,.inr ⟨b,o,c,pre,cs++bL,?_,hp,Nat.zero_le _,by rw[List.length_append];simpa using hc,by simpa using uA⟩⟩
   unfold sliceAt
   split
   ·rfl
   ·simp[Addr.add]
attribute [local irreducible] J K aq Ends ag aI aC bF aW aP a6 aZ bN
def tI(ls:List (List UInt8))(i:Nat):((ls.take i).flatten).length≤ls.flatten.length:=by
 conv=>rhs;rw[← List.take_append_drop i ls,List.flatten_append,List.length_append]
 omega
def LG(n:Nat)(hn:n≤1000000000):aq Tryz.prog 319 [.slice none 0 0,.int .i64 (n:Int)] [] (fun r H=>H=[aI 5 1 r 0 []]):=by
 refine aq.aj Tryz.func319 Tryz.ntmps319 fun G F R hE=>?_
 (repeat(first|refine fq ?_|refine Oy (U:=aU) zr zr zr zr ?_))
 refine aV 1 ((.int .i64 (n:Int))) rfl ((congrArg (Value.int .i64) ai)) ?_
 refine au zr zr ?_ ?_
 ·intro sD
  have hp:0<n:=by omega
  (repeat(first|refine fq ?_|refine Oy (U:=aU) zr zr zr zr ?_))
  refine bu (p:=0) (q:=0) zr zr zr zr zr zr zr ai ai (.inr ai) ?_
  refine aD 20 (.slice none 0 0) zr zr ?_
  refine aS (bj 5 1 none _) ?_
  refine dT 0 rfl ?_
  intro l8
  refine go ?_
  refine H7 (U:=aU) (mm:=n) (cs:=[]) 0 zr zr zr zr zr zr zr zr zr zr zr zr l8 rfl ai hp ai (by show _*1≤_;omega) (by show _*1≤_;omega) bh ?_
  intro v'
  refine aL 0 rfl ?_
  rintro a' c' rfl
  refine go ?_
  refine bu (p:=0) (q:=0) zr zr zr zr zr zr zr ai ai (.inr ai) ?_
  refine aD 25 (.slice (sliceAt a' c' 0 1) 0 c') zr zr ?_
  refine aS (I2 _) (go ?_)
  refine aG hE Tryz.func319 rfl _ zr zr ah
 ·intro hz
  have hz0:n=0:=by omega
  subst hz0
  refine go ?_
  refine ak (bj 5 1 none _) ?_
  refine aG hE Tryz.func319 rfl _ zr zr ah
def EC(A:HP)(v:Value)(ls:List (List UInt8))(hv:su A v ls)(hl:ls.flatten.length≤1000000000)(hn:ls.length≤1000000000):aq Tryz.prog 224 [v] [A] (fun r H=>H=[aI 5 1 r ls.flatten.length (bV ls.flatten),A]):=by
 obtain⟨cs,dt,mF,⟨a,c,rfl,hc⟩,pn⟩:=hv
 refine aq.aj Tryz.func224 Tryz.ntmps224 fun G F R hE=>?_
 refine go ?_
 refine bn (fun i:Nat=>i≤ls.length) (fun i=>ls.length-i)
  (fun i=>[(0,.slice a ls.length c),(9,.slice a ls.length c),(10,.int .i64 (ls.length:Int)),(11,.int .i64 (i:Int)),(3,.int .i64 (((ls.take i).flatten.length:Nat):Int))])
  (fun _=>A::F) 0 (Nat.zero_le _) rfl bQ ah ?_
 rintro i hi ih
 refine go ?_
 refine au zr zr ?_ ?_
 ·intro cq
  have ko:i<ls.length:=by omega
  obtain⟨x,hx⟩:∃x,ls[i]?=some x:=⟨ls[i],List.getElem?_eq_getElem ko⟩
  obtain⟨cv,q4,hb⟩:=pn i x hx
  obtain⟨b0,o0,c0,vL⟩:=dt.some (by intro h;rw[h]at q4;simp at q4)
  simp only[Value.slice.injEq]at vL
  obtain⟨rfl,-,rfl⟩:=vL
  refine go ?_
  refine bC i zr zr zr zr zr zr zr zr ko ?_
  obtain⟨ax,cx,rfl,hcx⟩:=hb.2
  have sC:(ls.take (i+1)).flatten.length=(ls.take i).flatten.length+x.length:=by rw[List.take_add_one,hx];simp
  have hle:=tI ls (i+1)
  refine aN 0 i zr zr zr dt rfl q4 zr zr (go ?_)
  refine aV 3 ((.int .i64 (((ls.take (i+1)).flatten.length:Nat):Int))) rfl ((congrArg (Value.int .i64) ai)) ?_
  refine aK ih (i+1) rfl ai ai bQ ah
 intro ek
 have dq:i=ls.length:=by omega
 subst dq
 rw[List.take_length]
 ((refine go ?_;(refine aF (LG ls.flatten.length hl) ?_)))
 rintro gv _ rfl
 refine aL 0 rfl ?_
 rintro ga gc rfl
 refine go ?_
 refine bn (fun i:Value × Nat=>i.2≤ls.length) (fun i=>ls.length-i.2)
  (fun i=>[(0,.slice a ls.length c),(25,.slice a ls.length c),(26,.int .i64 (ls.length:Int)),(27,.int .i64 (i.2:Int)),(6,i.1)])
  (fun i=>aI 5 1 i.1 (ls.take i.2).flatten.length (bV (ls.take i.2).flatten)::A::F) (.slice ga 0 gc,0) (Nat.zero_le _) rfl bQ ah ?_
 rintro⟨v,i⟩ hi ih
 simp only at hi
 refine go ?_
 refine au zr zr ?_ ?_
 ·intro cq
  simp only at cq
  have ko:i<ls.length:=by omega
  obtain⟨x,hx⟩:∃x,ls[i]?=some x:=⟨ls[i],List.getElem?_eq_getElem ko⟩
  obtain⟨cv,q4,hb⟩:=pn i x hx
  obtain⟨b0,o0,c0,vL⟩:=dt.some (by intro h;rw[h]at q4;simp at q4)
  simp only[Value.slice.injEq]at vL
  obtain⟨rfl,-,rfl⟩:=vL
  refine go ?_
  refine bC i zr zr zr zr zr zr zr zr ko ?_
  obtain⟨ax,cx,rfl,hcx⟩:=hb.2
  have sC:(ls.take (i+1)).flatten=(ls.take i).flatten++x:=by rw[List.take_add_one,hx];simp
  have dW:(ls.take (i+1)).flatten.length=(ls.take i).flatten.length+x.length:=by rw[sC,List.length_append]
  have hle:=tI ls (i+1)
  refine aN 1 i zr zr zr dt rfl q4 zr zr ?_
  refine aL 0 rfl ?_
  intro av cv vG
  simp only at vG
  subst vG
  refine go ?_
  refine aO (mm:=x.length) (news:=bV x) 0 1 zr zr zr zr zr zr zr zr zr zr zr zr hb.1 (by show _=_*1;rw[bJ];omega) (dm _) (by simp only;omega) (by show(_+_)*1≤_;simp only;omega) (fun _=>rfl) bh ?_
  intro v1
  simp only
  rw[show bV (ls.take i).flatten++bV x=bV (ls.take (i+1)).flatten from by rw[sC];simp[bV],← dW]
  refine go ?_
  refine aK ih (v1,i+1) rfl (by simp only;omega) (by simp only;omega) bQ ah
 intro ek
 simp only at ek
 have dq:i=ls.length:=by omega
 subst dq
 rw[List.take_length]
 refine cL 0 rfl ?_
 intro av cv vG
 simp only at vG
 subst vG
 refine go ?_
 refine aG hE Tryz.func224 rfl _ zr zr ah
end Go.Proofs.YtnkfkabokmcgoaaGreatDoor
namespace Go.Proofs.YtnkfkabokmcgoaaGreatDoor
open Go Go.SL
def ry{σ:Type}:List (σ→Nat→σ→Prop)→σ→Nat→σ→Prop
 | [],x,e,y=>e=0∧y=x
 | s::ss,x,e,y=>∃e1 x1,s x e1 x1∧((e1≠0∧e=e1∧y=x1)∨(e1=0∧ry ss x1 e y))
attribute [local irreducible] J K aq Ends ag aI aC bF aW aP a6
def aB(bd:Nat)(A:Ab):HP:=fun h=>∃D,Rel D A∧fI bd D h
def fV{bd:Nat}{D:Dk}{A:Ab}(h:Rel D A)(H:List HP):ao (fI bd D::H) (aB bd A::H):=ao.fold (B:=[_]) fun h' hs=>⟨h',sub.refl h',D,h,cW hs⟩
def Gc{G:bY}{w:World}{bd:Nat}{A:Ab}{H:List HP}(hs:Sat G w (aB bd A::H)):∃D,Rel D A∧Sat G w (fI bd D::H):=by
 obtain⟨t,o,u,hp,zU,h1,h2,⟨D,hR,hA⟩,hH,hd,he⟩:=hs
 exact⟨D,hR,t,o,u,hp,zU,h1,h2,hA,hH,hd,he⟩
end Go.Proofs.YtnkfkabokmcgoaaGreatDoor
namespace Go.Proofs.YtnkfkabokmcgoaaGreatDoor
open Go Go.SL
def gC{P:Program}{f:FuncId}{args:List Value}{bd:Nat}{A:Ab}{Pre:List HP}{Post sr:Value→List HP→Prop}(hc:P.funcs[f]?.map ix=some true)(h:∀D,Rel D A→aq P f args (fI bd D::Pre) Post)(hp:∀v H,Post v H→∃H',sr v H'∧ao H H'):aq P f args (aB bd A::Pre) sr :=
  ⟨hc,fun G w F hw=>by
    obtain⟨D,hR,ux⟩:=Gc hw
    exact((h D hR).2 G w F ux).mono fun e w' h'=>let ⟨v,H,he,MK,hs⟩:=h';let ⟨H',hq,hE⟩:=hp v H MK;⟨v,H',he,hq,hs.cn (ao.append F hE)⟩⟩
attribute [local irreducible] J K aq Ends ag aI aC bF aW aP a6
def Ld(bd:Nat)(A:Ab):aq Tryz.prog 48 [ptr bd] [aB bd A] (fun v H=>v = .bool A.off∧H=[aB bd A]):=by
 refine gC ae (Post:=fun v H=>v = .bool A.off∧H=[aB bd A]) (fun D hR=>?_) (fun v H h=>⟨H,h,ao.refl _⟩)
 obtain⟨room,bm,ke,mK,nr,off,maps,eJ,files,kf,wl⟩:=D
 have iq:=hR.off
 simp only at iq
 subst iq
 refine aq.aj Tryz.func48 Tryz.ntmps48 fun G F R hE=>?_
 refine ak (gS _ _ _ _ _ _ _ _ _ _ _ _ _) (go ?_)
 refine ak ((ao.pick [0,1,2,3,4,5] rfl).trans (de _ _ _ _ _ _ _ _ _ _ _ _ _)) ?_
 refine ak (fV hR _) ?_
 refine ad hE Tryz.func48 zr zr ⟨rfl,rfl⟩
def Er(room:Nat)(h1:1≤room)(h2:room≤1073741824):aq Tryz.prog 6 [.int .i64 room] [] (fun v H=>∃bd,v = .tuple #[ptr bd,.int .i64 0]∧H=[aB bd (Ab.new room)]) :=
 (Lg room h1 h2).conv (ao.refl _) (by rintro v H⟨bd,D,hR,rfl,rfl⟩;exact⟨_,⟨bd,rfl,rfl⟩,fV hR _⟩)
def qj(bd:Nat)(A:Ab)(name:ByteArray):aq Tryz.prog 121 [ptr bd,.string name] [aB bd A] (fun v H=>H=[aB bd A]∧v = .tuple #[.int .i64 (A.size name).1,.int .i64 (A.size name).2]) :=
 gC ae (Post:=fun v H=>∃D,Rel D A∧H=[fI bd D]∧v = .tuple #[.int .i64 (A.size name).1,.int .i64 (A.size name).2]) (fun D hR=>(K9 bd D A hR name).conv (ao.refl _) (by rintro v H⟨rfl,rfl⟩;exact⟨_,⟨D,hR,rfl,rfl⟩,ao.refl _⟩)) (by rintro v H⟨D,hR,rfl,rfl⟩;exact⟨_,⟨rfl,rfl⟩,fV hR _⟩)
def zz(bd:Nat)(A:Ab)(name:ByteArray)(at_ n:Int):aq Tryz.prog 122 [ptr bd,.string name,.int .i64 at_,.int .i64 n] [aB bd A]
  (fun v H=>∃r,H=[aB bd A,aI 5 1 r (A.read name at_ n).1.length (bV (A.read name at_ n).1)]∧v = .tuple #[r,.int .i64 (A.read name at_ n).2]) :=
 gC ae (Post:=fun v H=>∃D r,Rel D A∧H=[aI 5 1 r (A.read name at_ n).1.length (bV (A.read name at_ n).1),fI bd D]∧v = .tuple #[r,.int .i64 (A.read name at_ n).2])
  (fun D hR=>(La bd D A hR name at_ n).conv (ao.refl _) (by rintro v H⟨r,rfl,rfl⟩;exact⟨_,⟨D,r,hR,rfl,rfl⟩,ao.refl _⟩)) (by rintro v H⟨D,r,hR,rfl,rfl⟩;exact⟨_,⟨r,rfl,rfl⟩,(ao.pick [1,0] rfl).trans (fV hR _)⟩)
def rD(bd:Nat)(A:Ab)(name:ByteArray)(dD:A.aR.length≤1000000000):aq Tryz.prog 137 [ptr bd,.string name] [aB bd A]
  (fun v H=>∃f,f ∉ A.fs.map (·.1)∧H=[aB bd (A.create (isName name) name f).2]∧v = .int .i64 (A.create (isName name) name f).1) :=
 gC ae (fun D hR=>EB bd D A hR name dD) (by rintro v H⟨f,D',hf,hR,rfl,rfl⟩;exact⟨_,⟨f,hf,rfl,rfl⟩,fV hR _⟩)
def yg(bd:Nat)(A:Ab)(name:ByteArray)(dD:A.aR.length≤1000000000):aq Tryz.prog 114 [ptr bd,.string name] [aB bd A]
  (fun v H=>H=[aB bd (A.remove (isName name) name).2]∧v = .int .i64 (A.remove (isName name) name).1) :=
 gC ae (fun D hR=>En bd D A hR name dD) (by rintro v H⟨D',hR,rfl,rfl⟩;exact⟨_,⟨rfl,rfl⟩,fV hR _⟩)
def K3(bd:Nat)(A:Ab)(name:ByteArray)(at_:Int)(X:HP)(bv:Value)(b:List UInt8)(hv:Vw X bv b.length (bV b))(lg:A.writes.length≤1000000000)(sT:b.length≤1000000000)(hat : -9223372036854775808≤at_∧at_≤9223372036854775807) :
  aq Tryz.prog 168 [ptr bd,.string name,.int .i64 at_,bv] [aB bd A,X]
   (fun v H=>H=[aB bd (A.write (k8 name at_ b) name at_.toNat b).2,X]∧v = .int .i64 (A.write (k8 name at_ b) name at_.toNat b).1) :=
 gC ae (fun D hR=>HE bd D A hR name at_ X bv b hv lg sT hat) (by rintro v H⟨D',hR,rfl,rfl⟩;exact⟨_,⟨rfl,rfl⟩,fV hR _⟩)
def NB(bd:Nat)(A:Ab)(name:ByteArray)(lg:A.writes.length≤1000000000):aq Tryz.prog 230 [ptr bd,.string name] [aB bd A]
  (fun v H=>H=[aB bd (A.sync (isName name) name).2]∧v = .int .i64 (A.sync (isName name) name).1) :=
 gC ae (fun D hR=>K8 bd D A hR name lg) (by rintro v H⟨D',hR,rfl,rfl⟩;exact⟨_,⟨rfl,rfl⟩,fV hR _⟩)
def mj(bd:Nat)(A:Ab):aq Tryz.prog 58 [ptr bd] [aB bd A]
  (fun v H=>H=[aB bd A.cj.2]∧v = .int .i64 A.cj.1) :=
 gC ae (fun D hR=>wk bd D A hR) (by rintro v H⟨D',hR,rfl,rfl⟩;exact⟨_,⟨rfl,rfl⟩,fV hR _⟩)
def HK(bd:Nat)(A:Ab)(old name:ByteArray)(dD:A.aR.length≤1000000000):aq Tryz.prog 232 [ptr bd,.string old,.string name] [aB bd A]
  (fun v H=>H=[aB bd (A.rename ([old,name].all isName) old name).2]∧v = .int .i64 (A.rename ([old,name].all isName) old name).1) :=
 gC ae (fun D hR=>Em bd D A hR old name dD) (by rintro v H⟨D',hR,rfl,rfl⟩;exact⟨_,⟨rfl,rfl⟩,fV hR _⟩)
end Go.Proofs.YtnkfkabokmcgoaaGreatDoor
namespace Go.Proofs.YtnkfkabokmcgoaaGreatDoor
open Go Go.SL
def kd(A B:Ab):Prop:=B.aR.length≤A.aR.length+1∧B.writes.length≤A.writes.length+1
theorem oA(A:Ab)(n:ByteArray)(ok:Bool):(A.find n ok).2.2.aR.length=A.aR.length∧(A.find n ok).2.2.writes.length=A.writes.length:=by
 grind [lH]
theorem xJ(A:Ab)(ok:Bool):(A.meet ok).2.aR.length=A.aR.length∧(A.meet ok).2.writes.length=A.writes.length:=by
 unfold Ab.meet
 grind
def nH(A:Ab)(ok:Bool)(n:ByteArray):kd A (A.remove ok n).2:=by
 have h:=oA A n ok
 unfold Ab.remove
 split
 ·rename_i f A1 he
  rw[he]at h
  simp only at h
  constructor <;> simp[Ab.oD] <;> omega
 ·rename_i e o A1 _ he
  rw[he]at h
  simp only at h
  constructor <;> simp only <;> omega
def sg(A:Ab)(ok:Bool)(o n:ByteArray):kd A (A.rename ok o n).2:=by
 have h:=oA A o ok
 unfold Ab.rename
 split
 ·rename_i f A1 he
  rw[he]at h
  simp only at h
  constructor <;> simp[Ab.oD] <;> omega
 ·rename_i e o A1 _ he
  rw[he]at h
  simp only at h
  constructor <;> simp only <;> omega
theorem nI(A:Ab)(ok:Bool)(n:ByteArray)(f:Nat):kd A (A.create ok n f).2:=by
 have h:=xJ A ok
 unfold Ab.create
 split
 ·split
  ·constructor <;> simp only <;> omega
  split
  ·constructor <;> simp only <;> omega
  ·constructor <;> simp[Ab.oD] <;> omega
 ·constructor <;> simp only <;> omega
def uH(A:Ab)(ok:Bool)(n:ByteArray)(at_:Nat)(b:List UInt8):kd A (A.write ok n at_ b).2:=by
 have h:=oA A n ok
 unfold Ab.write
 split
 ·split
  ·split
   ·constructor <;> simp only <;> omega
   ·constructor <;> simp <;> omega
  ·constructor <;> simp only <;> omega
 ·constructor <;> simp only <;> omega
theorem xI(A:Ab)(ok:Bool)(n:ByteArray):kd A (A.sync ok n).2:=by
 have h:=oA A n ok
 unfold Ab.sync
 split
 ·split
  ·constructor
   ·grind
   grind
  ·constructor <;> simp only <;> omega
 ·constructor <;> simp only <;> omega
def ir(A:Ab):kd A A.cj.2:=by
 have h:=xJ A true
 unfold Ab.cj
 split
 ·constructor <;> simp only[List.length_singleton] <;> omega
 ·constructor <;> simp only <;> omega
attribute [local irreducible] J K aq Ends ag aI aC bF aW aP a6 aZ bN
theorem Ny{σ:Type}(I:σ→HP)(V:HP)(v:Value)(mG:List Value)(hv:Vw V v mG.length mG)(hn:mG.length≤1000000000)(ss:List (σ→Nat→σ→Prop))(hlen:ss.length=mG.length)(Q:Nat→σ→Prop)(dD:∀(i:Nat) (fv:Value) (s:σ→Nat→σ→Prop),mG[i]?=some fv→ss[i]?=some s→∃g fi cap,fv = .func (.func g) fi cap∧∀x,Q i x→aq Tryz.prog g (fi.toList++cap.toList) [I x] (fun r H=>∃(e:Nat) (x':σ),r = .int .i64 (e:Int)∧H=[I x']∧s x e x'∧(e=0→Q (i+1) x')))(x0:σ)(hQ:Q 0 x0) :
  aq Tryz.prog 226 [v] [V,I x0] (fun r H=>∃(e:Nat) (x':σ),r = .int .i64 (e:Int)∧H=[V,I x']∧ry ss x0 e x'):=by
 obtain⟨a,c,rfl⟩:=hv.shape
 refine aq.aj Tryz.func226 Tryz.ntmps226 fun G F R hE=>?_
 refine go ?_
 refine bn (fun y:Nat × σ=>y.1≤mG.length∧Q y.1 y.2∧∀e x',ry (ss.drop y.1) y.2 e x'→ry ss x0 e x') (fun y=>mG.length-y.1)
  (fun y=>[(0,.slice a mG.length c),(6,.slice a mG.length c),(7,.int .i64 (mG.length:Int)),(8,.int .i64 (y.1:Int))])
  (fun y=>V::I y.2::F) (0,x0) ⟨Nat.zero_le _,hQ,fun _ _ h=>h⟩ rfl bQ ah ?_
 rintro⟨i,x⟩⟨hi,hq,hr⟩ ih
 refine go ?_
 refine au zr zr ?_ ?_
 ·intro cq
  have ko:i<mG.length:=by omega
  obtain⟨fv,M3⟩:∃fv,mG[i]?=some fv:=⟨mG[i],List.getElem?_eq_getElem ko⟩
  obtain⟨s,hs⟩:∃s,ss[i]?=some s:=⟨ss[i],List.getElem?_eq_getElem ai⟩
  obtain⟨g,fi,cap,rfl,hc⟩:=dD i fv s M3 hs
  have jz:ss.drop i=s::ss.drop (i+1):=by
   rw[List.drop_eq_getElem_cons ai]
   grind
  obtain⟨b0,o0,c0,vL⟩:=hv.some (by intro h;rw[h]at ko;simp at ko)
  obtain⟨rfl,-,rfl⟩:=vL
  refine go ?_
  refine bC i zr zr zr zr zr zr zr zr ko ?_
  refine aN 0 i zr zr zr hv rfl M3 zr zr (go ?_)
  refine iC zr zr zr (by simp) (hc x hq) ah ?_ iE
  rintro _ _⟨e,x',rfl,rfl,YV,N8⟩
  refine go ?_
  refine au zr zr ?_ ?_
  ·intro fy
   have he:e≠0:=by omega
   refine go ?_
   ((refine ad hE Tryz.func226 zr zr ⟨e,x',rfl,rfl,hr e x' (by rw[jz];exact⟨e,x',YV,.inl ⟨he,rfl,rfl⟩⟩)⟩))
  ·intro heq
   have he:e=0:=by omega
   refine go ?_
   refine aK ih (i+1,x') rfl (⟨by simp only;omega,N8 he,fun e2 x2 h2=>hr e2 x2 (by rw[jz];exact⟨e,x',YV,.inr ⟨he,h2⟩⟩)⟩) ai bQ ah
 ·intro ek
  have dq:i=mG.length:=by omega
  refine go ?_
  ((refine ad hE Tryz.func226 zr zr ⟨0,x,rfl,rfl,hr 0 x (by rw[List.drop_eq_nil_of_le ai];exact⟨rfl,rfl⟩)⟩))
attribute [local irreducible] aB
def JA(bd jb xj xf xw xb:Nat)(name fresh:ByteArray)(wa ba:Option Addr)(wc bl bc:Nat)(whole:List UInt8)(br:Bool)(A:Ab)(n s c:Int)(dD:A.aR.length≤1000000000) :
  aq Tryz.prog 225 [ptr xj,ptr xf] ([aB bd A,ag jb (cl [ptr bd,.string name,.int .i64 n,.int .i64 s,.int .i64 c,.bool br] 239),ag xj (cl [ptr jb] 125),ag xf (cl [.string fresh] 9),ag xw (cl [.slice wa whole.length wc] 38),ag xb (cl [.slice ba bl bc] 38),aI 5 1 (.slice wa whole.length wc) whole.length (bV whole)]) (fun r H=>∃(e:Nat) (A1:Ab),e=(A.remove (isName fresh) fresh).1∧A1=(A.remove (isName fresh) fresh).2∧r = .int .i64 (e:Int)∧H=[aB bd A1,ag jb (cl [ptr bd,.string name,.int .i64 n,.int .i64 s,.int .i64 c,.bool br] 239),ag xj (cl [ptr jb] 125),ag xf (cl [.string fresh] 9),ag xw (cl [.slice wa whole.length wc] 38),ag xb (cl [.slice ba bl bc] 38),aI 5 1 (.slice wa whole.length wc) whole.length (bV whole)]):=by
 refine aq.aj Tryz.func225 Tryz.ntmps225 fun G F R hE=>?_
 refine go ?_
 refine aJ (fun w=>Sat G w ([ag jb (cl [ptr bd,.string name,.int .i64 n,.int .i64 s,.int .i64 c,.bool br] 239),ag xj (cl [ptr jb] 125),ag xf (cl [.string fresh] 9),ag xw (cl [.slice wa whole.length wc] 38),aI 5 1 (.slice wa whole.length wc) whole.length (bV whole)])) (cM 0 5 (.act 5 (.st 6 .nil))) rfl ae ae ae cY ?_
 refine go ?_
 refine bP (yg bd A fresh dD) ?_
 refine go ?_
 refine ad hE Tryz.func225 zr zr ⟨_,_,rfl,rfl,rfl,rfl⟩
def Jy(bd jb xj xf xw xb:Nat)(name fresh:ByteArray)(wa ba:Option Addr)(wc bl bc:Nat)(whole:List UInt8)(br:Bool)(A:Ab)(n s c:Int)(dD:A.aR.length≤1000000000) :
  aq Tryz.prog 227 [ptr xj,ptr xf] ([aB bd A,ag jb (cl [ptr bd,.string name,.int .i64 n,.int .i64 s,.int .i64 c,.bool br] 239),ag xj (cl [ptr jb] 125),ag xf (cl [.string fresh] 9),ag xw (cl [.slice wa whole.length wc] 38),ag xb (cl [.slice ba bl bc] 38),aI 5 1 (.slice wa whole.length wc) whole.length (bV whole)]) (fun r H=>∃(e:Nat) (A1:Ab),(∃f,f ∉ A.fs.map (·.1)∧e=(A.create (isName fresh) fresh f).1∧A1=(A.create (isName fresh) fresh f).2)∧r = .int .i64 (e:Int)∧H=[aB bd A1,ag jb (cl [ptr bd,.string name,.int .i64 n,.int .i64 s,.int .i64 c,.bool br] 239),ag xj (cl [ptr jb] 125),ag xf (cl [.string fresh] 9),ag xw (cl [.slice wa whole.length wc] 38),ag xb (cl [.slice ba bl bc] 38),aI 5 1 (.slice wa whole.length wc) whole.length (bV whole)]):=by
 refine aq.aj Tryz.func227 Tryz.ntmps227 fun G F R hE=>?_
 refine go ?_
 refine aJ (fun w=>Sat G w ([ag jb (cl [ptr bd,.string name,.int .i64 n,.int .i64 s,.int .i64 c,.bool br] 239),ag xj (cl [ptr jb] 125),ag xf (cl [.string fresh] 9),ag xw (cl [.slice wa whole.length wc] 38),aI 5 1 (.slice wa whole.length wc) whole.length (bV whole)])) (cM 0 5 (.act 5 (.st 6 .nil))) rfl ae ae ae cY ?_
 refine go ?_
 refine dx (rD bd A fresh dD) ?_
 rintro _ _⟨f,hf,rfl,rfl⟩
 refine go ?_
 refine ad hE Tryz.func227 zr zr ⟨_,_,⟨f,hf,rfl,rfl⟩,rfl,rfl⟩
def Jw(bd jb xj xf xw xb:Nat)(name fresh:ByteArray)(wa ba:Option Addr)(wc bl bc:Nat)(whole:List UInt8)(br:Bool)(A:Ab)(n s c:Int)(lg:A.writes.length≤1000000000)(sT:whole.length≤1000000000) :
  aq Tryz.prog 228 [ptr xj,ptr xf,ptr xw] ([aB bd A,ag jb (cl [ptr bd,.string name,.int .i64 n,.int .i64 s,.int .i64 c,.bool br] 239),ag xj (cl [ptr jb] 125),ag xf (cl [.string fresh] 9),ag xw (cl [.slice wa whole.length wc] 38),ag xb (cl [.slice ba bl bc] 38),aI 5 1 (.slice wa whole.length wc) whole.length (bV whole)]) (fun r H=>∃(e:Nat) (A1:Ab),e=(A.write (k8 fresh 0 whole) fresh 0 whole).1∧A1=(A.write (k8 fresh 0 whole) fresh 0 whole).2∧r = .int .i64 (e:Int)∧H=[aB bd A1,ag jb (cl [ptr bd,.string name,.int .i64 n,.int .i64 s,.int .i64 c,.bool br] 239),ag xj (cl [ptr jb] 125),ag xf (cl [.string fresh] 9),ag xw (cl [.slice wa whole.length wc] 38),ag xb (cl [.slice ba bl bc] 38),aI 5 1 (.slice wa whole.length wc) whole.length (bV whole)]):=by
 refine aq.aj Tryz.func228 Tryz.ntmps228 fun G F R hE=>?_
 refine go ?_
 refine aJ (fun w=>Sat G w ([ag jb (cl [ptr bd,.string name,.int .i64 n,.int .i64 s,.int .i64 c,.bool br] 239),ag xj (cl [ptr jb] 125),ag xf (cl [.string fresh] 9),ag xw (cl [.slice wa whole.length wc] 38),aI 5 1 (.slice wa whole.length wc) whole.length (bV whole)])) (cM 0 6 (.act 6 (.st 7 .nil))) rfl ae ae ae cY ?_
 refine go ?_
 refine dT 6 rfl ?_
 intro dt
 refine go ?_
 refine aT ?_
 refine fH (U:=aU) 3 zr zr zr zr zr zr (go ?_)
 refine bP (K3 bd A fresh 0 _ _ whole dt lg sT ai) ?_
 refine go ?_
 refine ad hE Tryz.func228 zr zr ⟨_,_,rfl,rfl,rfl,rfl⟩
def Ju(bd jb xj xf xw xb:Nat)(name fresh:ByteArray)(wa ba:Option Addr)(wc bl bc:Nat)(whole:List UInt8)(br:Bool)(A:Ab)(n s c:Int)(lg:A.writes.length≤1000000000) :
  aq Tryz.prog 229 [ptr xj,ptr xf] ([aB bd A,ag jb (cl [ptr bd,.string name,.int .i64 n,.int .i64 s,.int .i64 c,.bool br] 239),ag xj (cl [ptr jb] 125),ag xf (cl [.string fresh] 9),ag xw (cl [.slice wa whole.length wc] 38),ag xb (cl [.slice ba bl bc] 38),aI 5 1 (.slice wa whole.length wc) whole.length (bV whole)]) (fun r H=>∃(e:Nat) (A1:Ab),e=(A.sync (isName fresh) fresh).1∧A1=(A.sync (isName fresh) fresh).2∧r = .int .i64 (e:Int)∧H=[aB bd A1,ag jb (cl [ptr bd,.string name,.int .i64 n,.int .i64 s,.int .i64 c,.bool br] 239),ag xj (cl [ptr jb] 125),ag xf (cl [.string fresh] 9),ag xw (cl [.slice wa whole.length wc] 38),ag xb (cl [.slice ba bl bc] 38),aI 5 1 (.slice wa whole.length wc) whole.length (bV whole)]):=by
 refine aq.aj Tryz.func229 Tryz.ntmps229 fun G F R hE=>?_
 refine go ?_
 refine aJ (fun w=>Sat G w ([ag jb (cl [ptr bd,.string name,.int .i64 n,.int .i64 s,.int .i64 c,.bool br] 239),ag xj (cl [ptr jb] 125),ag xf (cl [.string fresh] 9),ag xw (cl [.slice wa whole.length wc] 38),aI 5 1 (.slice wa whole.length wc) whole.length (bV whole)])) (cM 0 5 (.act 5 (.st 6 .nil))) rfl ae ae ae cY ?_
 refine go ?_
 refine bP (NB bd A fresh lg) ?_
 refine go ?_
 refine ad hE Tryz.func229 zr zr ⟨_,_,rfl,rfl,rfl,rfl⟩
def Js(bd jb xj xf xw xb:Nat)(name fresh:ByteArray)(wa ba:Option Addr)(wc bl bc:Nat)(whole:List UInt8)(br:Bool)(A:Ab)(n s c:Int)(dD:A.aR.length≤1000000000) :
  aq Tryz.prog 231 [ptr xj,ptr xf] ([aB bd A,ag jb (cl [ptr bd,.string name,.int .i64 n,.int .i64 s,.int .i64 c,.bool br] 239),ag xj (cl [ptr jb] 125),ag xf (cl [.string fresh] 9),ag xw (cl [.slice wa whole.length wc] 38),ag xb (cl [.slice ba bl bc] 38),aI 5 1 (.slice wa whole.length wc) whole.length (bV whole)]) (fun r H=>∃(e:Nat) (A1:Ab),e=(A.rename ([fresh,name].all isName) fresh name).1∧A1=(A.rename ([fresh,name].all isName) fresh name).2∧r = .int .i64 (e:Int)∧H=[aB bd A1,ag jb (cl [ptr bd,.string name,.int .i64 n,.int .i64 s,.int .i64 c,.bool br] 239),ag xj (cl [ptr jb] 125),ag xf (cl [.string fresh] 9),ag xw (cl [.slice wa whole.length wc] 38),ag xb (cl [.slice ba bl bc] 38),aI 5 1 (.slice wa whole.length wc) whole.length (bV whole)]):=by
 refine aq.aj Tryz.func231 Tryz.ntmps231 fun G F R hE=>?_
 refine go ?_
 refine aJ (fun w=>Sat G w ([ag jb (cl [ptr bd,.string name,.int .i64 n,.int .i64 s,.int .i64 c,.bool br] 239),ag xj (cl [ptr jb] 125),ag xf (cl [.string fresh] 9),ag xw (cl [.slice wa whole.length wc] 38),aI 5 1 (.slice wa whole.length wc) whole.length (bV whole)])) (cM 0 9 (.act 9 (.st 10 .nil))) rfl ae ae ae cY ?_
 refine go ?_
 refine bP (HK bd A fresh name dD) ?_
 refine go ?_
 refine ad hE Tryz.func231 zr zr ⟨_,_,rfl,rfl,rfl,rfl⟩
def Jq(bd jb xj xf xw xb:Nat)(name fresh:ByteArray)(wa ba:Option Addr)(wc bl bc:Nat)(whole:List UInt8)(br:Bool)(A:Ab)(n s c:Int) :
  aq Tryz.prog 233 [ptr xb,ptr xj] ([aB bd A,ag jb (cl [ptr bd,.string name,.int .i64 n,.int .i64 s,.int .i64 c,.bool br] 239),ag xj (cl [ptr jb] 125),ag xf (cl [.string fresh] 9),ag xw (cl [.slice wa whole.length wc] 38),ag xb (cl [.slice ba bl bc] 38),aI 5 1 (.slice wa whole.length wc) whole.length (bV whole)]) (fun r H=>r = .int .i64 0∧H=[aB bd A,ag jb (cl [ptr bd,.string name,.int .i64 1,.int .i64 (bl:Int),.int .i64 (bl:Int),.bool br] 239),ag xj (cl [ptr jb] 125),ag xf (cl [.string fresh] 9),ag xw (cl [.slice wa whole.length wc] 38),ag xb (cl [.slice ba bl bc] 38),aI 5 1 (.slice wa whole.length wc) whole.length (bV whole)]):=by
 refine aq.aj Tryz.func233 Tryz.ntmps233 fun G F R hE=>?_
 refine go ?_
 refine aJ (fun w=>Sat G w ([ag xj (cl [ptr jb] 125),ag xb (cl [.slice ba bl bc] 38)])) (cM 0 9 (.act 9 (.st 10 (.st 11 (.act 12 (.st 13 (.st 14 (.act 15 .nil)))))))) rfl ae ae ae cY ?_
 refine go ?_
 refine aY ?_
 refine bG 1 (fun w hw=>by exact hw.cn ah) zr zr zr zr zr zr zr zr zr ?_
 refine go ?_
 refine aY ?_
 refine bG 1 (fun w hw=>by exact hw.cn ah) zr zr zr zr zr zr zr zr zr ?_
 refine go ?_
 refine ad hE Tryz.func233 zr zr ⟨rfl,rfl⟩
end Go.Proofs.YtnkfkabokmcgoaaGreatDoor
namespace Go.Proofs.YtnkfkabokmcgoaaGreatDoor
open Go Go.SL
abbrev PS:=Ab × Int × Int × Int
def WH(g:Ab→Nat→Ab→Prop)(x:PS)(e:Nat)(y:PS):Prop:=g x.1 e y.1∧y.2=x.2
def yC(fresh:ByteArray):=WH fun A e B=>e=(A.remove (isName fresh) fresh).1∧B=(A.remove (isName fresh) fresh).2
def yD(fresh:ByteArray):=WH fun A e B=>∃f,f ∉ A.fs.map (·.1)∧e=(A.create (isName fresh) fresh f).1∧B=(A.create (isName fresh) fresh f).2
def CM(fresh:ByteArray)(whole:List UInt8):=WH fun A e B=>e=(A.write (k8 fresh 0 whole) fresh 0 whole).1∧B=(A.write (k8 fresh 0 whole) fresh 0 whole).2
def Jb(fresh:ByteArray):=WH fun A e B=>e=(A.sync (isName fresh) fresh).1∧B=(A.sync (isName fresh) fresh).2
def yB(fresh name:ByteArray):=WH fun A e B=>e=(A.rename ([fresh,name].all isName) fresh name).1∧B=(A.rename ([fresh,name].all isName) fresh name).2
def CN:=WH fun A e B=>e=A.cj.1∧B=A.cj.2
def U2(bl:Nat)(x:PS)(e:Nat)(y:PS):Prop:=e=0∧y=(x.1,1,(bl:Int),(bl:Int))
def bO(name:ByteArray):ByteArray:=name++⟨#[46,110,101,119]⟩
def cg(ls:List (List UInt8)):List UInt8:=List.replicate 16 0++du 1 (ls.flatMap dH).length++ls.flatMap dH
def fM(name:ByteArray)(ls:List (List UInt8))(A:Ab):List (PS→Nat→PS→Prop) :=
 (if(A.size (bO name)).2=0 then [yC (bO name)]else []) ++
 [yD (bO name),CM (bO name) (cg ls),Jb (bO name),yB (bO name) name,CN,U2 (ls.flatMap dH).length]
def Eo(name:ByteArray)(ls:List (List UInt8))(x:PS)(e:Nat)(y:PS):Prop:=ry (fM name ls x.1) x e y
attribute [local irreducible] J K aq Ends ag aI aC bF aW aP a6 aZ bN aB
def _root_.Go.SL.ao.oU(l:List HP):ao [Sep l] l:=by have:=ao.cX l [];rwa[List.append_nil]at this
def _root_.Go.SL.ao.o5(l:List HP):ao l [Sep l]:=by have:=ao.cd l [];rwa[List.append_nil]at this
def PI(bd jb xj xf xw xb:Nat)(name fresh:ByteArray)(wa ba:Option Addr)(wc bl bc:Nat)(whole:List UInt8)(br:Bool)(x:PS):HP:=Sep [aB bd x.1,ag jb (cl [ptr bd,.string name,.int .i64 x.2.1,.int .i64 x.2.2.1,.int .i64 x.2.2.2,.bool br] 239),ag xj (cl [ptr jb] 125),ag xf (cl [.string fresh] 9),ag xw (cl [.slice wa whole.length wc] 38),ag xb (cl [.slice ba bl bc] 38),aI 5 1 (.slice wa whole.length wc) whole.length (bV whole)]
def PQ(i:Nat)(x:PS):Prop:=x.1.aR.length≤900000000+i∧x.1.writes.length≤900000000+i
def PQ.next{i:Nat}{x:PS}(h:PQ i x){B:Ab}(g:kd x.1 B):PQ (i+1) (B,x.2):=by
 obtain⟨h1,h2⟩:=h
 obtain⟨g1,g2⟩:=g
 exact⟨by simp only;omega,by simp only;omega⟩
end Go.Proofs.YtnkfkabokmcgoaaGreatDoor
namespace Go.Proofs.YtnkfkabokmcgoaaGreatDoor
open Go Go.SL
def Ht{P:Program}{f:FuncId}{args:List Value}{Pre:List HP}{Post:Value→List HP→Prop}(X:List HP)(c:aq P f args Pre Post):aq P f args (Pre++X) (fun v H=>∃H',Post v H'∧H=H'++X) :=
 ⟨c.1,fun G w F hw=>(c.2 G w (X++F) (by rw[List.append_assoc]at hw;exact hw)).mono fun e w' h'=>let ⟨v,H,he,MK,hs⟩:=h';⟨v,H++X,he,⟨H,MK,rfl⟩,by rw[List.append_assoc];exact hs⟩⟩
attribute [local irreducible] J K aq Ends ag aI aC bF aW aP a6 aZ bN aB
def U7(bd jb xj xf xw xb:Nat)(name fresh:ByteArray)(wa ba:Option Addr)(wc bl bc:Nat)(whole:List UInt8)(br:Bool)(i:Nat)(hi:i≤10)(x:PS)(hq:PQ i x) :
  aq Tryz.prog 225 [ptr xj,ptr xf] [PI bd jb xj xf xw xb name fresh wa ba wc bl bc whole br x] (fun r H=>∃(e:Nat) (x':PS),r = .int .i64 (e:Int)∧H=[PI bd jb xj xf xw xb name fresh wa ba wc bl bc whole br x']∧yC fresh x e x'∧(e=0→PQ (i+1) x')) :=
 (JA bd jb xj xf xw xb name fresh wa ba wc bl bc whole br x.1 x.2.1 x.2.2.1 x.2.2.2 (by have:=hq.1;omega)).conv (ao.oU _) (by
  rintro v H⟨e,A1,he,xH,rfl,rfl⟩
  exact⟨_,⟨_,(A1,x.2),rfl,rfl,⟨⟨he,xH⟩,rfl⟩,fun _=>hq.next (xH ▸ nH _ _ _)⟩,ao.o5 _⟩)
def Jz(bd jb xj xf xw xb:Nat)(name fresh:ByteArray)(wa ba:Option Addr)(wc bl bc:Nat)(whole:List UInt8)(br:Bool)(i:Nat)(hi:i≤10)(x:PS)(hq:PQ i x) :
  aq Tryz.prog 227 [ptr xj,ptr xf] [PI bd jb xj xf xw xb name fresh wa ba wc bl bc whole br x] (fun r H=>∃(e:Nat) (x':PS),r = .int .i64 (e:Int)∧H=[PI bd jb xj xf xw xb name fresh wa ba wc bl bc whole br x']∧yD fresh x e x'∧(e=0→PQ (i+1) x')) :=
 (Jy bd jb xj xf xw xb name fresh wa ba wc bl bc whole br x.1 x.2.1 x.2.2.1 x.2.2.2 (by have:=hq.1;omega)).conv (ao.oU _) (by
  rintro v H⟨e,A1,⟨f,hf,he,xH⟩,rfl,rfl⟩
  exact⟨_,⟨_,(A1,x.2),rfl,rfl,⟨⟨f,hf,he,xH⟩,rfl⟩,fun _=>hq.next (xH ▸ nI _ _ _ _)⟩,ao.o5 _⟩)
def Jx(bd jb xj xf xw xb:Nat)(name fresh:ByteArray)(wa ba:Option Addr)(wc bl bc:Nat)(whole:List UInt8)(br:Bool)(i:Nat)(hi:i≤10)(sT:whole.length≤1000000000)(x:PS)(hq:PQ i x) :
  aq Tryz.prog 228 [ptr xj,ptr xf,ptr xw] [PI bd jb xj xf xw xb name fresh wa ba wc bl bc whole br x] (fun r H=>∃(e:Nat) (x':PS),r = .int .i64 (e:Int)∧H=[PI bd jb xj xf xw xb name fresh wa ba wc bl bc whole br x']∧CM fresh whole x e x'∧(e=0→PQ (i+1) x')) :=
 (Jw bd jb xj xf xw xb name fresh wa ba wc bl bc whole br x.1 x.2.1 x.2.2.1 x.2.2.2 (by have:=hq.2;omega) sT).conv (ao.oU _) (by
  rintro v H⟨e,A1,he,xH,rfl,rfl⟩
  exact⟨_,⟨_,(A1,x.2),rfl,rfl,⟨⟨he,xH⟩,rfl⟩,fun _=>hq.next (xH ▸ uH _ _ _ _ _)⟩,ao.o5 _⟩)
def Jv(bd jb xj xf xw xb:Nat)(name fresh:ByteArray)(wa ba:Option Addr)(wc bl bc:Nat)(whole:List UInt8)(br:Bool)(i:Nat)(hi:i≤10)(x:PS)(hq:PQ i x) :
  aq Tryz.prog 229 [ptr xj,ptr xf] [PI bd jb xj xf xw xb name fresh wa ba wc bl bc whole br x] (fun r H=>∃(e:Nat) (x':PS),r = .int .i64 (e:Int)∧H=[PI bd jb xj xf xw xb name fresh wa ba wc bl bc whole br x']∧Jb fresh x e x'∧(e=0→PQ (i+1) x')) :=
 (Ju bd jb xj xf xw xb name fresh wa ba wc bl bc whole br x.1 x.2.1 x.2.2.1 x.2.2.2 (by have:=hq.2;omega)).conv (ao.oU _) (by
  rintro v H⟨e,A1,he,xH,rfl,rfl⟩
  exact⟨_,⟨_,(A1,x.2),rfl,rfl,⟨⟨he,xH⟩,rfl⟩,fun _=>hq.next (xH ▸ xI _ _ _)⟩,ao.o5 _⟩)
def Jt(bd jb xj xf xw xb:Nat)(name fresh:ByteArray)(wa ba:Option Addr)(wc bl bc:Nat)(whole:List UInt8)(br:Bool)(i:Nat)(hi:i≤10)(x:PS)(hq:PQ i x) :
  aq Tryz.prog 231 [ptr xj,ptr xf] [PI bd jb xj xf xw xb name fresh wa ba wc bl bc whole br x] (fun r H=>∃(e:Nat) (x':PS),r = .int .i64 (e:Int)∧H=[PI bd jb xj xf xw xb name fresh wa ba wc bl bc whole br x']∧yB fresh name x e x'∧(e=0→PQ (i+1) x')) :=
 (Js bd jb xj xf xw xb name fresh wa ba wc bl bc whole br x.1 x.2.1 x.2.2.1 x.2.2.2 (by have:=hq.1;omega)).conv (ao.oU _) (by
  rintro v H⟨e,A1,he,xH,rfl,rfl⟩
  exact⟨_,⟨_,(A1,x.2),rfl,rfl,⟨⟨he,xH⟩,rfl⟩,fun _=>hq.next (xH ▸ sg _ _ _ _)⟩,ao.o5 _⟩)
def Jo(bd jb xj xf xw xb:Nat)(name fresh:ByteArray)(wa ba:Option Addr)(wc bl bc:Nat)(whole:List UInt8)(br:Bool)(i:Nat)(x:PS)(hq:PQ i x) :
  aq Tryz.prog 58 [ptr bd] [PI bd jb xj xf xw xb name fresh wa ba wc bl bc whole br x] (fun r H=>∃(e:Nat) (x':PS),r = .int .i64 (e:Int)∧H=[PI bd jb xj xf xw xb name fresh wa ba wc bl bc whole br x']∧CN x e x'∧(e=0→PQ (i+1) x')) :=
 (Ht ([aB bd x.1,ag jb (cl [ptr bd,.string name,.int .i64 x.2.1,.int .i64 x.2.2.1,.int .i64 x.2.2.2,.bool br] 239),ag xj (cl [ptr jb] 125),ag xf (cl [.string fresh] 9),ag xw (cl [.slice wa whole.length wc] 38),ag xb (cl [.slice ba bl bc] 38),aI 5 1 (.slice wa whole.length wc) whole.length (bV whole)].drop 1) (mj bd x.1)).conv (ao.oU _) (by
  rintro v H⟨_,⟨rfl,rfl⟩,rfl⟩
  exact⟨_,⟨_,(x.1.cj.2,x.2),rfl,rfl,⟨⟨rfl,rfl⟩,rfl⟩,fun _=>hq.next (ir _)⟩,ao.o5 _⟩)
def Jr(bd jb xj xf xw xb:Nat)(name fresh:ByteArray)(wa ba:Option Addr)(wc bl bc:Nat)(whole:List UInt8)(br:Bool)(i:Nat)(x:PS)(hq:PQ i x) :
  aq Tryz.prog 233 [ptr xb,ptr xj] [PI bd jb xj xf xw xb name fresh wa ba wc bl bc whole br x] (fun r H=>∃(e:Nat) (x':PS),r = .int .i64 (e:Int)∧H=[PI bd jb xj xf xw xb name fresh wa ba wc bl bc whole br x']∧U2 bl x e x'∧(e=0→PQ (i+1) x')) :=
 (Jq bd jb xj xf xw xb name fresh wa ba wc bl bc whole br x.1 x.2.1 x.2.2.1 x.2.2.2).conv (ao.oU _) (by
  rintro v H⟨rfl,rfl⟩
  exact⟨_,⟨0,(x.1,1,(bl:Int),(bl:Int)),rfl,rfl,⟨rfl,rfl⟩,fun _=>⟨by have:=hq.1;simp only;omega,by have:=hq.2;simp only;omega⟩⟩,ao.o5 _⟩)
def jr(jb bd:Nat)(name:ByteArray)(n s c:Int)(br:Bool):HP:=ag jb (cl [ptr bd,.string name,.int .i64 n,.int .i64 s,.int .i64 c,.bool br] 239)
def xM{ls:List (List UInt8)}{i:Nat}{x:List UInt8}(h:ls[i]?=some x):(ls.take (i+1)).flatMap dH=(ls.take i).flatMap dH++dH x:=by
 rw[List.take_add_one,h];simp
def Fu(ls:List (List UInt8))(i:Nat):((ls.take i).flatMap dH).length≤(ls.flatMap dH).length:=by
 conv=>rhs;rw[← List.take_append_drop i ls,List.flatMap_append,List.length_append]
 omega
theorem EY(jb bd:Nat)(name:ByteArray)(n s c:Int)(br:Bool)(A:Ab)(V:HP)(lv:Value)(ls:List (List UInt8))(hv:su V lv ls)(hl:(ls.flatMap dH).length≤500000000)(VJ:ls.length≤1000000000)(Ff:name.size≤1000000000)(dD:A.aR.length≤900000000)(Ip:A.writes.length≤900000000) :
    aq Tryz.prog 125 [ptr jb,lv] [aB bd A,jr jb bd name n s c br,V]
      (fun r H=>∃(e:Nat) (y:PS),r = .int .i64 (e:Int)∧H=[aB bd y.1,jr jb bd name y.2.1 y.2.2.1 y.2.2.2 br,V]∧Eo name ls (A,n,s,c) e y):=by
  obtain⟨cs,dt,mF,⟨a,cc,rfl,hc⟩,pn⟩:=hv
  unfold jr
  refine aq.aj Tryz.func125 Tryz.ntmps125 fun G F R hE=>?_
  refine go ?_
  refine bp zr zr bh ?_
  intro xj
  refine go ?_
  refine vo zr zr zr (by show name.size+4≤_;omega) ?_
  refine go ?_
  refine aD 17 (.string (bO name)) zr zr ?_
  generalize Fk:bO name=fresh
  refine az zr zr zr bh ?_
  intro xf
  refine go ?_
  refine az zr zr zr bh ?_
  intro xb
  refine go ?_
  refine ak (bj 5 1 none _) ?_
  refine bn (fun y:Value × Nat=>y.2≤ls.length) (fun y=>ls.length-y.2)
    (fun y=>[(0,ptr jb),(2,ptr xj),(5,ptr xf),(6,ptr xb),(18,.slice a ls.length cc),(19,.int .i64 (ls.length:Int)),(20,.int .i64 (y.2:Int))])
    (fun y=>ag xb (cl [y.1] 38)::aI 5 1 y.1 ((ls.take y.2).flatMap dH).length (bV ((ls.take y.2).flatMap dH))::ag xf (cl [.string fresh] 9)::ag xj (cl [ptr jb] 125)::aB bd A::ag jb (cl [ptr bd,.string name,.int .i64 n,.int .i64 s,.int .i64 c,.bool br] 239)::V::F) (.slice none 0 0,0) (Nat.zero_le _) rfl bQ ah ?_
  rintro⟨v,i⟩ hi ih
  simp only at hi
  refine go ?_
  refine au zr zr ?_ ?_
  · intro cq
    simp only at cq
    have ko:i<ls.length:=by omega
    obtain⟨x,hx⟩:∃x,ls[i]?=some x:=⟨ls[i],List.getElem?_eq_getElem ko⟩
    obtain⟨cv,q4,hb⟩:=pn i x hx
    obtain⟨b0,o0,c0,vL⟩:=dt.some (by intro h;rw[h]at q4;simp at q4)
    simp only[Value.slice.injEq]at vL
    obtain⟨rfl,-,rfl⟩:=vL
    refine go ?_
    refine bC i zr zr zr zr zr zr zr zr ko ?_
    obtain⟨ax,cx,rfl,hcx⟩:=hb.2
    have sC:=xM hx
    have dW:((ls.take (i+1)).flatMap dH).length=((ls.take i).flatMap dH).length+(dH x).length:=by rw[sC,List.length_append]
    have hle:=Fu ls (i+1)
    have Dz:x.length≤(dH x).length:=by simp[dH]
    refine aN 6 i zr zr zr dt rfl q4 zr zr ?_
    refine aL 1 rfl ?_
    intro av cv vG
    simp only at vG
    subst vG
    refine go ?_
    refine aJ (fun w=>Sat G w ([ag xb (cl [.slice av ((ls.take i).flatMap dH).length cv] 38)])) (.st 0 (.st 1 (.act 2 (.act 3 (.act 4 .nil))))) rfl ae ae ae cY ?_
    refine go ?_
    refine dx (sk V _ x hb ai) ?_
    rintro r _ rfl
    refine aL 0 rfl ?_
    rintro ra rc rfl
    refine dT 0 rfl ?_
    intro yX
    refine go ?_
    refine aO (mm:=(dH x).length) (news:=bV (dH x)) 3 0 zr zr zr zr zr zr zr zr zr zr zr zr yX (by show _=_*1;rw[bJ];omega) (dm _) (by simp only;omega) (by show(_+_)*1≤_;simp only;omega) (fun _=>rfl) (fun _ w hw=>by exact hw.cn ah) ?_
    intro v1
    simp only
    rw[show bV ((ls.take i).flatMap dH)++bV (dH x)=bV ((ls.take (i+1)).flatMap dH)from by rw[sC];simp[bV],← dW]
    refine aL 3 rfl ?_
    rintro va vc rfl
    refine go ?_
    refine aK ih (.slice va ((ls.take (i+1)).flatMap dH).length vc,i+1) rfl (by simp only;omega) (by simp only;omega) bQ ah
  intro ek
  simp only at ek
  have dq:i=ls.length:=by omega
  subst dq
  rw[List.take_length]
  refine cL 1 rfl ?_
  intro av cv vG
  simp only at vG
  subst vG
  obtain⟨B,hB⟩:∃B,B=ls.flatMap dH:=⟨_,rfl⟩
  rw[← hB]at hl ⊢
  have hhl:(du 1 B.length).length=16:=qZ _ _
  have lg:(cg ls)=List.replicate 16 0++du 1 B.length++B:=by rw[hB];rfl
  obtain⟨W,hW⟩:∃W,W=cg ls:=⟨_,rfl⟩
  rw[← hW]at lg
  have DP:W.length=32+B.length:=by rw[lg];simp only[List.length_append,List.length_replicate,hhl]
  have abD:∀(m:Nat) (ra:Option Addr) (rc row:Nat),fb (aI 5 1 (.slice ra (du 1 B.length).length rc) (du 1 B.length).length (bV (du 1 B.length))) (.slice ra (du 1 B.length).length rc) (du 1 B.length) →
      fb (aI 5 1 (.slice av B.length cv) B.length (bV B)) (.slice av B.length cv) B→aq Tryz.prog 224 [.slice (some ⟨row,0,none⟩) 3 3]
      [Sep [ag row (cl [.slice (some ⟨m,0,none⟩) 16 16,.slice ra (du 1 B.length).length rc,.slice av B.length cv] 38),ag m (cl (bV (List.replicate 16 0)) 5),aI 5 1 (.slice ra (du 1 B.length).length rc) (du 1 B.length).length (bV (du 1 B.length)),aI 5 1 (.slice av B.length cv) B.length (bV B)]]
      (fun r H=>H=[aI 5 1 r W.length (bV W),Sep [ag row (cl [.slice (some ⟨m,0,none⟩) 16 16,.slice ra (du 1 B.length).length rc,.slice av B.length cv] 38),ag m (cl (bV (List.replicate 16 0)) 5),aI 5 1 (.slice ra (du 1 B.length).length rc) (du 1 B.length).length (bV (du 1 B.length)),aI 5 1 (.slice av B.length cv) B.length (bV B)]]):=by
    intro m ra rc row oR mN
    have qD:[List.replicate 16 0,du 1 B.length,B].flatten=W:=by rw[lg];simp only[List.flatten_cons,List.flatten_nil,List.append_nil,List.append_assoc]
    have:=EC (Sep [ag row (cl [.slice (some ⟨m,0,none⟩) 16 16,.slice ra (du 1 B.length).length rc,.slice av B.length cv] 38),ag m (cl (bV (List.replicate 16 0)) 5),aI 5 1 (.slice ra (du 1 B.length).length rc) (du 1 B.length).length (bV (du 1 B.length)),aI 5 1 (.slice av B.length cv) B.length (bV B)]) (.slice (some ⟨row,0,none⟩) 3 3) [List.replicate 16 0,du 1 B.length,B]
      ⟨[.slice (some ⟨m,0,none⟩) 16 16,.slice ra (du 1 B.length).length rc,.slice av B.length cv],(Vw.ag rfl).mono (bz (i:=0) rfl),rfl,⟨_,_,rfl,Nat.le_refl 3⟩,fun i x hx=>by
        match i,hx with
        | 0,hx=>cases hx;exact⟨_,rfl,⟨(Vw.ag (b:=m) (l:=bV (List.replicate 16 0)) (e:=5) rfl).mono (bz (i:=1) rfl),_,_,rfl,by decide⟩⟩
        | 1,hx=>cases hx;exact⟨_,rfl,oR.mono (bz (i:=2) rfl)⟩
        | 2,hx=>cases hx;exact⟨_,rfl,mN.mono (bz (i:=3) rfl)⟩
        | k+3,hx=>simp at hx⟩ (by rw[qD,DP];omega) (by show 3≤_;omega)
    rw[qD]at this
    exact this
  refine vj (bs:=B) 1 rfl ?_
  intro mN
  refine gT rfl ?_
  refine yk 1 (fun y:Option Addr × Nat × Nat=>True) (fun y=>[(0,ptr jb),(2,ptr xj),(5,ptr xf),(6,ptr xb),(9,ptr y.2.2)]) (fun y=>ag y.2.2 (cl [.slice y.1 W.length y.2.1] 38)::aI 5 1 (.slice y.1 W.length y.2.1) W.length (bV W)::ag xb (cl [.slice av B.length cv] 38)::ag xf (cl [.string fresh] 9)::ag xj (cl [ptr jb] 125)::aB bd A::ag jb (cl [ptr bd,.string name,.int .i64 n,.int .i64 s,.int .i64 c,.bool br] 239)::V::F) rfl ?_ ?_
  rotate_left
  · intro tail
    refine aJ (fun w=>Sat G w ([ag xb (cl [.slice av B.length cv] 38)])) (.st 1 (.st 2 (.st 4 (.fork (.fork (.act 0 (.fork (.act 3 (.fork (.act 5 (.fork (.act 6 (.act 7 (.act 8 .nil))) (.act 7 (.act 6 (.act 8 .nil))))) (.act 7 (.act 5 (.act 6 (.act 8 .nil)))))) (.act 7 (.act 3 (.act 5 (.act 6 (.act 8 .nil))))))) (.act 3 (.fork (.act 0 (.fork (.act 5 (.fork (.act 6 (.act 7 (.act 8 .nil))) (.act 7 (.act 6 (.act 8 .nil))))) (.act 7 (.act 5 (.act 6 (.act 8 .nil)))))) (.act 7 (.act 0 (.act 5 (.act 6 (.act 8 .nil)))))))) (.act 7 (.fork (.act 0 (.act 3 (.act 5 (.act 6 (.act 8 .nil))))) (.act 3 (.act 0 (.act 5 (.act 6 (.act 8 .nil))))))))))) rfl ae ae ae cY ?_
    repeat'(first|refine od ?_ ?_|(refine gD (p:=16) (q:=16) zr zr zr zr zr zr zr zr zr ai ai (by show 1*16≤_;omega) (fun _ w hw=>by exact hw.cn ah) ?_;intro m)|(((refine dx (Bg 1 B.length ai ai) ?_));rintro _ _ rfl;((refine aL 0 rfl ?_));rintro ra rc rfl;refine gU (bs:=du 1 B.length) 0 rfl ?_;intro oR)|(refine al zr zr zr zr zr zr zr zr zr (fun _ w hw=>by exact hw.cn ah) ?_;intro row)|(refine az zr zr zr (fun _ w hw=>by exact hw.cn ah) ?_;intro x9)|(refine cP zr zr zr zr (abD m ra rc row oR mN) (ao.trans ah (ao.cd [_,_,_,_] _)) ?_ tqg;rintro _ _ rfl;((refine aL 0 rfl ?_));rintro wa wc rfl)|(refine aY ?_;(first|refine bG 0 eW zr zr zr zr zr zr zr zr zr ?_|refine bG 2 eW zr zr zr zr zr zr zr zr zr ?_);refine B4 ?_;refine ml tail (wa,wc,x9) rfl trivial bQ ah)|(refine fq ?_)|fail)
  rintro⟨wa,wc,x9⟩ -
  simp only
  refine go ?_
  refine aJ (fun w=>Sat G w ([ag jb (cl [ptr bd,.string name,.int .i64 n,.int .i64 s,.int .i64 c,.bool br] 239),ag xj (cl [ptr jb] 125),ag xf (cl [.string fresh] 9)])) (cM 0 5 (.act 5 (cM 6 5 .nil))) rfl ae ae ae cY ?_
  refine go ?_
  refine bP (qj bd A fresh) ?_
  refine go ?_
  refine yk 1 (fun y:Value × List Value=>y.2=if(A.size fresh).2=0 then [.func (.func 225) #[] #[ptr xj,ptr xf] ]else []) (fun y=>[(0,ptr jb),(2,ptr xj),(5,ptr xf),(6,ptr xb),(9,ptr x9),(10,y.1)]) (fun y=>ag xj (cl [ptr jb] 125)::ag jb (cl [ptr bd,.string name,.int .i64 n,.int .i64 s,.int .i64 c,.bool br] 239)::aI 76 1 y.1 y.2.length y.2::ag x9 (cl [.slice wa W.length wc] 38)::aI 5 1 (.slice wa W.length wc) W.length (bV W)::ag xb (cl [.slice av B.length cv] 38)::ag xf (cl [.string fresh] 9)::aB bd A::V::F) rfl ?_ ?_
  rotate_left
  · intro tail
    refine ak (bj 76 1 none _) ?_
    refine au zr zr ?_ ?_
    · intro he
      refine go ?_
      refine al zr zr zr zr zr zr zr zr zr bh ?_
      intro row
      refine go ?_
      refine aO (mm:=1) (news:=[.func (.func 225) #[] #[ptr xj,ptr xf]]) 1 0 zr zr zr zr zr zr zr zr zr zr zr zr (Vw.ag rfl) rfl (by simp[Value.oneCell']) ai (by show(0+1)*8≤_;omega) (fun _=>rfl) bh ?_
      intro v1
      refine aL 1 rfl ?_
      rintro va vc rfl
      refine qE ?_
      refine ml tail (.slice va (0+1) vc,[.func (.func 225) #[] #[ptr xj,ptr xf] ]) rfl (by rw[if_pos ai]) bQ ah
    · intro he
      refine ml tail (.slice none 0 0,[]) rfl (by rw[if_neg ai]) bQ ah
  rintro⟨sv,fv⟩ M3
  simp only at M3 ⊢
  refine cL 2 rfl ?_
  rintro va vc rfl
  refine go ?_
  have qD:fv.length≤1:=by rw[M3];split <;> simp
  refine al (cs:=[.func (.func 227) #[] #[ptr xj,ptr xf],.func (.func 228) #[] #[ptr xj,ptr xf,ptr x9],.func (.func 229) #[] #[ptr xj,ptr xf],.func (.func 231) #[] #[ptr xj,ptr xf],.func (.func 58) #[ptr bd] #[],.func (.func 233) #[] #[ptr xb,ptr xj] ]) zr zr zr zr zr zr zr zr zr bh ?_
  intro row
  refine go ?_
  refine aO (mm:=6) (news:=[.func (.func 227) #[] #[ptr xj,ptr xf],.func (.func 228) #[] #[ptr xj,ptr xf,ptr x9],.func (.func 229) #[] #[ptr xj,ptr xf],.func (.func 231) #[] #[ptr xj,ptr xf],.func (.func 58) #[ptr bd] #[],.func (.func 233) #[] #[ptr xb,ptr xj] ]) 3 0 zr zr zr zr zr zr zr zr zr zr zr zr (Vw.ag rfl) rfl (by simp[Value.oneCell']) ai (by show(_+6)*8≤_;omega) (fun _=>rfl) bh ?_
  intro v1
  refine dT 3 rfl ?_
  intro lB
  obtain⟨fs,Bb⟩:∃fs,fs=fv++[.func (.func 227) #[] #[ptr xj,ptr xf],.func (.func 228) #[] #[ptr xj,ptr xf,ptr x9],.func (.func 229) #[] #[ptr xj,ptr xf],.func (.func 231) #[] #[ptr xj,ptr xf],.func (.func 58) #[ptr bd] #[],.func (.func 233) #[] #[ptr xb,ptr xj] ]:=⟨_,rfl⟩
  rw[← Bb]at lB ⊢
  have abw:fs.length=fv.length+6:=by rw[Bb,List.length_append];rfl
  rw[← abw]at lB ⊢
  have Cn:(fM name ls A).length=fs.length:=by
    grind [fM]
  have hWb:W.length≤1000000000:=by omega
  have Kc:∀(i:Nat) (fv:Value) (s:PS→Nat→PS→Prop),fs[i]?=some fv→(fM name ls A)[i]?=some s→∃g fi cap,fv = .func (.func g) fi cap∧∀x,PQ i x→aq Tryz.prog g (fi.toList++cap.toList) [PI bd jb xj xf x9 xb name fresh wa av wc B.length cv W br x] (fun r H=>∃(e:Nat) (x':PS),r = .int .i64 (e:Int)∧H=[PI bd jb xj xf x9 xb name fresh wa av wc B.length cv W br x']∧s x e x'∧(e=0→PQ (i+1) x')):=by
    intro i f1 s1 h1 h2
    have hi:i<fs.length:=(List.getElem?_eq_some_iff.1 h1).1
    have uD:i≤10:=by omega
    unfold fM at h2
    rw[Fk,← hW,← hB]at h2
    rw[Bb,M3]at h1
    by_cases hz:(A.size fresh).2=0
    · rw[if_pos hz]at h1 h2
      match i,h1,h2 with
      | 0,h1,h2=>cases h1;cases h2;exact⟨_,_,_,rfl,fun x hq=>U7 _ _ _ _ _ _ _ _ _ _ _ _ _ _ _ _ uD x hq⟩
      | 1,h1,h2=>cases h1;cases h2;exact⟨_,_,_,rfl,fun x hq=>Jz _ _ _ _ _ _ _ _ _ _ _ _ _ _ _ _ uD x hq⟩
      | 2,h1,h2=>cases h1;cases h2;exact⟨_,_,_,rfl,fun x hq=>Jx _ _ _ _ _ _ _ _ _ _ _ _ _ _ _ _ uD hWb x hq⟩
      | 3,h1,h2=>cases h1;cases h2;exact⟨_,_,_,rfl,fun x hq=>Jv _ _ _ _ _ _ _ _ _ _ _ _ _ _ _ _ uD x hq⟩
      | 4,h1,h2=>cases h1;cases h2;exact⟨_,_,_,rfl,fun x hq=>Jt _ _ _ _ _ _ _ _ _ _ _ _ _ _ _ _ uD x hq⟩
      | 5,h1,h2=>cases h1;cases h2;exact⟨_,_,_,rfl,fun x hq=>Jo _ _ _ _ _ _ _ _ _ _ _ _ _ _ _ _ x hq⟩
      | 6,h1,h2=>cases h1;cases h2;exact⟨_,_,_,rfl,fun x hq=>Jr _ _ _ _ _ _ _ _ _ _ _ _ _ _ _ _ x hq⟩
      | k+7,h1,h2=>simp at h1
    · rw[if_neg hz]at h1 h2
      match i,h1,h2 with
      | 0,h1,h2=>cases h1;cases h2;exact⟨_,_,_,rfl,fun x hq=>Jz _ _ _ _ _ _ _ _ _ _ _ _ _ _ _ _ uD x hq⟩
      | 1,h1,h2=>cases h1;cases h2;exact⟨_,_,_,rfl,fun x hq=>Jx _ _ _ _ _ _ _ _ _ _ _ _ _ _ _ _ uD hWb x hq⟩
      | 2,h1,h2=>cases h1;cases h2;exact⟨_,_,_,rfl,fun x hq=>Jv _ _ _ _ _ _ _ _ _ _ _ _ _ _ _ _ uD x hq⟩
      | 3,h1,h2=>cases h1;cases h2;exact⟨_,_,_,rfl,fun x hq=>Jt _ _ _ _ _ _ _ _ _ _ _ _ _ _ _ _ uD x hq⟩
      | 4,h1,h2=>cases h1;cases h2;exact⟨_,_,_,rfl,fun x hq=>Jo _ _ _ _ _ _ _ _ _ _ _ _ _ _ _ _ x hq⟩
      | 5,h1,h2=>cases h1;cases h2;exact⟨_,_,_,rfl,fun x hq=>Jr _ _ _ _ _ _ _ _ _ _ _ _ _ _ _ _ x hq⟩
      | k+6,h1,h2=>simp at h1
  have dX:=Ny (PI bd jb xj xf x9 xb name fresh wa av wc B.length cv W br) (aI 76 1 v1 fs.length fs) v1 fs lB ai (fM name ls A) Cn PQ Kc (A,n,s,c) ⟨by simp only;omega,by simp only;omega⟩
  refine aL 3 rfl ?_
  rintro Ih Ig rfl
  refine go ?_
  refine cP zr zr zr zr dX (ao.trans ah (ao.cons _ (ao.cd [aB bd A,ag jb (cl [ptr bd,.string name,.int .i64 n,.int .i64 s,.int .i64 c,.bool br] 239),ag xj (cl [ptr jb] 125),ag xf (cl [.string fresh] 9),ag x9 (cl [.slice wa W.length wc] 38),ag xb (cl [.slice av B.length cv] 38),aI 5 1 (.slice wa W.length wc) W.length (bV W)] _))) ?_ iE
  rintro _ _⟨e,y,rfl,rfl,hr⟩
  refine aS (ao.trans (ao.pick [1] rfl) (ao.cX [aB bd y.1,ag jb (cl [ptr bd,.string name,.int .i64 y.2.1,.int .i64 y.2.2.1,.int .i64 y.2.2.2,.bool br] 239),ag xj (cl [ptr jb] 125),ag xf (cl [.string fresh] 9),ag x9 (cl [.slice wa W.length wc] 38),ag xb (cl [.slice av B.length cv] 38),aI 5 1 (.slice wa W.length wc) W.length (bV W)] _)) (go ?_)
  refine ad hE Tryz.func125 zr zr ⟨e,y,rfl,rfl,hr⟩
def My(name:ByteArray)(f:Nat):((Ab.new 1).create (isName name) name f).1=if isName name then 0 else 1:=by
 cases h:isName name <;> simp[Ab.create,Ab.meet,Ab.new,Ab.look,Ab.cQ]
def E5(name:ByteArray):aq Tryz.prog 120 [.string name] [] (fun r H=>r = .bool (isName name)∧H=[]):=by
 refine aq.aj Tryz.func120 Tryz.ntmps120 fun G F R hE=>?_
 refine go ?_
 refine aF (Er 1 ai ai) ?_
 rintro _ _⟨bd,rfl,rfl⟩
 refine go ?_
 refine aF (rD bd (Ab.new 1) name (by simp[Ab.new])) ?_
 rintro _ _⟨f,hf,rfl,rfl⟩
 rw[My]
 refine go ?_
 ((refine aV 2 ((.bool (isName name))) rfl ((congrArg Value.bool (by cases isName name <;> rfl))) ?_))
 refine ak (ao.drop _ _) ?_
 refine ad hE Tryz.func120 zr zr ⟨rfl,rfl⟩
def D9(jb bd:Nat)(name:ByteArray)(n s c:Int)(br:Bool)(e:Nat):aq Tryz.prog 146 [ptr jb,.int .i64 (e:Int)] [jr jb bd name n s c br] (fun r H=>r = .int .i64 (e:Int)∧H=[jr jb bd name n s c (br || decide (e≠0))]):=by
 unfold jr
 refine aq.aj Tryz.func146 Tryz.ntmps146 fun G F R hE=>?_
 cases br
 ·refine go ?_
  have hd:decide ((e:Int)≠0)=(false || decide (e≠0)):=by by_cases h:e=0 <;> simp[h]
  simp only[hd]
  refine ad hE Tryz.func146 zr zr ⟨rfl,rfl⟩
 ·refine go ?_
  refine ad hE Tryz.func146 zr zr ⟨rfl,rfl⟩
structure JN where
 n:Int
 s:Int
 c:Int
 br:Bool
def LP(jb bd:Nat)(name:ByteArray)(x:JN):HP:=jr jb bd name x.n x.s x.c x.br
theorem Bq(b:List UInt8)(h:b.length≤1000000000000):(dH b).length≤b.length+10:=by
 grind [na,dH]
end Go.Proofs.YtnkfkabokmcgoaaGreatDoor
namespace Go.Proofs.YtnkfkabokmcgoaaGreatDoor
open Go Go.SL
theorem nj:∀(f:Nat) (bs:List UInt8),((eQ f bs).flatMap dH).length≤2*bs.length∧(eQ f bs).length≤bs.length∧∀x∈eQ f bs,x.length≤4096
 | 0,bs=>by simp[eQ]
 | f+1,bs=>by
  unfold eQ
  split
  ·simp
  ·rename_i k n hl
   have hp:=ov hl
   split
   ·rename_i hb
    obtain⟨h1,h2,h3⟩:=nj f (bs.drop (k+n))
    have hx:((bs.drop k).take n).length=n:=by rw[List.length_take,List.length_drop];omega
    have he:(dH ((bs.drop k).take n)).length≤n+2:=by
     have:=tq 1 n (by have:=hp.2.2.2;omega)
     grind [dH]
    grind
   ·simp
def nk(bs:List UInt8):((bT bs).flatMap dH).length≤2*bs.length∧(bT bs).length≤bs.length∧∀x∈bT bs,x.length≤4096:=nj _ bs
def qm(M:eV)(cs:List Value)(ls:List (List UInt8)):Prop:=cs.length=ls.length∧∀(j:Nat) (y:List UInt8),ls[j]?=some y→∃cv,cs[j]?=some cv∧zY M 1 cv y.length (bV y)
def LI(lb:Nat)(ls:List (List UInt8)):HP:=fun h=>∃x:Value × List Value × eV,qm x.2.2 x.2.1 ls∧Sep [ag lb (cl [x.1] 126),aI 38 1 x.1 ls.length x.2.1,a6 5 x.2.2] h
def u9(e:TypeId)(H:List HP):ao H (a6 e []::H):=ao.jw H
def Li(lb:Nat)(a:Option Addr)(H:List HP):ao (ag lb (cl [.slice a 0 0] 126)::H) (LI lb []::H):=by
 have h1:ao (ag lb (cl [.slice a 0 0] 126)::H) ([ag lb (cl [.slice a 0 0] 126),aI 38 1 (.slice a 0 0) 0 [],a6 5 [] ]++H) :=
  ao.cons _ ((bj 38 1 a H).trans (ao.cons _ (u9 5 H)))
 exact h1.trans (ao.fold fun h hs=>⟨h,sub.refl h,(.slice a 0 0,[],[]),⟨rfl,fun j y hj=>by simp at hj⟩,hs⟩)
theorem NH(lb:Nat)(ls:List (List UInt8))(x:List UInt8)(v rv:Value)(cs:List Value)(M M':eV)(hR:qm M cs ls)(hr:zY M' 1 rv x.length (bV x))(hs:∀y∈M,y∈M')(H:List HP) :
  ao (ag lb (cl [v] 126)::aI 38 1 v (ls.length+1) (cs++[rv])::a6 5 M'::H) (LI lb (ls++[x])::H):=by
 refine ao.fold (B:=[ag lb (cl [v] 126),aI 38 1 v (ls.length+1) (cs++[rv]),a6 5 M']) fun h hp=>⟨h,sub.refl h,(v,cs++[rv],M'),⟨by simp[hR.1],fun j y hj=>?_⟩,by simp only[List.length_append,List.length_singleton];exact hp⟩
 simp only
 rw[List.getElem?_append]at hj ⊢
 rw[hR.1]
 split at hj
 ·rename_i cq
  obtain⟨cv,h1,h2⟩:=hR.2 j y hj
  rw[if_pos cq]
  exact⟨cv,h1,h2.mono hs⟩
 grind
def FK(lb:Nat)(ls:List (List UInt8)):∀h,LI lb ls h→∃x:Value × List Value × eV,qm x.2.2 x.2.1 ls∧Sep [ag lb (cl [x.1] 126),aI 38 1 x.1 ls.length x.2.1,a6 5 x.2.2] h:=fun h hs=>hs
def rS(v:Value)(ls:List (List UInt8)):HP:=fun h=>∃x:List Value × eV,qm x.2 x.1 ls∧Sep [aI 38 1 v ls.length x.1,a6 5 x.2] h
def J0{v:Value}{ls:List (List UInt8)}{cs:List Value}{M:eV}(hR:qm M cs ls)(H:List HP):ao (aI 38 1 v ls.length cs::a6 5 M::H) (rS v ls::H) :=
 ao.fold (B:=[aI 38 1 v ls.length cs,a6 5 M]) fun h hp=>⟨h,sub.refl h,(cs,M),hR,hp⟩
def Dw(v:Value)(ls:List (List UInt8)):∀h,rS v ls h→∃x:List Value × eV,qm x.2 x.1 ls∧Sep [aI 38 1 v ls.length x.1,a6 5 x.2] h:=fun h hs=>hs
theorem qm.lat{v:Value}{ls:List (List UInt8)}{cs:List Value}{M:eV}(hR:qm M cs ls)(h0:∃h,aI 38 1 v ls.length cs h):su (Sep [aI 38 1 v ls.length cs,a6 5 M]) v ls:=by
 have hv:=Vw.lZ 38 1 v ls.length cs h0
 refine⟨cs,hv.mono (bz (i:=0) rfl),hR.1,?_,fun i x hx=>?_⟩
 ·obtain⟨h,hl,⟨a,rfl,hn,_⟩|⟨b,o,cap,pre,bL,rfl,hp,hn,hc,_⟩⟩:=h0
  ·grind
  grind
 ·obtain⟨cv,h1,h2⟩:=hR.2 i x hx
  obtain⟨a,c,p5,hc⟩:=h2.shape
  exact⟨cv,h1,(h2.view 5).mono (bz (i:=1) rfl),a,c,p5,hc⟩
section
variable{P:Program}{f:FuncId}{n:Nat}{R:Ending→World→Prop}{G:bY}{k:List Item}{L:dS}{H:List HP}
def Ox{v:Value}{ls:List (List UInt8)}{cs:List Value}{M:eV}(i:Nat)(hR:qm M cs ls)(hi:bS H i=some (aI 38 1 v ls.length cs))(h:su (Sep [aI 38 1 v ls.length cs,a6 5 M]) v ls→K P f n R G k L H):K P f n R G k L H :=
 nY fun⟨w,hw⟩=>by
  obtain⟨h1,_,hA⟩:=hw.jG hi
  exact h (hR.lat ⟨h1,hA⟩)
def aap{bd:Nat}{A:Ab}(i:Nat)(hi:bS H i=some (aB bd A))(h:(∃D,Rel D A)→K P f n R G k L H):K P f n R G k L H :=
 nY fun⟨w,hw⟩=>by
  obtain⟨h1,_,D,hR,_⟩:=hw.jG hi
  exact h ⟨D,hR⟩
end
theorem Az(A:Ab)(hR:∃D,Rel D A)(name:ByteArray)(at_ n:Int):(A.read name at_ n).1.length≤1048576:=by
 obtain⟨D,hR⟩:=hR
 unfold Ab.read
 split
 ·simp
 split
 ·simp
 ·rename_i f hf
  split
  ·simp
  ·have h1:(A.now f).length≤1048576:=by
    unfold Ab.now Ab.file
    cases h:A.fs.find? (fun x=>decide (x.1=f))with
    | none=>simp
    | some x =>
     have:=hR.fC x (List.mem_of_find?_eq_some h)
     grind
   grind
end Go.Proofs.YtnkfkabokmcgoaaGreatDoor
namespace Go.Proofs.YtnkfkabokmcgoaaGreatDoor
open Go Go.SL
attribute [local irreducible] J K aq Ends ag aI aC bF aW aP a6 aZ bN aB LI rS
def je(A:Ab)(name:ByteArray):List (List UInt8):=bT (eC (A.read name 0 (A.size name).1).1)
def nV(A:Ab)(name:ByteArray)(e:Nat)(A':Ab)(x:JN):Prop :=
 if ¬(isName name=true∧isName (bO name)=true)then e=1∧A'=A else if A.off then e=7∧A'=A
 else ∃y:PS,Eo name (je A name) (A,0,0,0) e y∧A'=y.1∧x=⟨y.2.1,y.2.2.1,y.2.2.2,false⟩
def Lc(bd:Nat)(name:ByteArray)(A:Ab)(Ff:name.size≤1000000000)(dD:A.aR.length≤900000000)(Ip:A.writes.length≤900000000) :
  aq Tryz.prog 59 [ptr bd,.string name] [aB bd A]
   (fun r H=>∃(e:Nat) (A':Ab) (x:JN),nV A name e A' x∧((e≠0∧r = .tuple #[.pointer none,.slice none 0 0,.int .i64 (e:Int)]∧H=[aB bd A']) ∨
    (e=0∧∃jb lv,r = .tuple #[ptr jb,lv,.int .i64 0]∧H=[aB bd A',LP jb bd name x,rS lv (je A name)]))):=by
 refine aq.aj Tryz.func59 Tryz.ntmps59 fun G F R hE=>?_
 refine aap 0 rfl ?_
 intro abL
 refine go ?_
 refine aw (E5 name) ?_
 cases h1:isName name with
 | false =>
  refine go ?_
  ((refine ad hE Tryz.func59 zr zr ⟨1,A,⟨0,0,0,false⟩,(by unfold nV;rw[if_pos (by simp[h1])];exact⟨rfl,rfl⟩),.inl ⟨ai,rfl,rfl⟩⟩))
 | true =>
 refine go ?_
 refine vo zr zr zr (by show name.size+4≤_;omega) ?_
 refine aD 25 (.string (bO name)) zr zr ?_
 ((refine go ?_;(refine aF (E5 (bO name)) ?_)))
 rintro _ _⟨rfl,rfl⟩
 cases h2:isName (bO name)with
 | false =>
  refine go ?_
  ((refine ad hE Tryz.func59 zr zr ⟨1,A,⟨0,0,0,false⟩,(by unfold nV;rw[if_pos (by simp[h2])];exact⟨rfl,rfl⟩),.inl ⟨ai,rfl,rfl⟩⟩))
 | true =>
 refine go ?_
 refine aw (Ld bd A) ?_
 cases h3:A.off with
 | true =>
  refine go ?_
  ((refine ad hE Tryz.func59 zr zr ⟨7,A,⟨0,0,0,false⟩,(by unfold nV;rw[if_neg (by simp[h1,h2]),if_pos h3];exact⟨rfl,rfl⟩),.inl ⟨ai,rfl,rfl⟩⟩))
 | false =>
 refine go ?_
 refine aw (qj bd A name) ?_
 refine go ?_
 refine aF (zz bd A name 0 (A.size name).1) ?_
 rintro _ _⟨rb,rfl,rfl⟩
 have Iu:=Az A abL name 0 (A.size name).1
 obtain⟨B,hB⟩:∃B,B=(A.read name 0 (A.size name).1).1:=⟨_,rfl⟩
 rw[← hB]at Iu ⊢
 refine go ?_
 refine aL 1 rfl ?_
 rintro ra rc rfl
 refine gU (bs:=B) 1 rfl ?_
 intro ZN
 refine az zr zr zr bh ?_
 intro lb
 refine go ?_
 refine aF (Hm _ _ B ZN ai) ?_
 rintro fv _⟨hbf,rfl⟩
 obtain⟨fa,fc,rfl,hfc⟩:=hbf.2
 refine aF (Av fa (eC B).length fc) ?_
 rintro _ _⟨bx,rfl,rfl⟩
 have qD:(eC B).length≤1048576:=by
  unfold eC
  split
  ·simp
  ·rw[List.length_take,List.length_drop];omega
 refine go ?_
 obtain⟨rs,WN⟩:∃rs,rs=bT (eC B):=⟨_,rfl⟩
 have zX:=nk (eC B)
 rw[← WN]at zX
 refine gT rfl ?_
 refine ak (ao.trans (ao.pick [2] rfl) (Li lb none _)) ?_
 refine qp (Fr:=aB bd A::F) (Pre:=fun _ _=>[ag bx (cl [.slice fa (eC B).length fc] 38),aI 5 1 (.slice ra B.length rc) B.length (bV B),LI lb [] ]) (Post:=?Po) rfl hE.1.1 rfl ?c (fun l r=>ah) ?gR
 case c =>
  intro l r
  refine yG (aI 5 1 (.slice ra B.length rc) B.length (bV B)) l bx _ (eC B) hbf ai _ (fun i=>LI lb ((bT (eC B)).take i)) ?_
  intro i x hx rv
  refine bN.C' zr zr ?_
  intro G2 F2 R2 hY
  have ko:i<(bT (eC B)).length:=(List.getElem?_eq_some_iff.1 hx).1
  have y8:=(nk (eC B)).2.1
  have ki:(bT (eC B)).take (i+1)=(bT (eC B)).take i++[x]:=by rw[List.take_add_one,hx];rfl
  have zT:((bT (eC B)).take i).length≤(eC B).length:=by rw[List.length_take];omega
  simp only[ki]at hY
  generalize (bT (eC B)).take i=ts at zT hY ⊢
  refine go ?_
  refine fm rfl hY ?_
  refine ak (ao.pick [1] rfl) ?_
  refine cI (FK lb ts) ?_
  rintro⟨lv,cs,M⟩ hR
  refine ak (ao.trans (ao.pick [4,2] rfl) (ao.join _ _ _)) ?_
  refine cI (Ar 5 1 x.length rv (bV x) M) ?_
  rintro M'⟨LV,cu⟩
  obtain⟨xa,xc,rfl,hxc⟩:=LV.shape
  refine cL 2 rfl ?_
  intro la lc Zg
  simp only at Zg
  subst Zg
  refine go ?_
  refine al zr zr zr zr zr zr zr zr zr bh ?_
  intro row
  refine go ?_
  refine aO (mm:=1) (news:=[.slice xa x.length xc]) 3 0 zr zr zr zr zr zr zr zr zr zr zr zr (Vw.ag rfl) rfl (by simp[Value.oneCell']) ai (by show(_+1)*24≤_;omega) (fun _=>rfl) bh ?_
  intro v1
  refine aL 3 rfl ?_
  rintro va vc rfl
  refine go ?_
  refine ak (ao.trans ah (NH lb ts x _ (.slice xa x.length xc) cs M M' hR LV cu _)) ?_
  refine eE hY rfl ah ⟨rfl,rfl⟩
 intro l r v H dE
 obtain⟨v',rfl⟩:=dE
 refine⟨_,_,_,rfl,by decide,?_⟩
 rw[hE.1.2,List.take_length,← WN]
 refine ak (ao.pick [2] rfl) ?_
 refine cI (FK lb rs) ?_
 rintro⟨lv,cs,M⟩ hR
 refine cL 1 rfl ?_
 intro la lc Zg
 simp only at Zg
 subst Zg
 simp only at hR
 refine Ox 1 hR rfl ?_
 intro lE
 refine go ?_
 refine bp zr zr bh ?_
 intro jb
 refine go ?_
 have vZ:=EY jb bd name 0 0 0 false A (Sep [aI 38 1 (.slice la rs.length lc) rs.length cs,a6 5 M]) (.slice la rs.length lc) rs lE ai ai Ff dD Ip
 refine cP zr zr zr zr vZ (ao.trans ah (ao.cons (aB bd A) (ao.cons (jr jb bd name 0 0 0 false) (ao.cd [aI 38 1 (.slice la rs.length lc) rs.length cs,a6 5 M] _)))) ?_ iE
 rintro _ _⟨e,y,rfl,rfl,hpr⟩
 have xG:je A name=rs:=by rw[WN,hB];rfl
 have jZ:nV A name e y.1 ⟨y.2.1,y.2.2.1,y.2.2.2,false⟩:=by
  unfold nV
  rw[if_neg (by simp[h1,h2]),if_neg (by rw[h3];simp),xG]
  exact⟨y,hpr,rfl,rfl⟩
 rw[xG]at hE
 refine go ?_
 refine au zr zr ?_ ?_
 ·intro fy
  have lh:e≠0:=by omega
  refine go ?_
  refine lM hE Tryz.func59 rfl _ rfl ⟨e,_,_,jZ,.inl ⟨lh,rfl,rfl⟩⟩ ah
 ·intro heq
  have G5:e=0:=by omega
  subst G5
  refine go ?_
  refine aJ (fun w=>Sat G w ([ag lb (cl [.slice la rs.length lc] 126)])) (cM 0 5 .nil) rfl ae ae ae cY ?_
  refine go ?_
  refine ak (ao.trans (ao.pick [2] rfl) (ao.cX [aI 38 1 (.slice la rs.length lc) rs.length cs,a6 5 M] _)) ?_
  refine ak (J0 hR _) ?_
  refine lM hE Tryz.func59 rfl _ rfl ⟨0,_,_,jZ,.inr ⟨rfl,jb,_,rfl,rfl⟩⟩ ah
end Go.Proofs.YtnkfkabokmcgoaaGreatDoor
namespace Go.Proofs.YtnkfkabokmcgoaaGreatDoor
open Go Go.SL
instance aaI(n:ByteArray)(K:List ByteArray):Decidable (n∈K):=decidable_of_iff (K.any (fun x=>decide (x=n))=true) (by rw[List.any_eq_true];exact⟨fun⟨x,hx,h⟩=>of_decide_eq_true h ▸ hx,fun h=>⟨n,h,decide_eq_true rfl⟩⟩)
def fF(A:Ab):List ByteArray:=A.names.map (·.1)
def Dn{α:Type}{a b:List α}(ha:a.Nodup)(hb:b.Nodup)(h:∀n,n∈a↔n∈b):a.length=b.length :=
 ((List.perm_ext_iff_of_nodup ha hb).2 h).length_eq
def ni(l:List ByteArray):List (List UInt8):=(l.map fun b=>b.data.toList).mergeSort fun x y=>decide (x≤y)
def pO(l:List ByteArray):(ni l).Pairwise (·≤·) :=
 (List.pairwise_mergeSort (le:=fun x y:List UInt8=>decide (x≤y)) (fun a b c h1 h2=>decide_eq_true (List.le_trans (of_decide_eq_true h1) (of_decide_eq_true h2))) (fun a b=>by simpa using List.le_total a b) _).imp fun h=>of_decide_eq_true h
def kr(l:List ByteArray):(ni l).Perm (l.map fun b=>b.data.toList):=List.mergeSort_perm _ _
def CE{a b:List ByteArray}(h:a.Perm b):ni a=ni b :=
 List.Perm.eq_of_pairwise (fun x y _ _ h1 h2=>List.le_antisymm h1 h2) (pO a) (pO b) ((kr a).trans ((h.map _).trans (kr b).symm))
def qK(l:List ByteArray):(ni l).length=l.length:=by rw[(kr l).length_eq,List.length_map]
def kS:List UInt8:=[115,45]
def kB:List UInt8:=[98,45]
def kN:List UInt8:=[110,45]
def kI:List UInt8:=[105,45]
def jF(A:Ab)(nm:ByteArray):Bool:=(A.look nm).isSome
def fD(A:Ab)(nm:ByteArray):Option (List UInt8):=match A.look nm with
 | none=>none
 | some f=>if A.off then none else some (A.now f)
def gn(A:Ab)(d:Dg):Option (List Bl):=(fD A (dg kI d)).bind uS
def iK(A:Ab)(d:Dg):Bool:=match fD A (dg kB d)with
 | none=>false
 | some b=>decide (fg b=d)
def eo(A:Ab)(d:Dg):Bool:=match gn A d with
 | none=>false
 | some x=>decide (ug x=d) && x.all fun y=>iK A y.d
def IL(A:Ab):Nat:=(A.names.map fun x=>if(gj kB x.1).isSome then(A.now x.2).length else 0).sum
def ed(A:Ab):List ByteArray:=(ni (fF A)).map strOf
def kE(A:Ab):List Dg:=(ed A).filterMap (gj kI)
abbrev IA:=Ab→Nat→Ab→Prop
def ig(nm:ByteArray):IA:=fun A e B=>∃f,f ∉ A.fs.map (·.1)∧(e,B)=A.create (isName nm) nm f
def Ah(nm:ByteArray):IA:=fun A e B=>(e,B)=A.remove (isName nm) nm
def ep:IA:=fun A e B=>(e,B)=A.cj
def lL(kind:List UInt8)(right:Ab→Dg→Bool):List ByteArray→IA
 | [],A,e,B=>e=0∧B=A
 | nm::l,A,e,B=>match gj kind nm with
  | none=>lL kind right l A e B
  | some d=>if right A d then lL kind right l A e B else ∃e1 A1,Ah nm A e1 A1∧((e1≠0∧e=e1∧B=A1)∨(e1=0∧lL kind right l A1 e B))
def di(kind:List UInt8)(right:Ab→Dg→Bool):IA:=fun A=>lL kind right (ed A) A
def nU:IA:=fun A e B=>∃e1 A1,ry [di kB iK,di kN (fun _ _=>false),di kI eo] A e1 A1 ∧
 if e1=0∧A1.names.length<A.names.length then ep A1 e B else e=e1∧B=A1
structure mI where
 A:Ab
 cm:List (Dg × Bl)
 brk:Bool
def zm(l:List (Dg × Bl))(d:Dg):Option Bl:=(l.find? fun x=>decide (x.1=d)).map (·.2)
def oL(s:mI):Int:=IL s.A+(s.cm.map (·.2.size)).sum
def Nt(ss:List IA)(s:mI)(e:Nat)(t:mI):Prop:=∃B,ry ss s.A e B∧t=⟨B,s.cm,s.brk || decide (e≠0)⟩
def fS(x:Bl):ByteArray:=dg kS x.d
def fB(x:Bl):ByteArray:=dg kB x.d
def fX(q:Int)(x:Bl)(s:mI)(e:Nat)(t:mI):Prop :=
 if s.brk then e=10∧t=s else if cp x=false then e=1∧t=s else if(zm s.cm x.d).isSome∨jF s.A (fB x)then e=5∧t=s
 else if q<oL s+x.size then e=11∧t=s
 else if jF s.A (fS x)then e=0∧t=⟨s.A,s.cm++[(x.d,x)],s.brk⟩
 else ∃e1 s1,Nt [ig (fS x),ep] s e1 s1∧((e1≠0∧e=e1∧t=s1)∨(e1=0∧e=0∧t=⟨s1.A,s1.cm++[(x.d,x)],s1.brk⟩))
attribute [local irreducible] J K aq Ends ag aI aC bF aW aP a6 aZ bN Sha.chunks Sha.chunk Sha.rounds Sha.sched fg cD GI fR
def fb.U8{b o n:Nat}{bs:List UInt8}{l:List Value}{e:TypeId}(hn:bs.length=n)(hl:(l.drop o).take n=bV bs):fb (ag b (cl l e)) (.slice (some ⟨b,o,none⟩) n n) bs:=by
 subst hn
 exact⟨Vw.ag (by rw[bJ];exact hl),_,_,rfl,Nat.le_refl _⟩
theorem ur:∀(l:List Bl) (i:Nat) (x:Bl),gP i (l++[x])=gP i l++[(((i+l.length:Nat):Int)+1,dM (cU x))]
 | [],i,x=>by simp[gP]
 | y::l,i,x=>by
  simp only[List.cons_append,gP,ur l (i+1) x,List.length_cons]
  grind
theorem oQ:∀(l:List Bl) (i:Nat),(gP i l).length=l.length
 | [],i=>rfl
 | y::l,i=>by simp only[gP,List.length_cons,oQ l (i+1)]
structure Its where
 l:List It
 Z:HP
theorem AP(A:HP)(v:Value)(l:List Bl)(hv:Vw A v l.length (l.flatMap dY))(hlen:l.length≤1000000) :
    aq Tryz.prog 164 [LR v] [A] (fun r H=>(fj l≠0∧r = .tuple #[.slice none 0 0,.int .i64 (fj l:Int)]∧H=[A]) ∨
      ∃rv,fj l=0∧r = .tuple #[rv,.int .i64 0]∧H=[aI 5 1 rv (uO l).length (bV (uO l)),A]):=by
  have MZ:=yp A v l hv hlen
  obtain⟨a,c,rfl⟩:=hv.shape
  unfold LR at MZ ⊢
  refine aq.aj Tryz.func164 Tryz.ntmps164 fun G F R hE=>?_
  refine aH rfl ?_
  refine bp zr zr bh ?_
  intro b1
  refine go ?_
  refine aM (U:=aU) (l:=[.slice a l.length c]) 0 zr zr zr zr zr zr ?_
  refine aw MZ ?_
  refine go ?_
  refine au zr zr ?_ ?_
  · intro fy
    have lh:fj l≠0:=by omega
    refine go ?_
    refine ad hE Tryz.func164 zr zr (.inl ⟨lh,rfl,rfl⟩)
  intro heq
  have h0:fj l=0:=by omega
  obtain⟨acn,y5,uy⟩:=l7 h0
  refine go ?_
  refine ak (ao.trans (ao.cd [] _) (bj 297 2 none _)) ?_
  refine bn (fun y:Nat × Its × Option Addr × Nat=>y.1≤l.length∧y.2.1.l.map It.p=gP 0 (l.take y.1)∧∀z∈y.2.1.l,fb y.2.1.Z z.v z.b) (fun y=>l.length-y.1)
    (fun y=>[(1,ptr b1),(5,.slice y.2.2.1 y.2.1.l.length y.2.2.2),(18,.slice a l.length c),(19,.int .i64 (l.length:Int)),(20,.int .i64 (y.1:Int))])
    (fun y=>aI 297 2 (.slice y.2.2.1 y.2.1.l.length y.2.2.2) y.2.1.l.length (y.2.1.l.flatMap jJ)::y.2.1.Z::A::F) (0,⟨[],Sep []⟩,none,0) ⟨Nat.zero_le _,rfl,by simp⟩ rfl bQ ah ?_
  rintro⟨i,⟨dR,Z⟩,ia,ic⟩⟨hi,pk,sR⟩ ih
  simp only at hi pk sR
  dsimp only
  have Zo:dR.length=i:=by
    grind [oQ]
  refine go ?_
  refine au zr zr ?_ ?_
  · intro cq
    have dq:i<l.length:=by omega
    obtain⟨x,hx⟩:∃x,l[i]?=some x:=⟨l[i],by simp⟩
    have hxr:=uy x (List.mem_of_getElem? hx)
    have aaO:=hxr
    simp only[cp,decide_eq_true_eq]at aaO
    obtain⟨sz,iF⟩:∃m:Nat,x.size=m:=⟨x.size.toNat,ai⟩
    obtain⟨pc,MM⟩:∃m:Nat,x.piece=m:=⟨x.piece.toNat,ai⟩
    obtain⟨b,o,eX,dW⟩:=hv.some (Wq dq)
    simp only[Value.slice.injEq]at dW
    obtain⟨rfl,_,rfl⟩:=dW
    refine go ?_
    refine bX i 66 zr zr zr zr zr zr zr zr dq ?_
    refine aT ?_
    refine bW (U:=aU) (es:=dY x) 2 (i*66) zr zr zr hv rfl (blE hx) zr zr zr ?_
    refine az zr zr zr bh ?_
    intro b7
    refine go ?_
    refine aJ (fun w=>Sat G w ([ag b7 (cl (dY x) 107)])) (cM 0 3 (cM 4 3 (.act 3 (.act 7 (.st 8 (.st 9 .nil)))))) rfl ae ae ae cY ?_
    refine go ?_
    refine aD 27 ((.int .u64 (sz:Int))) rfl ((congrArg (Value.int .u64) iF)) ?_
    refine aD 31 ((.int .u64 (pc:Int))) rfl ((congrArg (Value.int .u64) MM)) ?_
    refine dx (j5 sz ai) ?_
    rintro r8 _ rfl
    refine dx (j5 pc ai) ?_
    rintro r9 _ rfl
    refine aL 0 rfl ?_
    rintro a9 c9 rfl
    refine aL 1 rfl ?_
    rintro a8 c8 rfl
    refine gU (bs:=uv pc) 0 rfl ?_
    intro V9
    refine gU (bs:=uv sz) 1 rfl ?_
    intro W2
    refine go ?_
    obtain⟨LQ,Kt⟩:∃LQ:List It,LQ=[⟨1,.slice (some ⟨b7,0,none⟩) 32 32,x.d.bs⟩,⟨2,.slice a8 (uv sz).length c8,uv sz⟩,⟨3,.slice a9 (uv pc).length c9,uv pc⟩,⟨4,.slice (some ⟨b7,34,none⟩) 32 32,x.root.bs⟩]:=⟨_,rfl⟩
    have hp4:LQ.map It.p=cU x:=by rw[Kt];simp only[cU,List.map_cons,List.map_nil,It.p,iF,MM,Int.toNat_natCast]
    have Iu:=uu x hxr
    refine aJ (fun w=>Sat G w ([])) (cM 0 10 (.act 10 (.act 11 (cM 12 5 .nil)))) rfl ae ae ae cY ?_
    (repeat(first|refine fq ?_|refine iQ (U:=aU) zr zr zr zr zr ?_))
    refine al (cs:=LQ.flatMap jJ) zr zr zr zr zr zr zr zr (by rw[Kt];rfl) (fun _ _ hw=>hw.cn ah) ?_
    intro row
    have h4:LQ.length=4:=by rw[Kt];rfl
    have Nf:qw (Sep [ag row (cl (LQ.flatMap jJ) 297),ag b7 (cl (dY x) 107),aI 5 1 (.slice a8 (uv sz).length c8) (uv sz).length (bV (uv sz)),aI 5 1 (.slice a9 (uv pc).length c9) (uv pc).length (bV (uv pc))]) (.slice (some ⟨row,0,none⟩) 4 4) LQ:=by
      refine⟨?_,fun y hy=>?_⟩
      · rw[h4]
        exact(Vw.ag (by rw[List.drop_zero,List.take_length])).mono (bz (i:=0) rfl)
      · rw[Kt]at hy
        simp only[List.mem_cons,List.not_mem_nil,or_false]at hy
        rcases hy with rfl|rfl|rfl|rfl
        · exact(fb.U8 x.d.len (by rw[← eG];exact Wo x)).mono (bz (i:=1) rfl)
        · exact W2.mono (bz (i:=2) rfl)
        · exact V9.mono (bz (i:=3) rfl)
        · exact(fb.U8 x.root.len (by rw[← eG];exact Nw x)).mono (bz (i:=1) rfl)
    have A0:ec 0 (LQ.map It.p)=true:=by rw[hp4];simp[cU,ec]
    have Be:=kX _ _ LQ Nf ai A0 (by rw[hp4];omega)
    rw[hp4]at Be
    clear A0 Nf hp4 h4
    clear Kt
    refine aS (ao.trans (ao.pick [0,3,2,1] rfl) (ao.cd [ag row (cl (LQ.flatMap jJ) 297),ag b7 (cl (dY x) 107),aI 5 1 (.slice a8 (uv sz).length c8) (uv sz).length (bV (uv sz)),aI 5 1 (.slice a9 (uv pc).length c9) (uv pc).length (bV (uv pc))] _)) ?_
    refine dx Be ?_
    rintro _ _⟨rr,rfl,rfl⟩
    refine aL 0 rfl ?_
    rintro ra rc rfl
    refine gU (bs:=dM (cU x)) 0 rfl ?_
    intro ZN
    refine go ?_
    refine al (cs:=jJ ⟨(i:Int)+1,.slice ra (dM (cU x)).length rc,dM (cU x)⟩) zr zr zr zr zr zr zr zr zr bh ?_
    intro Mj
    refine go ?_
    refine aO (mm:=1) (news:=jJ ⟨(i:Int)+1,.slice ra (dM (cU x)).length rc,dM (cU x)⟩) 3 0 rfl rfl rfl rfl rfl rfl rfl rfl rfl rfl rfl rfl (Vw.ag rfl) rfl (by intro v hv;simp[jJ]at hv;rcases hv with rfl|rfl <;> rfl) ai (by show(_+_)*32≤_;omega) (fun _=>rfl) bh ?_
    intro v1
    rw[show dR.flatMap jJ++jJ (⟨(i:Int)+1,.slice ra (dM (cU x)).length rc,dM (cU x)⟩:It)=(dR++[(⟨(i:Int)+1,.slice ra (dM (cU x)).length rc,dM (cU x)⟩:It)]).flatMap jJ from by simp,show dR.length+1=(dR++[(⟨(i:Int)+1,.slice ra (dM (cU x)).length rc,dM (cU x)⟩:It)]).length from by simp]
    refine aL 3 rfl ?_
    rintro ja jc rfl
    refine go ?_
    have Ku:(dR++[(⟨(i:Int)+1,.slice ra (dM (cU x)).length rc,dM (cU x)⟩:It)]).map It.p=gP 0 (l.take (i+1)):=by
      rw[List.take_add_one,hx,List.map_append,pk]
      grind [ur,It.p]
    refine ak (ao.trans (ao.pick [1,4] rfl) (ao.cd [aI 5 1 (.slice ra (dM (cU x)).length rc) (dM (cU x)).length (bV (dM (cU x))),Z] _)) ?_
    refine aK ih (i+1,⟨dR++[(⟨(i:Int)+1,.slice ra (dM (cU x)).length rc,dM (cU x)⟩:It)],Sep [aI 5 1 (.slice ra (dM (cU x)).length rc) (dM (cU x)).length (bV (dM (cU x))),Z]⟩,ja,jc) rfl ⟨by simp only;omega,Ku,fun z hz=>by
      rcases List.mem_append.1 hz with h|h
      · exact(sR z h).mono (bz (i:=1) rfl)
      · rw[List.mem_singleton.1 h];exact ZN.mono (bz (i:=0) rfl)⟩ (by simp only;omega) bQ ah
  · intro ek
    have vK:i=l.length:=by omega
    subst vK
    rw[List.take_length]at pk
    have pn:=Br h0
    unfold uO at pn
    have A0:=rW l 0 ai
    rw[← pk]at pn A0
    refine eu 0 rfl ?_
    intro dt
    have Nf:qw (Sep [aI 297 2 (.slice ia dR.length ic) dR.length (dR.flatMap jJ),Z]) (.slice ia dR.length ic) dR:=⟨dt.mono (bz (i:=0) rfl),fun y hy=>(sR y hy).mono (bz (i:=1) rfl)⟩
    have Be:=kX _ _ dR Nf ai A0 ai
    have hee:dM (dR.map It.p)=uO l:=by rw[pk];rfl
    rw[hee]at Be
    refine go ?_
    refine aS (ao.cd [_,_] _) ?_
    refine aF Be ?_
    rintro _ _⟨rr,rfl,rfl⟩
    refine go ?_
    refine ad hE Tryz.func164 zr zr (.inr ⟨rr,h0,rfl,rfl⟩)
def BQ(A:HP)(hK:pt A)(v:Value)(l:List Bl)(hv:Vw A v l.length (l.flatMap dY))(hlen:l.length≤1000000) :
  aq Tryz.prog 98 [LR v] [A] (fun r H=>r=(if fj l=0 then .tuple #[dV (ug l),.int .i64 0]else .tuple #[dV Dg.zero,.int .i64 (fj l:Int)])∧H=[A]):=by
 have MZ:=AP A v l hv hlen
 obtain⟨a,c,rfl⟩:=hv.shape
 unfold LR at MZ ⊢
 refine aq.aj Tryz.func98 Tryz.ntmps98 fun G F R hE=>?_
 refine aH rfl ?_
 refine bp zr zr bh ?_
 intro b1
 refine az zr zr zr bh ?_
 intro b2
 refine go ?_
 refine aM (U:=aU) (l:=[.slice a l.length c]) 1 zr zr zr zr zr zr ?_
 refine aF MZ ?_
 rintro _ _ (⟨h0,rfl,rfl⟩|⟨rv,h0,rfl,rfl⟩)
 ·rw[if_neg h0]at hE
  refine go ?_
  refine au zr zr ?_ ?_
  case' refine_2=>(intro h;exfalso;omega)
  intro _
  refine go ?_
  refine gG (U:=aU) zr zr zr zr zr (go ?_)
  (refine bg hE ?_;apply a7 (U:=aU) hE Tryz.func98 rfl (ao.refl _);(repeat(first|exact aQ.nil|apply aQ.tmp rfl|apply aQ.agg 1 zr zr zr zr zr));exact⟨rfl,rfl⟩;exact ah)
 ·rw[if_pos h0]at hE
  have pn:=Br h0
  refine gU (bs:=uO l) 0 rfl ?_
  intro ZQ
  refine aS (ao.cd [_,_] _) (go ?_)
  refine aw (zq _ (hK.mono (bz (H:=[aI 5 1 rv (uO l).length (bV (uO l)),A]) (i:=1) rfl)) rv (uO l) (ZQ.mono (bz (i:=0) rfl)) ai) ?_
  refine aS (ao.cX _ _) (go ?_)
  (refine bg hE ?_;apply a7 (U:=aU) hE Tryz.func98 rfl (ao.refl _);(repeat(first|exact aQ.nil|apply aQ.tmp rfl|apply aQ.agg 2 zr zr zr zr zr));exact⟨rfl,rfl⟩;exact ah)
def KS(o:Option Bl):Value:=match o with
 | none => .tuple #[mH Bl.zero,.bool false]
 | some x => .tuple #[mH x,.bool true]
def Ea{b:List UInt8}(h:oI b=none):kL b=none:=by unfold kL;rw[h]
theorem Hw{b:List UInt8}{xs:List (Int × List UInt8)}(h:oI b=some xs)(hl:xs.length≠4):kL b=none:=by
 grind [kL]
def Eb{b:List UInt8}{n1 n2 n3 n4:Int}{b1 b2 b3 b4:List UInt8}(h:oI b=some [(n1,b1),(n2,b2),(n3,b3),(n4,b4)]) :
  kL b=if n4≠4∨b1.length≠32∨b4.length≠32 then none else match cO b2,cO b3 with
  | some s,some p=>if 1048576<max s p then none else some ⟨sF b1,s,p,sF b4⟩
  | _,_=>none:=by unfold kL;rw[h];rfl
theorem uQ{b:List UInt8}(h:b.length=32):bV b=dC (sF b):=by
 grind [sF,eG]
theorem z7:∀(f:Nat) (b:List UInt8) (x:Int × List UInt8),x∈pG f b→x.2.length≤b.length
 | 0,b,x,h=>by simp[pG]at h
 | f+1,[],x,h=>by simp[pG]at h
 | f+1,c::r,x,h=>by
  have h1:=nQ r
  rw[pG]at h
  split at h
  ·rcases List.mem_cons.1 h with rfl|h
   ·grind
   ·have:=z7 f _ x h
    grind
  grind
def pI{b:List UInt8}{l:List (Int × List UInt8)}(h:oI b=some l):∀x∈l,x.2.length≤65536:=by
 unfold oI at h
 split at h
 ·cases h
 ·split at h
  ·cases h
   intro x hx
   have:=z7 _ _ x hx;omega
  ·cases h
def Gy(A:HP)(v:Value)(b:List UInt8)(hv:fb A v b)(hl:b.length≤1000000000) :
  aq Tryz.prog 193 [v] [A] (fun r H=>r=KS (kL b)∧H=[A]):=by
 have WM:=kY A v b hv hl
 obtain⟨a,c,rfl,hc⟩:=hv.2
 refine aq.aj Tryz.func193 Tryz.ntmps193 fun G F R hE=>?_
 refine aH rfl ?_
 refine az zr zr zr bh ?_
 intro b2
 refine go ?_
 refine aF WM ?_
 rintro _ _ (⟨hn,rfl,rfl⟩|⟨xs,dR,Z,rv,hs,pk,⟨dt,sR⟩,rfl,rfl,-⟩)
 ·rw[Ea hn]at hE
  repeat'(first|refine fq ?_|fail)
  all_goals((skip))
  (refine bg hE ?_;apply a7 (U:=aU) hE Tryz.func193 rfl (ao.refl _);(repeat(first|exact aQ.nil|apply aQ.tmp rfl|apply aQ.agg 1 zr zr zr zr zr));exact⟨rfl,rfl⟩;exact ah)
 obtain⟨ra,rc,rfl⟩:=dt.shape
 by_cases h4:dR.length=4
 case neg =>
  rw[Hw hs (by rw[← pk,List.length_map];exact h4)]at hE
  repeat'(first|(with_reducible intro iI)|refine fq ?_|refine dw zr zr zr zr ?_ ?_|fail)
  all_goals(first|(exfalso;omega)|skip)
  (refine bg hE ?_;apply a7 (U:=aU) hE Tryz.func193 rfl (ao.refl _);(repeat(first|exact aQ.nil|apply aQ.tmp rfl|apply aQ.agg 2 zr zr zr zr zr));exact⟨rfl,rfl⟩;exact ah)
 obtain⟨i1,i2,i3,i4,rfl⟩:∃i1 i2 i3 i4,dR=[i1,i2,i3,i4]:=by
  match dR,h4 with
  | [i1,i2,i3,i4],_=>exact⟨i1,i2,i3,i4,rfl⟩
 obtain⟨n1,v1,b1⟩:=i1
 obtain⟨n2,v2,Xa⟩:=i2
 obtain⟨n3,v3,Ou⟩:=i3
 obtain⟨n4,v4,W9⟩:=i4
 have oR:fb Z v1 b1:=sR ⟨n1,v1,b1⟩ (by simp)
 have mN:fb Z v2 Xa:=sR ⟨n2,v2,Xa⟩ (by simp)
 have Wa:fb Z v3 Ou:=sR ⟨n3,v3,Ou⟩ (by simp)
 have hb4:fb Z v4 W9:=sR ⟨n4,v4,W9⟩ (by simp)
 obtain⟨a1,c1,rfl,_⟩:=oR.2
 obtain⟨a2,c2,rfl,_⟩:=mN.2
 obtain⟨a3,c3,rfl,_⟩:=Wa.2
 obtain⟨a4,c4,rfl,_⟩:=hb4.2
 obtain⟨rb,ro,rcc,he⟩:=dt.some (by simp[jJ])
 simp only[Value.slice.injEq]at he
 obtain⟨rfl,_,rfl⟩:=he
 simp only[List.map_cons,List.map_nil,It.p]at pk
 subst pk
 have zX:=Eb hs
 have AY:Vw Z (.slice (some ⟨rb,ro,none⟩) 4 rc) 4 [.int .i64 n1,.slice a1 b1.length c1,.int .i64 n2,.slice a2 Xa.length c2,.int .i64 n3,.slice a3 Ou.length c3,.int .i64 n4,.slice a4 W9.length c4]:=dt
 have hN:(n4≠4∨b1.length≠32∨W9.length≠32)→kL b=none:=fun h=>by rw[zX,if_pos h]
 simp only[List.length_cons,List.length_nil,Nat.zero_add,Nat.reduceAdd]
 clear dt sR WM h4
 repeat'(first|(with_reducible intro iI)|refine fq ?_|refine dw zr zr zr zr ?_ ?_|refine au zr zr ?_ ?_|refine bX 3 2 zr zr zr zr zr zr zr zr (by simp) ?_|refine bX 0 2 zr zr zr zr zr zr zr zr (by simp) ?_|refine aN 0 (3*2+0) zr zr zr AY (Nat.add_assoc _ _ _) zr zr zr ?_|refine aN 0 (3*2+1) zr zr zr AY (Nat.add_assoc _ _ _) zr zr zr ?_|refine aN 0 (0*2+1) zr zr zr AY (Nat.add_assoc _ _ _) zr zr zr ?_)
 ·rw[hN ai]at hE
  refine go ?_
  (refine bg hE ?_;apply a7 (U:=aU) hE Tryz.func193 rfl (ao.refl _);(repeat(first|exact aQ.nil|apply aQ.tmp rfl|apply aQ.agg 2 zr zr zr zr zr));exact⟨rfl,rfl⟩;exact ah)
 ·rw[hN ai]at hE
  refine go ?_
  (refine bg hE ?_;apply a7 (U:=aU) hE Tryz.func193 rfl (ao.refl _);(repeat(first|exact aQ.nil|apply aQ.tmp rfl|apply aQ.agg 2 zr zr zr zr zr));exact⟨rfl,rfl⟩;exact ah)
 ·rw[hN ai]at hE
  refine go ?_
  (refine bg hE ?_;apply a7 (U:=aU) hE Tryz.func193 rfl (ao.refl _);(repeat(first|exact aQ.nil|apply aQ.tmp rfl|apply aQ.agg 2 zr zr zr zr zr));exact⟨rfl,rfl⟩;exact ah)
 have hk4:n4=4:=by omega
 have y5:b1.length=32:=by omega
 have hl4:W9.length=32:=by omega
 rw[if_neg (by rintro(h|h|h) <;> exact h (by assumption))]at zX
 refine go ?_
 refine bX 1 2 zr zr zr zr zr zr zr zr ai (go ?_)
 refine aT ?_
 refine aN 0 (1*2+1) zr zr zr AY (Nat.add_assoc _ _ _) zr zr zr ?_
 have Zf:=pI hs (n2,Xa) (by simp)
 have hm3:=pI hs (n3,Ou) (by simp)
 simp only at Zf hm3
 refine aw (j6 Z _ Xa mN ai) ?_
 cases hu2:cO Xa with
 | none =>
  rw[hu2]at zX
  rw[zX]at hE
  simp only
  refine go ?_
  refine bX 2 2 zr zr zr zr zr zr zr zr ai (go ?_)
  refine aT ?_
  refine aN 0 (2*2+1) zr zr zr AY (Nat.add_assoc _ _ _) zr zr zr ?_
  refine aw (j6 Z _ Ou Wa ai) ?_
  cases cO Ou with
  | none =>
   simp only
   repeat'(first|refine fq ?_|fail)
   all_goals((skip))
   (refine bg hE ?_;apply a7 (U:=aU) hE Tryz.func193 rfl (ao.refl _);(repeat(first|exact aQ.nil|apply aQ.tmp rfl|apply aQ.agg 2 zr zr zr zr zr));exact⟨rfl,rfl⟩;exact ah)
  | some p =>
   simp only
   repeat'(first|refine fq ?_|fail)
   all_goals((skip))
   (refine bg hE ?_;apply a7 (U:=aU) hE Tryz.func193 rfl (ao.refl _);(repeat(first|exact aQ.nil|apply aQ.tmp rfl|apply aQ.agg 2 zr zr zr zr zr));exact⟨rfl,rfl⟩;exact ah)
 | some s =>
  rw[hu2]at zX
  simp only
  refine go ?_
  refine bX 2 2 zr zr zr zr zr zr zr zr ai (go ?_)
  refine aT ?_
  refine aN 0 (2*2+1) zr zr zr AY (Nat.add_assoc _ _ _) zr zr zr ?_
  refine aw (j6 Z _ Ou Wa ai) ?_
  cases hu3:cO Ou with
  | none =>
   rw[hu3]at zX
   rw[zX]at hE
   simp only
   repeat'(first|refine fq ?_|fail)
   all_goals((skip))
   (refine bg hE ?_;apply a7 (U:=aU) hE Tryz.func193 rfl (ao.refl _);(repeat(first|exact aQ.nil|apply aQ.tmp rfl|apply aQ.agg 2 zr zr zr zr zr));exact⟨rfl,rfl⟩;exact ah)
  | some p =>
   rw[hu3]at zX
   simp only at zX ⊢
   repeat'(first|(with_reducible intro iI)|refine fq ?_|refine au zr zr ?_ ?_)
   all_goals((skip))
   ·rw[if_pos ai]at zX
    rw[zX]at hE
    refine go ?_
    (refine bg hE ?_;apply a7 (U:=aU) hE Tryz.func193 rfl (ao.refl _);(repeat(first|exact aQ.nil|apply aQ.tmp rfl|apply aQ.agg 2 zr zr zr zr zr));exact⟨rfl,rfl⟩;exact ah)
   ·rw[if_neg ai]at zX
    rw[zX]at hE
    have acf:s≤1048576:=by omega
    have ach:p≤1048576:=by omega
    obtain⟨xb1,xo1,xc1,Of⟩:=oR.1.some (by intro h;have:=congrArg List.length h;rw[bJ,y5]at this;cases this)
    simp only[Value.slice.injEq]at Of
    obtain⟨rfl,_,rfl⟩:=Of
    obtain⟨xb4,xo4,xc4,he4⟩:=hb4.1.some (by intro h;have:=congrArg List.length h;rw[bJ,hl4]at this;cases this)
    simp only[Value.slice.injEq]at he4
    obtain⟨rfl,_,rfl⟩:=he4
    have lB:=oR.1
    rw[uQ y5]at lB
    have hv4:=hb4.1
    rw[uQ hl4]at hv4
    refine aJ (fun w=>Sat G w ([Z])) (cM 0 17 (.act 17 (.st 18 .nil))) rfl ae ae ae cY ?_
    refine go ?_
    (repeat(first|refine fq ?_|refine bX 0 2 zr zr zr zr zr zr zr zr ai ?_|refine bX 3 2 zr zr zr zr zr zr zr zr ai ?_|(refine aT ?_;first|refine dp 0 (0*2+1) zr zr zr AY (Nat.add_assoc _ _ _) zr zr zr ?_|refine dp 0 (3*2+1) zr zr zr AY (Nat.add_assoc _ _ _) zr zr zr ?_|refine ew (U:=aU) (es:=dC (sF b1)) 0 0 zr zr zr lB rfl (fun j v hj=>by rw[Nat.zero_add];exact hj) zr zr zr ?_|refine ew (U:=aU) (es:=dC (sF W9)) 0 0 zr zr zr hv4 rfl (fun j v hj=>by rw[Nat.zero_add];exact hj) zr zr zr ?_)|refine yn (U:=aU) zr zr zr zr ai ?_))
    refine aY ?_
    refine bG 2 cY zr zr zr zr zr zr zr zr zr (go ?_)
    (refine bg hE ?_;apply a7 (U:=aU) hE Tryz.func193 rfl (ao.refl _);(repeat(first|exact aQ.nil|apply aQ.tmp rfl|apply aQ.agg 2 zr zr zr zr zr));exact⟨rfl,rfl⟩;exact ah)
theorem rU:∀(l:List (Int × List UInt8)) (i:Nat) (x:Int × List UInt8),gI i (l++[x])=match gI i l with
  | none=>none
  | some y=>match kL x.2 with
   | none=>none
   | some z=>if x.1≠((i+l.length:Nat):Int)+1 then none else some (y++[z])
 | [],i,(n,b)=>by
  grind [gI,kL]
 | (m,c)::l,i,(n,b)=>by
  simp only[List.cons_append,gI,rU l (i+1) (n,b),List.length_cons]
  cases kL c with
  | none=>rfl
  | some y =>
   grind
def rT:∀(l r:List (Int × List UInt8)) (i:Nat),gI i l=none→gI i (l++r)=none
 | [],r,i,h=>by cases h
 | (n,b)::l,r,i,h=>by
  simp only[List.cons_append,gI]at h ⊢
  cases hb:kL b with
  | none=>rfl
  | some x =>
   rw[hb]at h
   simp only at h ⊢
   split at h
   ·rename_i hn;rw[if_pos hn]
   ·rename_i hn
    rw[if_neg hn]
    rw[rT l r (i+1) (by simpa using h)];rfl
theorem AQ(A:HP)(v:Value)(b:List UInt8)(hv:fb A v b)(hl:b.length≤1000000000) :
  aq Tryz.prog 97 [v] [A] (fun r H=>(uS b=none∧(∃e,e≠0∧r = .tuple #[LR (.slice none 0 0),.int .i64 e])∧H=[A]) ∨
   ∃l rv,uS b=some l∧r = .tuple #[LR rv,.int .i64 0]∧H=[aI 107 66 rv l.length (l.flatMap dY),A]):=by
 have WM:=kY A v b hv hl
 obtain⟨a,c,rfl,hc⟩:=hv.2
 refine aq.aj Tryz.func97 Tryz.ntmps97 fun G F R hE=>?_
 refine aH rfl ?_
 refine az zr zr zr bh ?_
 intro b2
 refine go ?_
 refine aF WM ?_
 rintro _ _ (⟨hn,rfl,rfl⟩|⟨xs,dR,Z,rv,hs,pk,⟨dt,sR⟩,rfl,rfl,-⟩)
 ·have hd:uS b=none:=by unfold uS;rw[hn]
  repeat'(first|refine fq ?_|fail)
  all_goals((skip))
  (refine bg hE ?_;apply a7 (U:=aU) hE Tryz.func97 rfl (ao.refl _);(repeat(first|exact aQ.nil|apply aQ.tmp rfl|apply aQ.agg 1 zr zr zr zr zr));exact(.inl ⟨hd,⟨2,by decide,rfl⟩,rfl⟩);exact ah)
 have WZ:uS b=match gI 0 xs with|some x=>if fj x=0 then some x else none|none=>none:=by unfold uS;rw[hs];rfl
 obtain⟨ra,rc,rfl⟩:=dt.shape
 have Dz:dR.length≤65536:=by
  have h1:xs.length≤65536:=by
   unfold oI at hs
   split at hs
   ·cases hs
   ·split at hs
    ·cases hs
     have:=pH _ b (Nat.le_refl _)
     grind [dy]
    ·cases hs
  grind
 repeat'(first|refine fq ?_|fail)
 all_goals((skip))
 refine az zr zr zr bh ?_
 intro b6
 refine go ?_
 refine ak (ao.trans (ao.cd [] _) (bj 107 66 none _)) ?_
 refine bn (fun y:Nat × List Bl × Option Addr × Nat=>y.1≤dR.length∧gI 0 (xs.take y.1)=some y.2.1∧y.2.1.length=y.1) (fun y=>dR.length-y.1)
  (fun y=>[(2,ptr b2),(6,ptr b6),(20,.slice ra dR.length rc),(21,.int .i64 (dR.length:Int)),(22,.int .i64 (y.1:Int))])
  (fun y=>ag b6 (cl [.slice y.2.2.1 y.2.1.length y.2.2.2] 167)::aI 107 66 (.slice y.2.2.1 y.2.1.length y.2.2.2) y.2.1.length (y.2.1.flatMap dY)::Z::A::ag b2 (cl [.slice none 0 0] 167)::F) (0,[],none,0) ⟨Nat.zero_le _,rfl,rfl⟩ rfl bQ ah ?_
 rintro⟨i,acc,xa,xc⟩⟨hi,gh,Wc⟩ ih
 simp only at hi gh Wc
 dsimp only
 refine go ?_
 refine au zr zr ?_ ?_
 ·intro cq
  have dq:i<dR.length:=by omega
  obtain⟨it,G0⟩:∃x,dR[i]?=some x:=⟨dR[i],by simp⟩
  have hxi:xs[i]?=some (it.n,it.b):=by rw[← pk,List.getElem?_map,G0];rfl
  have G8:=sR it (List.mem_of_getElem? G0)
  have Zn:=pI hs _ (List.mem_of_getElem? hxi)
  have ki:xs.take (i+1)=xs.take i++[(it.n,it.b)]:=by rw[List.take_add_one,hxi];rfl
  have Hb:=rU (xs.take i) 0 (it.n,it.b)
  have zT:(xs.take i).length=i:=by rw[List.length_take,← pk,List.length_map];omega
  rw[← ki,gh,zT,Nat.zero_add]at Hb
  simp only at Hb Zn
  have ju:gI 0 (xs.take (i+1))=none→uS b=none:=fun h=>by
   have:=rT _ (xs.drop (i+1)) 0 h
   rw[List.take_append_drop]at this
   grind
  obtain⟨rb,ro,rcc,he⟩:=dt.some (by rw[← List.length_pos_iff,bI gJ];omega)
  simp only[Value.slice.injEq]at he
  obtain⟨rfl,_,rfl⟩:=he
  obtain⟨xn,xv,xb⟩:=it
  simp only at G8 Hb Zn
  obtain⟨va,vc,rfl,_⟩:=G8.2
  refine go ?_
  refine bX i 2 zr zr zr zr zr zr zr zr dq ?_
  refine aT ?_
  refine bW (U:=aU) (es:=jJ ⟨xn,.slice va xb.length vc,xb⟩) 2 (i*2) zr zr zr dt rfl (fun j v hj=>?_) zr zr zr ?_
  ·rw[ck gJ G0 j (by rcases Nat.lt_or_ge j 2 with h|h;exact h;rw[List.getElem?_eq_none (by rw[gJ];exact h)]at hj;cases hj)];exact hj
  refine az zr zr zr bh ?_
  intro b8
  refine go ?_
  refine aw (Gy Z _ xb G8 ai) ?_
  cases zX:kL xb with
  | none =>
   rw[zX]at Hb
   have lO:=ju Hb
   simp only[KS]
   refine go ?_
   refine az zr zr zr bh ?_
   intro b9
   refine go ?_
   (refine aY ?_;(refine bG 6 eW zr zr zr zr zr zr zr zr zr ?_))
   refine go ?_
   (refine bg hE ?_;apply a7 (U:=aU) hE Tryz.func97 rfl (ao.refl _);(repeat(first|exact aQ.nil|apply aQ.tmp rfl|apply aQ.agg 6 zr zr zr zr zr));exact(.inl ⟨lO,⟨2,by decide,rfl⟩,rfl⟩);exact ah)
  | some z =>
   rw[zX]at Hb
   simp only[KS]at Hb ⊢
   unfold mH
   refine go ?_
   refine az zr zr zr bh ?_
   intro b9
   repeat'(first|(with_reducible intro iI)|refine fq ?_|refine au zr zr ?_ ?_)
   ·rw[if_pos ai]at Hb
    have lO:=ju Hb
    (refine aY ?_;(refine bG 6 eW zr zr zr zr zr zr zr zr zr ?_))
    refine go ?_
    (refine bg hE ?_;apply a7 (U:=aU) hE Tryz.func97 rfl (ao.refl _);(repeat(first|exact aQ.nil|apply aQ.tmp rfl|apply aQ.agg 6 zr zr zr zr zr));exact(.inl ⟨lO,⟨2,by decide,rfl⟩,rfl⟩);exact ah)
   ·rw[if_neg ai]at Hb
    refine aM (U:=aU) (l:=dY z) 0 zr zr zr zr zr zr ?_
    refine al (cs:=dY z) zr zr zr zr zr zr zr zr zr bh ?_
    intro row
    refine go ?_
    refine aO (mm:=1) (news:=dY z) 5 0 zr zr zr zr zr zr zr zr zr zr zr zr (Vw.ag rfl) rfl (by have:=FD [z];simpa using this) ai (by show(_+_)*80≤_;omega) (fun _=>rfl) bh ?_
    intro v1
    rw[show acc.flatMap dY++dY z=(acc++[z]).flatMap dY from by simp,show acc.length+1=(acc++[z]).length from by simp]
    refine aL 5 rfl ?_
    rintro ja jc rfl
    refine go ?_
    refine aY ?_
    refine bG 4 eW zr zr zr zr zr zr zr zr zr (go ?_)
    refine aK ih (i+1,acc++[z],ja,jc) rfl ⟨by simp only;omega,Hb,by simp only[List.length_append,List.length_singleton];omega⟩ (by simp only;omega) bQ ah
 ·intro ek
  have vK:i=dR.length:=by omega
  have dX:xs.take i=xs:=by rw[List.take_of_length_le];rw[← pk,List.length_map];omega
  rw[dX]at gh
  rw[gh]at WZ
  simp only at WZ
  clear ih
  refine eu 1 rfl ?_
  intro hva
  refine go ?_
  refine aM (U:=aU) (l:=[.slice xa acc.length xc]) 0 zr zr zr zr zr zr ?_
  refine aw (yp _ _ acc hva ai) ?_
  repeat'(first|(with_reducible intro iI)|refine fq ?_|refine au zr zr ?_ ?_)
  ·rw[if_neg ai]at WZ
   (refine aY ?_;(refine bG 4 eW zr zr zr zr zr zr zr zr zr ?_))
   refine go ?_
   (refine bg hE ?_;apply a7 (U:=aU) hE Tryz.func97 rfl (ao.refl _);(repeat(first|exact aQ.nil|apply aQ.tmp rfl|apply aQ.agg 4 zr zr zr zr zr));exact(.inl ⟨WZ,⟨2,by decide,rfl⟩,rfl⟩);exact ah)
  ·rw[if_pos ai]at WZ
   refine aM (U:=aU) (l:=[.slice xa acc.length xc]) 1 zr zr zr zr zr zr (go ?_)
   refine aY ?_
   refine bG 4 eW zr zr zr zr zr zr zr zr zr (go ?_)
   (refine bg hE ?_;apply a7 (U:=aU) hE Tryz.func97 rfl (ao.refl _);(repeat(first|exact aQ.nil|apply aQ.tmp rfl|apply aQ.agg 4 zr zr zr zr zr));exact(.inr ⟨acc,_,WZ,rfl,rfl⟩);exact ah)
end Go.Proofs.YtnkfkabokmcgoaaGreatDoor
namespace Go.SL
open Go.Proofs Go.Shelf Go.RowKit Go.Lib Go.Sort
theorem Sat.grown{G:bY}{w:World}{H:List HP}(hs:Sat G w H)(os:Array Obj):Sat G (Sort.grow w os) H:=by
 obtain⟨a,b,c,h,hw,hh⟩:=hs
 refine⟨a,b,c,h,fun x o e=>?_,hh⟩
 have h1:=hw x o e
 obtain⟨h2,-⟩:=Array.getElem?_eq_some_iff.1 h1
 show(w.heap++os)[x]?=some o
 grind
def Sat.ahead{G:bY}{w:World}{H:List HP}(hs:Sat G w H)(n:Nat):Sat G (Sort.ahead w n) H:=hs.draw _ (Nat.le_add_right _ _)
theorem Sat.Vf{G:bY}{w:World}{H:List HP}{b:Nat}{l l':List Value}{e:TypeId}(hs:Sat G w (ag b (cl l e)::H))(f:Array Value→Array Value)(hf:f l.toArray=l'.toArray):Sat G (Sort.mapBlock w b f) (ag b (cl l' e)::H):=by
 have hb:=hs.get (i:=0) rfl
 obtain⟨cq,mN⟩:=Array.getElem?_eq_some_iff.1 hb
 have hm:w.heap.modify b (Sort.onCells f)=w.heap.setIfInBounds b (cl l' e):=by
  apply Array.ext_getElem?
  intro i
  rw[Array.getElem?_modify,Array.getElem?_setIfInBounds]
  by_cases h:b=i
  ·subst h
   rw[if_pos rfl,if_pos rfl,if_pos cq,hb]
   simp only[Option.map_some]
   unfold cl Sort.onCells
   grind
  grind
 unfold Sort.mapBlock
 rw[hm]
 exact hs.yA
theorem Bm{W W':World}(h:Sat { tape:=W.tape,os:=W.os,output:=W.output,lo:=W.drawn } W' [old W]):∃q os',W'=Sort.grow (W.drewN q) os':=by
 obtain⟨⟨h1,h2⟩,h3,h4,h0,hw,hs⟩:=h
 have ho:=cW hs
 have hb:∀k,k<W.heap.size→W'.heap[k]?=W.heap[k]? := fun k hk=>by
  have e:W.heap[k]?=some W.heap[k]:=by simp[hk]
  rw[e]
  exact hw k _ (by rw[ho k,e])
 have hle:W.heap.size≤W'.heap.size:=by
  grind
 refine⟨W'.drawn-W.drawn,W'.heap.extract W.heap.size W'.heap.size,?_⟩
 have Zw:W'.heap=W.heap++W'.heap.extract W.heap.size W'.heap.size:=by
  grind
 have hd:W'.drawn=W.drawn+(W'.drawn-W.drawn):=by simp only at h2;omega
 cases W' with
 | mk hp tp dr os out =>
  simp only at h1 h2 h3 h4 Zw hd
  subst h1 h3 h4
  unfold Sort.grow World.drewN
  grind
variable{P:Program}{ρ:Ren}{α:Type}[Inhabited α]
theorem lY(pre cs vM bL:List Value)(hl:vM.length=cs.length):Sort.putCells id pre.length vM.toArray (pre++cs++bL).toArray=(pre++vM++bL).toArray:=by
 apply Array.ext_getElem?
 intro i
 unfold Sort.putCells
 grind
theorem qX{w:World}{b:Nat}{e:TypeId}{pre cs bL:List Value}(hb:w.heap[b]?=some (cl (pre++cs++bL) e)):Sort.Holds id w b pre.length cs.toArray:=by
 intro j hj
 simp only[List.size_toArray]at hj
 constructor
 ·unfold World.cell?
  grind [cl]
 ·unfold World.frozen?
  grind [cl]
theorem Ak(L:SlLaysN.n53 P ρ)(e:TypeId)(v:Value)(l:List Int)(Oe:P.funcs[ρ.f 53]?.map ix=some true)(iF:l.length<4611686018427387904) :
  aq P (ρ.f 53) [v] [aI e 1 v l.length (l.map (Value.int .i64))] (fun r H=>r = .tuple #[]∧H=[aI e 1 v l.length ((l.mergeSort fun x y=>decide (x≤y)).map (Value.int .i64))]):=by
 refine⟨Oe,fun G w F hs=>?_⟩
 obtain⟨t,o,u,hp,zU,hA,hB,⟨hl,gB⟩,Hd,hd,he⟩:=hs
 rcases gB with⟨a0,rfl,hn,uE⟩|⟨b,oo,cap,pre,bL,rfl,jq,hn,gg,uA⟩
 ·have VO:l=[]:=List.eq_nil_of_length_eq_zero hn
  subst VO
  refine(AnyG.slices_Sort_int_none L a0 0 w).mono ?_
  rintro e' w'⟨rfl,rfl⟩
  exact⟨_,_,rfl,⟨rfl,rfl⟩,t,o,u,hp,zU,hA,hB,⟨by simp,.inl ⟨a0,rfl,rfl,uE⟩⟩,Hd,hd,he⟩
 ·have vI:Sat G w (ag b (cl (pre++l.map (Value.int .i64)++bL) e)::F):=⟨t,o,u,hp,zU,hA,hB,uA,Hd,hd,he⟩
  have hb:=vI.get (i:=0) rfl
  have cq:=vI.lt (i:=0) rfl
  subst jq
  have hH:Sort.Holds (Value.int .i64) w b pre.length l.toArray:=by
   have h0:=qX hb
   intro j hj
   have:=h0 j (by simpa using hj)
   grind
  have hS:=AnyG.slices_Sort_int L b pre.length cap l w hH cq iF
  refine hS.mono ?_
  rintro e' w'⟨rfl,n,os,rfl⟩
  refine⟨_,_,rfl,⟨rfl,rfl⟩,?_⟩
  have sE:(l.mergeSort fun x y=>decide (x≤y)).length=l.length:=List.length_mergeSort _
  have h3:=(vI.ahead n).Vf (Sort.putCells (Value.int .i64) pre.length (l.mergeSort fun x y=>decide (x≤y)).toArray) (l':=pre++(l.mergeSort fun x y=>decide (x≤y)).map (Value.int .i64)++bL) (by
   refine Eq.trans ?_ (lY pre (l.map (Value.int .i64)) ((l.mergeSort fun x y=>decide (x≤y)).map (Value.int .i64)) bL (by rw[List.length_map,List.length_map,sE]))
   unfold Sort.putCells
   congr 1
   funext i x
   simp only[List.size_toArray,List.length_map,id]
   split
   ·rename_i h
    rw[getElem!_pos (List.map (Value.int .i64) _).toArray (i-pre.length) (by simp;omega),getElem!_pos (l.mergeSort fun x y=>decide (x≤y)).toArray (i-pre.length) (by simp;omega)]
    simp
   ·rfl)
  have h4:=h3.grown os
  refine h4.cn ?_
  exact gN rfl hn (by rw[List.length_map]at gg ⊢;rw[sE];exact gg) (by rw[List.length_map,sE,Nat.mul_one]) F
end Go.SL
namespace Go.SL
open Go.Proofs Go.Shelf Go.RowKit Go.Lib Go.Sort
variable{P:Program}{ρ:Ren}
theorem Aj(L:SlLaysN.n54 P ρ)(e:TypeId)(v:Value)(l:List (List UInt8))(Oe:P.funcs[ρ.f 54]?.map ix=some true)(iF:l.length<4611686018427387904) :
  aq P (ρ.f 54) [v] [aI e 1 v l.length (l.map encStr)] (fun r H=>r = .tuple #[]∧H=[aI e 1 v l.length ((l.mergeSort fun x y=>decide (x≤y)).map encStr)]):=by
 refine⟨Oe,fun G w F hs=>?_⟩
 obtain⟨t,o,u,hp,zU,hA,hB,⟨hl,gB⟩,Hd,hd,he⟩:=hs
 rcases gB with⟨a0,rfl,hn,uE⟩|⟨b,oo,cap,pre,bL,rfl,jq,hn,gg,uA⟩
 ·have VO:l=[]:=List.eq_nil_of_length_eq_zero hn
  subst VO
  refine(AnyG.slices_Sort_string_none L a0 0 w).mono ?_
  rintro e' w'⟨rfl,rfl⟩
  exact⟨_,_,rfl,⟨rfl,rfl⟩,t,o,u,hp,zU,hA,hB,⟨by simp,.inl ⟨a0,rfl,rfl,uE⟩⟩,Hd,hd,he⟩
 ·have vI:Sat G w (ag b (cl (pre++l.map encStr++bL) e)::F):=⟨t,o,u,hp,zU,hA,hB,uA,Hd,hd,he⟩
  have hb:=vI.get (i:=0) rfl
  have cq:=vI.lt (i:=0) rfl
  subst jq
  have hH:Sort.Holds encStr w b pre.length l.toArray:=by
   have h0:=qX hb
   intro j hj
   have:=h0 j (by simpa using hj)
   grind
  have hS:=AnyG.slices_Sort_string L b pre.length cap l w hH cq iF
  refine hS.mono ?_
  rintro e' w'⟨rfl,n,os,rfl⟩
  refine⟨_,_,rfl,⟨rfl,rfl⟩,?_⟩
  have sE:(l.mergeSort fun x y=>decide (x≤y)).length=l.length:=List.length_mergeSort _
  have h3:=(vI.ahead n).Vf (Sort.putCells encStr pre.length (l.mergeSort fun x y=>decide (x≤y)).toArray) (l':=pre++(l.mergeSort fun x y=>decide (x≤y)).map encStr++bL) (by
   refine Eq.trans ?_ (lY pre (l.map encStr) ((l.mergeSort fun x y=>decide (x≤y)).map encStr) bL (by rw[List.length_map,List.length_map,sE]))
   unfold Sort.putCells
   congr 1
   funext i x
   simp only[List.size_toArray,List.length_map,id]
   split
   ·rename_i h
    rw[getElem!_pos (List.map encStr _).toArray (i-pre.length) (by simp;omega),getElem!_pos (l.mergeSort fun x y=>decide (x≤y)).toArray (i-pre.length) (by simp;omega)]
    simp
   ·rfl)
  have h4:=h3.grown os
  refine h4.cn ?_
  exact gN rfl hn (by rw[List.length_map]at gg ⊢;rw[sE];exact gg) (by rw[List.length_map,sE,Nat.mul_one]) F
end Go.SL
namespace Go.Proofs.YtnkfkabokmcgoaaGreatDoor
open Go Go.Shelf
def wR:Go.Shelf.Ren:=⟨fun|54=>209|64=>250|65=>311|78=>339|79=>340|80=>377|81=>378|82=>379|83=>380|84=>381|85=>382|61=>383|86=>384|87=>385|93=>419|89=>394|90=>395|94=>420|95=>421|69=>422|97=>432|n=>n,fun|25=>121|26=>9|3=>3|51=>323|0=>0|67=>319|69=>43|4=>4|61=>419|60=>418|44=>97|5=>5|9=>9|75=>466|79=>469|83=>489|84=>490|n=>n,fun|n=>n⟩
def Yv:Go.Proofs.SlLaysN.n54 Tryz.prog wR:={
  mixed:=by kernel_rfl,
  f54:=⟨Tryz.f209.name,by decide,Tryz.func209.trans (congrArg some (by kernel_rfl))⟩,
  f61:=⟨Tryz.f383.name,by decide,Tryz.func383.trans (congrArg some (by kernel_rfl))⟩,
  f64:=Tryz.func250.trans (congrArg some (by kernel_rfl)),
  f65:=⟨Tryz.f311.name,by decide,Tryz.func311.trans (congrArg some (by kernel_rfl))⟩,
  f69:=⟨Tryz.f422.name,by decide,Tryz.func422.trans (congrArg some (by kernel_rfl))⟩,
  f78:=Tryz.func339.trans (congrArg some (by kernel_rfl)),
  f79:=Tryz.func340.trans (congrArg some (by kernel_rfl)),
  f80:=⟨Tryz.f377.name,by decide,Tryz.func377.trans (congrArg some (by kernel_rfl))⟩,
  f81:=⟨Tryz.f378.name,by decide,Tryz.func378.trans (congrArg some (by kernel_rfl))⟩,
  f82:=⟨Tryz.f379.name,by decide,Tryz.func379.trans (congrArg some (by kernel_rfl))⟩,
  f83:=⟨Tryz.f380.name,by decide,Tryz.func380.trans (congrArg some (by kernel_rfl))⟩,
  f84:=⟨Tryz.f381.name,by decide,Tryz.func381.trans (congrArg some (by kernel_rfl))⟩,
  f85:=⟨Tryz.f382.name,by decide,Tryz.func382.trans (congrArg some (by kernel_rfl))⟩,
  f86:=⟨Tryz.f384.name,by decide,Tryz.func384.trans (congrArg some (by kernel_rfl))⟩,
  f87:=⟨Tryz.f385.name,by decide,Tryz.func385.trans (congrArg some (by kernel_rfl))⟩,
  f89:=Tryz.func394.trans (congrArg some (by kernel_rfl)),
  f90:=Tryz.func395.trans (congrArg some (by kernel_rfl)),
  f93:=⟨Tryz.f419.name,by decide,Tryz.func419.trans (congrArg some (by kernel_rfl))⟩,
  f94:=⟨Tryz.f420.name,by decide,Tryz.func420.trans (congrArg some (by kernel_rfl))⟩,
  f95:=⟨Tryz.f421.name,by decide,Tryz.func421.trans (congrArg some (by kernel_rfl))⟩,
  f97:=⟨Tryz.f432.name,by decide,Tryz.func432.trans (congrArg some (by kernel_rfl))⟩,
  t0:=Tryz.underlying0,
  a0:=Tryz.isAgg0,
  z0:=Tryz.sizeOf0,
  v0:=Tryz.zeroValue0,
  t3:=Tryz.underlying3,
  a3:=Tryz.isAgg3,
  z3:=Tryz.sizeOf3,
  v3:=Tryz.zeroValue3,
  t4:=Tryz.underlying4,
  a4:=Tryz.isAgg4,
  z4:=Tryz.sizeOf4,
  v4:=Tryz.zeroValue4,
  t5:=Tryz.underlying5,
  a5:=Tryz.isAgg5,
  z5:=Tryz.sizeOf5,
  v5:=Tryz.zeroValue5,
  t9:=Tryz.underlying9,
  a9:=Tryz.isAgg9,
  z9:=Tryz.sizeOf9,
  v9:=Tryz.zeroValue9,
  t25:=Tryz.underlying121,
  a25:=Tryz.isAgg121,
  z25:=Tryz.sizeOf121,
  v25:=Tryz.zeroValue121,
  t26:=Tryz.underlying9,
  a26:=Tryz.isAgg9,
  z26:=Tryz.sizeOf9,
  v26:=Tryz.zeroValue9,
  t44:=Tryz.underlying97,
  a44:=Tryz.isAgg97,
  z44:=Tryz.sizeOf97,
  v44:=Tryz.zeroValue97,
  t51:=Tryz.underlying323,
  a51:=Tryz.isAgg323,
  z51:=Tryz.sizeOf323,
  v51:=Tryz.zeroValue323,
  t60:=Tryz.underlying418,
  a60:=Tryz.isAgg418,
  z60:=Tryz.sizeOf418,
  v60:=Tryz.zeroValue418,
  t61:=Tryz.underlying419,
  a61:=Tryz.isAgg419,
  z61:=Tryz.sizeOf419,
  v61:=Tryz.zeroValue419,
  t67:=Tryz.underlying319,
  a67:=Tryz.isAgg319,
  z67:=Tryz.sizeOf319,
  v67:=Tryz.zeroValue319,
  t69:=Tryz.underlying43,
  a69:=Tryz.isAgg43,
  z69:=Tryz.sizeOf43,
  v69:=Tryz.zeroValue43,
  t75:=Tryz.underlying466,
  a75:=Tryz.isAgg466,
  z75:=Tryz.sizeOf466,
  v75:=Tryz.zeroValue466,
  t79:=Tryz.underlying469,
  a79:=Tryz.isAgg469,
  z79:=Tryz.sizeOf469,
  v79:=Tryz.zeroValue469,
  t83:=Tryz.underlying489,
  a83:=Tryz.isAgg489,
  z83:=Tryz.sizeOf489,
  v83:=Tryz.zeroValue489,
  t84:=Tryz.underlying490,
  a84:=Tryz.isAgg490,
  z84:=Tryz.sizeOf490,
  v84:=Tryz.zeroValue490 }
end Go.Proofs.YtnkfkabokmcgoaaGreatDoor
