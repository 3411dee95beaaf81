import Derived.Test.YtdigdgohdpeebaaGreatDoorQPW2
import Derived.DeepKeys
import Derived.Lib.MakeNoZero
import Derived.RangeFuncRecord
import Derived.RangeFuncIn
import GoSem.Extern.SlicesOverlaps
set_option linter.unusedSectionVars false
set_option linter.unusedSimpArgs false
set_option linter.unusedVariables false
set_option linter.defProp false
namespace Go.SL
def kz{α:Type}(p:α→Bool):List α→Int
 | [] => -1
 | x::l=>if p x then 0 else(if kz p l<0 then -1 else kz p l+1)
def Jb{α:Type}(p:α→Bool)(l:List α) : -1≤kz p l:=by
 induction l with
 | nil=>simp[kz]
 | cons x l ih=>simp only[kz];split;omega;split <;> omega
def qW{α:Type}{p:α→Bool}{l:List α}(h:∀x∈l,p x=false):kz p l = -1:=by
 induction l with
 | nil=>rfl
 | cons x l ih=>simp[kz,h x (by simp),ih (fun y hy=>h y (by simp[hy]))]
def nU{α:Type}{p:α→Bool}{l:List α}{i:Nat}{x:α}(hi:l[i]?=some x)(hx:p x=true)(hb:∀y∈l.take i,p y=false):kz p l=i:=by
 induction l generalizing i with
 | nil=>simp at hi
 | cons y l ih =>
  cases i with
  | zero=>simp at hi;subst hi;simp[kz,hx]
  | succ i =>
   simp at hi hb
   have:=ih hi hb.2
   simp only[kz,hb.1,Bool.false_eq_true,if_false,this]
   split <;> omega
def nV{α:Type}{p:α→Bool}{l:List α}:kz p l<0↔l.any p=false:=by
 induction l with
 | nil=>simp[kz]
 | cons x l ih =>
  have:=Jb p l
  simp only[kz,List.any_cons,Bool.or_eq_false_iff]
  cases hx:p x with
  | true=>simp
  | false =>
   simp only[Bool.false_eq_true,if_false,true_and]
   rw[← ih]
   split <;> omega
def Vw.cell{A:HP}{b o n cap:Nat}{cs:List Value}(h:Vw A (.slice (some ⟨b,o,none⟩) n cap) n cs){i:Nat}{c:Value}(hi:cs[i]?=some c):∀h,A h→dm h b (o+i)=some c:=by
 obtain⟨a,gQ,hv,h0|⟨b',o',ha,hc⟩⟩:=h
 ·subst h0;simp at hi
 ·simp only[Value.slice.injEq]at hv
  obtain⟨rfl,_,rfl⟩:=hv
  simp only[Option.some.injEq,Addr.mk.injEq,and_true]at ha
  obtain⟨rfl,rfl⟩:=ha
  exact fun h hA=>hc h hA i c hi
def Vw.shape{A:HP}{v:Value}{n:Nat}{cs:List Value}(h:Vw A v n cs):∃a cap,v = .slice a n cap:=by
 obtain⟨a,cap,hv,_⟩:=h;exact⟨a,cap,hv⟩
def Vw.some{A:HP}{v:Value}{n:Nat}{cs:List Value}(h:Vw A v n cs)(h0:cs≠[]):∃b o cap,v = .slice (some ⟨b,o,none⟩) n cap:=by
 obtain⟨a,cap,hv,h1|⟨b,o,ha,hc⟩⟩:=h
 ·exact absurd h1 h0
 ·exact⟨b,o,cap,by rw[hv,ha]⟩
def nC{bs:List UInt8}{i:Nat}{x:UInt8}(h:bs[i]?=some x):(bV bs)[i]?=some (u8 x):=by simp[bV,h]
def ao.qt(H:List HP):ao H (emp::H):=fun h hs=>⟨h,sub.refl h,eh (tm hs)⟩
def ao.join(A B:HP)(H:List HP):ao (A::B::H) (star A B::H):=fun h hs=>⟨h,sub.refl h,ko hs⟩
def ao.part(A B:HP)(H:List HP):ao (star A B::H) (A::B::H):=fun h hs=>⟨h,sub.refl h,kV hs⟩
def Vw.left{A B:HP}{v:Value}{n:Nat}{cs:List Value}(h:Vw A v n cs):Vw (star A B) v n cs:=h.mono fun _ hs=>km hs
def Vw.right{A B:HP}{v:Value}{n:Nat}{cs:List Value}(h:Vw B v n cs):Vw (star A B) v n cs:=h.mono fun _ hs=>xG hs
def Zc(x:UInt8):((x.toNat:Nat):Int)<256:=by have:=x.toNat_lt;omega
def M9{x y:UInt8}(h:(x.toNat:Int)=y.toNat):x=y:=UInt8.toNat_inj.1 ag
def e7{α β:Type}(q:α→β→Prop)(l:List α)(r:List β):Prop:=l.length=r.length∧∀(i:Nat) (x:α) (y:β),l[i]?=Option.some x→r[i]?=Option.some y→q x y
def e7.nil{α β:Type}{q:α→β→Prop}:e7 q [] []:=⟨rfl,fun i x y h=>by simp at h⟩
def e7.snoc{α β:Type}{q:α→β→Prop}{l:List α}{r:List β}{x:α}{y:β}(h:e7 q l r)(hq:q x y):e7 q (l++[x]) (r++[y]):=by
 obtain⟨hl,ha⟩:=h
 refine⟨by simp[hl],fun i u v hu hv=>?_⟩
 rcases Nat.lt_or_ge i l.length with h|h
 ·rw[List.getElem?_append_left h]at hu
  rw[List.getElem?_append_left ag]at hv
  exact ha i u v hu hv
 ·rw[List.getElem?_append_right h]at hu
  rw[List.getElem?_append_right ag]at hv
  have h0:i-l.length=0:=by
   rcases Nat.eq_zero_or_pos (i-l.length)with h|h
   ·exact h
   ·rw[List.getElem?_eq_none (by simp;omega)]at hu;cases hu
  rw[h0]at hu;rw[← hl,h0]at hv
  simp at hu hv;subst hu;subst hv;exact hq
def e7.cons{α β:Type}{q:α→β→Prop}{l:List α}{r:List β}{x:α}{y:β}(h:e7 q l r)(hq:q x y):e7 q (x::l) (y::r):=by
 obtain⟨hl,ha⟩:=h
 refine⟨by simp[hl],fun i u v hu hv=>?_⟩
 cases i with
 | zero=>simp at hu hv;subst hu;subst hv;exact hq
 | succ i=>exact ha i u v (by simpa using hu) (by simpa using hv)
def e7.one{α β:Type}{q:α→β→Prop}{x:α}{y:β}(hq:q x y):e7 q [x] [y]:=e7.nil.cons hq
def e7.mono{α β:Type}{q q':α→β→Prop}{l:List α}{r:List β}(h:e7 q l r)(hm:∀x y,q x y→q' x y):e7 q' l r:=⟨h.1,fun i x y hx hy=>hm x y (h.2 i x y hx hy)⟩
def e7.left{α β:Type}{q:α→β→Prop}{l:List α}{r:List β}(h:e7 q l r){i:Nat}{x:α}(hi:l[i]?=Option.some x):∃y,r[i]?=Option.some y∧q x y:=by
 have cW:i<l.length:=by
  rcases Nat.lt_or_ge i l.length with h|h
  ·exact h
  ·rw[List.getElem?_eq_none h]at hi;cases hi
 have:i<r.length:=by have:=h.1;omega
 exact⟨r[i],by simp[this],h.2 i x _ hi (by simp[this])⟩
def e7.right{α β:Type}{q:α→β→Prop}{l:List α}{r:List β}(h:e7 q l r){i:Nat}{y:β}(hi:r[i]?=Option.some y):∃x,l[i]?=Option.some x∧q x y:=by
 have cW:i<r.length:=by
  rcases Nat.lt_or_ge i r.length with h|h
  ·exact h
  ·rw[List.getElem?_eq_none h]at hi;cases hi
 have:i<l.length:=by have:=h.1;omega
 exact⟨l[i],by simp[this],h.2 i _ y (by simp[this]) hi⟩
def e7.set{α β:Type}{q:α→β→Prop}{l:List α}{r:List β}(h:e7 q l r)(i:Nat){x:α}{y:β}(hq:q x y):e7 q (l.set i x) (r.set i y):=by
 refine⟨by simp[h.1],fun j u v hu hv=>?_⟩
 rw[List.getElem?_set]at hu hv
 by_cases A6:i=j
 ·rw[if_pos A6]at hu hv
  split at hu
  ·split at hv
   ·cases hu;cases hv;exact hq
   ·cases hv
  ·cases hu
 ·rw[if_neg A6]at hu hv;exact h.2 j u v hu hv
def ao.to{H pre rest F T:List HP}(is:List Nat)(m:Nat)(h:tA is [] H [] = .mk pre rest)(hd:rest.drop m=F)(ht:pre++F=T):ao H T:=ht ▸ ao.fin is m h hd
def bO(e:TypeId)(size:Nat)(a:Option Addr)(H:List HP):ao H (az e size (.slice a 0 0) 0 []::H):=fun h hs=>⟨h,sub.refl h,fz (QT e size a) (fun _ h=>h) (eh (tm hs))⟩
def dR(e:TypeId)(size b:Nat)(n cap:Nat)(cs bR:List Value)(H:List HP)(hl:cs.length=n*size)(hn:n≤cap)(hc:cap*size≤cs.length+bR.length) :
  ao (ae b (cl (cs++bR) e)::H) (az e size (.slice (Option.some ⟨b,0,none⟩) n cap) n cs::H) :=
 ao.fold (B:=[_]) fun h hs=>⟨h,sub.refl h,hl,.inr ⟨b,0,cap,[],bR,rfl,rfl,hn,hc,eU hs⟩⟩
def uf{α:Type}{q:α→Prop}{l:List α}{i:Nat}{x:α}(hb:∀y∈l.take i,q y)(hi:l[i]?=Option.some x)(hx:q x):∀y∈l.take (i+1),q y:=by
 intro y hy
 have cW:i<l.length:=by
  rcases Nat.lt_or_ge i l.length with h|h
  ·exact h
  ·rw[List.getElem?_eq_none h]at hi;cases hi
 rw[List.take_succ_eq_append_getElem cW]at hy
 rcases List.mem_append.1 hy with h|h
 ·exact hb y h
 ·simp at h
  have:l[i]=x:=by simpa[cW]using hi
  rw[h,this];exact hx
def Er{L:fD}:∀t v,dT ([]:fD) t=Option.some v→dT L t=Option.some v:=fun _ _ h=>by cases h
def AT{L L':fD}{t0:Nat}{v0:Value}(h:dT L t0=Option.some v0)(hr:∀t v,dT L' t=Option.some v→dT L t=Option.some v):∀t v,dT ((t0,v0)::L') t=Option.some v→dT L t=Option.some v:=by
 intro t v e
 simp only[dT]at e
 cases hb:Nat.beq t0 t with
 | true=>rw[← Nat.eq_of_beq_eq_true hb,h];simpa[hb]using e
 | false=>exact hr t v (by simpa[hb]using e)
def aN{P:Program}{f:FuncId}{n:Nat}{R:Ending→World→Prop}{G:cI}{k:List Item}{L:fD}{H:List HP}{S:World→Prop}{all:Array Oper}{rest:Pl}{e:TypeId}{size nn:Nat}{v:Value}{cs:List Value}(i:Nat)(hi:cE H i=some (az e size v nn cs))(h:∀a c,v = .slice a nn c→J P f n R G S all rest k L H):J P f n R G S all rest k L H :=
 zA fun w hw=>by
  obtain⟨h0,_,hA⟩:=hw.lj hi
  obtain⟨_,⟨a,rfl,rfl,_⟩|⟨b,o,cap,pre,bR,rfl,_⟩⟩:=hA
  ·exact h _ _ rfl
  ·exact h _ _ rfl
def dg{P:Program}{f:FuncId}{n:Nat}{R:Ending→World→Prop}{G:cI}{k:List Item}{L:fD}{H:List HP}{e:TypeId}{size nn:Nat}{v:Value}{cs:List Value}(i:Nat)(hi:cE H i=some (az e size v nn cs))(h:∀a c,v = .slice a nn c→K P f n R G k L H):K P f n R G k L H :=
 rX fun⟨w,hw⟩=>by
  obtain⟨h0,_,hA⟩:=hw.lj hi
  obtain⟨_,⟨a,rfl,rfl,_⟩|⟨b,o,cap,pre,bR,rfl,_⟩⟩:=hA
  ·exact h _ _ rfl
  ·exact h _ _ rfl
def bN(old:List UInt8)(at_:Nat)(b:List UInt8):List UInt8 :=
 let o:=old++List.replicate (at_+b.length-old.length) 0
 o.take at_++b++o.drop (at_+b.length)
section
variable{P:Program}{U:Tr}[hU:fV P U]{f:FuncId}{n:Nat}{R:Ending→World→Prop}{G:cI}{k:List Item}{L:fD}{H H':List HP}{S:World→Prop}{all:Array Oper}{rest:Pl}{ty:TypeId}{pos:String}{af:Array Edge}{gd:Option (Nat × Bool)}{m:Bool}{d:Tmp}
def JW{e:TypeId}{sz nn:Nat}{v:Value}{cs:List Value}(i:Nat)(hi:cE H i=some (az e sz v nn cs))(h0:0<nn)(h:∀b o c,v = .slice (some ⟨b,o,none⟩) nn c→Vw (az e sz v nn cs) v nn cs→J P f n R G S all rest k L H):J P f n R G S all rest k L H :=
 zA fun w hw=>by
  obtain⟨h1,_,hA⟩:=hw.lj hi
  have hv:=Vw.oR e sz v nn cs ⟨h1,hA⟩
  obtain⟨_,⟨a,rfl,rfl,_⟩|⟨b,o,cap,pre,bR,rfl,_⟩⟩:=hA
  ·omega
  ·exact h _ _ _ rfl hv
def iw{e:TypeId}{sz nn:Nat}{v:Value}{cs:List Value}(i:Nat)(hi:cE H i=some (az e sz v nn cs))(h:Vw (az e sz v nn cs) v nn cs→J P f n R G S all rest k L H):J P f n R G S all rest k L H :=
 zA fun w hw=>by
  obtain⟨h1,_,hA⟩:=hw.lj hi
  exact h (Vw.oR e sz v nn cs ⟨h1,hA⟩)
def Qd{t:TypeId}{x:Operand}{b o off nn cap:Nat}{bQ:Ty}{c:Value}{A:HP}{cs:List Value}(i idx:Nat)(hd:Nat.blt d n=true)(hx:ev L x=some (.pointer (some ⟨b,off,none⟩)))(hi:cE H i=some A)(hv:Vw A (.slice (some ⟨b,o,none⟩) nn cap) nn cs)(ji:off=o+idx)(hc:cs[idx]?=some c)(ht:U.get t=some bQ)(hg:bQ.isAgg=false)(h:J P f n R G S all rest k ((d,c)::L) H):J P f n R G S all (.cons false true ⟨some d,.load t x,ty,pos,af,gd⟩ rest) k L H :=
 ur (U:=U) i hd (ji ▸ hx) hi (hv.cell hc) ht hg h
def Mr{Hs:List HP}{t:TypeId}{x:Operand}{b o off nn cap:Nat}{bQ:Ty}{c:Value}{A:HP}{cs:List Value}(i idx:Nat)(hd:Nat.blt d n=true)(hx:ev L x=some (.pointer (some ⟨b,off,none⟩)))(hi:cE Hs i=some A)(hv:Vw A (.slice (some ⟨b,o,none⟩) nn cap) nn cs)(ji:off=o+idx)(hc:cs[idx]?=some c)(ht:U.get t=some bQ)(hg:bQ.isAgg=false)(h:J P f n R G (fun w=>Sat G w Hs) all rest k ((d,c)::L) H):J P f n R G (fun w=>Sat G w Hs) all (.cons true true ⟨some d,.load t x,ty,pos,af,gd⟩ rest) k L H :=
 C2 (U:=U) hd (ji ▸ hx) (fun w hw=>by
  obtain⟨h,hh,hA⟩:=hw.lj hi
  exact dY hh (hv.cell hc h hA)) ht hg h
def wQ:∀(acc l:List Value),Cr acc l = .mk (acc.reverse++l)
 | [],l=>rfl
 | a::acc,l=>by simp only[Cr,wQ acc (a::l)];simp
def IQ(u:Value):∀(l acc:List Value) (off:Nat),off<l.length→nr acc off l [u] = .mk (acc.reverse++l.set off u):=by
 intro l
 induction l with
 | nil=>intro acc off h;simp at h
 | cons y l ih =>
  intro acc off h
  cases off with
  | zero =>
   simp only[nr]
   cases l <;> simp[wQ]
  | succ off=>simp only[nr];rw[ih _ _ (by simpa using h)];simp
def Nn{e:TypeId}{b o c nn:Nat}{cs:List Value}:∀h,az e 1 (.slice (some ⟨b,o,none⟩) nn c) nn cs h→0<nn→∃x:List Value × List Value,(x.1.length=o∧nn≤c∧c≤cs.length+x.2.length∧cs.length=nn)∧Sep [ae b (cl (x.1++cs++x.2) e)] h:=by
 rintro h⟨hl,⟨a,hv,rfl,_⟩|⟨b',o',cap,pre,bR,hv,hp,hn,hc,wM⟩⟩ h0
 ·omega
 ·simp only[Value.slice.injEq,Option.some.injEq,Addr.mk.injEq,and_true,true_and]at hv
  obtain⟨⟨rfl,rfl⟩,rfl⟩:=hv
  exact⟨(pre,bR),⟨hp,hn,by simpa using hc,by simpa using hl⟩,gk wM⟩
def Kl{e:TypeId}{b o c nn:Nat}{cs pre bR:List Value}(hp:pre.length=o)(hn:nn≤c)(hc:c≤cs.length+bR.length)(hl:cs.length=nn)(H:List HP) :
  ao (ae b (cl (pre++cs++bR) e)::H) (az e 1 (.slice (some ⟨b,o,none⟩) nn c) nn cs::H) :=
 ao.fold (B:=[_]) fun h hs=>⟨h,sub.refl h,by simpa using hl,.inr ⟨b,o,c,pre,bR,rfl,hp,hn,by simpa using hc,eU hs⟩⟩
def Io{t:TypeId}{x y:Operand}{b o q c nn:Nat}{bQ:Ty}{u:Value}{e:TypeId}{cs:List Value}(i:Nat)(hS:∀w,Sat G w H'→Sx rest S w)(hx:ev L x=some (.pointer (some ⟨b,o+q,none⟩)))(hy:ev L y=some u)(ht:U.get t=some bQ)(iY:Nat.beq bQ.info.size 1=true)(hc:bo u=[u])(gI:iL [u]=true)(hi:cE H i=some (az e 1 (.slice (some ⟨b,o,none⟩) nn c) nn cs))(hq:q<nn)(hp:lL i (az e 1 (.slice (some ⟨b,o,none⟩) nn c) nn (cs.set q u)) H [] = .mk H')(h:J P f n R G S all rest k L H'):J P f n R G S all (.cons false true ⟨none,.store t x y,ty,pos,af,gd⟩ rest) k L H:=by
 refine aI (ao.perm (di (by rw[← dI];exact hi))) ?_
 refine Ir (B:=fun x:List Value × List Value=>[ae b (cl (x.1++cs++x.2) e)]) (fun h hs=>Nn h hs ag) ?_
 rintro⟨pre,bR⟩⟨h1,h2,h3,h4⟩
 simp only at h1 h2 h3 h4
 have iq:(pre++cs++bR).set (o+q) u=pre++cs.set q u++bR:=by
  rw[List.append_assoc,List.set_append_right _ _ ag,show o+q-pre.length=q by omega,List.set_append_left _ _ ag,List.append_assoc]
 have hE:ao (ae b (cl (pre++cs.set q u++bR) e)::H.eraseIdx i) H':=by
  have h5:=oO i _ _ H [] H' hp hi
  exact(Kl h1 h2 (by rw[List.length_set];exact h3) (by rw[List.length_set];exact h4) _).trans (ao.perm (by simpa using h5.symm))
 refine eV (U:=U) (l':=pre++cs.set q u++bR) 0 (fun w hw=>hS w (hw.cN hE)) hx hy ht (by rw[hc,Nat.eq_of_beq_eq_true iY];rfl) (by rw[hc];rfl) (by rw[hc];exact gI) rfl ?_ rfl (aI hE h)
 rw[hc,IQ _ _ _ _ (by simp;omega),← iq]
 rfl
def Kb{z:Int}(h0:0≤z)(h1:z<256):∃y:UInt8,Value.int .u8 z=u8 y:=⟨UInt8.ofNat z.toNat,by
  simp only[u8,UInt8.toNat_ofNat']
  congr 1
  omega⟩
def H6(l:List UInt8)(i:Nat)(y:UInt8):(bV l).set i (u8 y)=bV (l.set i y):=by simp[bV,List.map_set]
end
def aE.post{P:Program}{f:FuncId}{args:List Value}{Pre:List HP}{Post we:Value→List HP→Prop}(c:aE P f args Pre Post)(h:∀v H,Post v H→we v H):aE P f args Pre we :=
 ⟨c.1,fun G w F hw=>(c.2 G w F hw).mono fun e w' h'=>let ⟨v,H,he,hp,hs⟩:=h';⟨v,H,he,h v H hp,hs⟩⟩
def aE.pre{P:Program}{f:FuncId}{args:List Value}{Pre PY:List HP}{Post:Value→List HP→Prop}(c:aE P f args Pre Post)(h:ao PY Pre):aE P f args PY Post :=
 ⟨c.1,fun G w F hw=>c.2 G w F (hw.cN (ao.append F h))⟩
structure Yx(A:Prop):Prop where
 out:A
def cm{p:Prop}(h:p:=by repeat(first|exact Er|refine AT rfl ?_)):p:=h
end Go.SL
namespace Go.SL
section
variable{P:Program}{U:Tr}[hU:fV P U]{f:FuncId}{n:Nat}{R:Ending→World→Prop}{G:cI}{k:List Item}{L:fD}{H H':List HP}{S:World→Prop}{all:Array Oper}{rest:Pl}{ty:TypeId}{pos:String}{af:Array Edge}{gd:Option (Nat × Bool)}{m:Bool}{d:Tmp}
def zB{t:TypeId}{x:Operand}{b off:Nat}{bQ:Ty}{cs:List Value}(hd:Nat.blt d n=true)(hx:ev L x=some (.pointer (some ⟨b,off,none⟩)))(ht:U.get t=some bQ)(hg:bQ.isAgg=true)(hl:Nat.beq cs.length bQ.info.size=true)(hc:∀w,Sat G w H→∀j v,cs[j]?=some v→w.cell? ⟨b,off+j,none⟩=some v)(h:J P f n R G S all rest k ((d,.agg cs.toArray)::L) H):J P f n R G S all (.cons false true ⟨some d,.load t x,ty,pos,af,gd⟩ rest) k L H :=
 kL hd (fun a w ha hw=>by
  simp[execOp,ha.ev hx,iG (P:=P) ht hg (Nat.eq_of_beq_eq_true hl) (hc w hw)]) h
def cR{t:TypeId}{x:Operand}{b o off nn cap:Nat}{bQ:Ty}{es cs:List Value}{A:HP}(i idx:Nat)(hd:Nat.blt d n=true)(hx:ev L x=some (.pointer (some ⟨b,off,none⟩)))(hi:cE H i=some A)(hv:Vw A (.slice (some ⟨b,o,none⟩) nn cap) nn cs)(ji:off=o+idx)(rC:∀j v,es[j]?=some v→cs[idx+j]?=some v)(ht:U.get t=some bQ)(hg:bQ.isAgg=true)(hl:Nat.beq es.length bQ.info.size=true)(h:J P f n R G S all rest k ((d,.agg es.toArray)::L) H):J P f n R G S all (.cons false true ⟨some d,.load t x,ty,pos,af,gd⟩ rest) k L H :=
 zB (U:=U) hd hx ht hg hl (fun w hw j v hj=>by
  obtain⟨h,hh,hA⟩:=hw.lj hi
  have:=hv.cell (rC j v hj) h hA
  rw[ji,show o+idx+j=o+(idx+j) by omega]
  exact dY hh this) h
def Kw:∀(l vs acc:List Value) (off:Nat),off+vs.length≤l.length→nr acc off l vs = .mk (acc.reverse++(l.take off++vs++l.drop (off+vs.length))):=by
 intro l
 induction l with
 | nil =>
  intro vs acc off h
  simp only[List.length_nil]at h
  have h1:off=0:=by omega
  have h2:vs=[]:=List.eq_nil_of_length_eq_zero ag
  subst h1 h2
  simp[nr,wQ]
 | cons y l ih =>
  intro vs acc off h
  cases vs with
  | nil=>cases off <;> simp[nr,wQ]
  | cons v vs =>
   cases off with
   | zero =>
    simp only[nr]
    rw[ih vs _ 0 (by simp at h ⊢;omega)]
    simp
   | succ off =>
    simp only[nr]
    rw[ih (v::vs) _ off (by simp at h ⊢;omega)]
    simp[show off+1+(vs.length+1)=off+(vs.length+1)+1 by omega]
def kK{t:TypeId}{x y:Operand}{b off:Nat}{bQ:Ty}{l l':List Value}{e:TypeId}{v:Value}(i:Nat)(hS:∀w,Sat G w H'→Sx rest S w)(hx:ev L x=some (.pointer (some ⟨b,off,none⟩)))(hy:ev L y=some v)(ht:U.get t=some bQ)(iY:Nat.beq (bo v).length bQ.info.size=true)(bZ:Nat.beq (bo v).length 0=false)(gI:iL (bo v)=true)(hi:cE H i=some (ae b (cl l e)))(yC:off+(bo v).length≤l.length)(hl:l'=l.take off++bo v++l.drop (off+(bo v).length))(hp:lL i (ae b (cl l' e)) H [] = .mk H')(h:J P f n R G S all rest k L H'):J P f n R G S all (.cons false true ⟨none,.store t x y,ty,pos,af,gd⟩ rest) k L H :=
 eV (U:=U) i hS hx hy ht iY bZ gI hi (by rw[Kw _ _ _ _ yC,hl];rfl) hp h
def sM{e:TypeId}{sz nn:Nat}{v:Value}{cs:List Value}{H:List HP}(h0:∀a,v = .slice a 0 0→nn=0→cs=[]→K P f n R G k L H)(h1:∀b o c pre bR,v = .slice (some ⟨b,o,none⟩) nn c→pre.length=o→nn≤c→c*sz≤cs.length+bR.length→cs.length=nn*sz→K P f n R G k L (ae b (cl (pre++cs++bR) e)::H)) :
  K P f n R G k L (az e sz v nn cs::H):=by
 intro a w ha hw
 obtain⟨t,o,u,hp,Ht,hA,hB,⟨hl,iJ⟩,XY,hd,he⟩:=hw
 rcases iJ with⟨a0,hv,hn,EO⟩|⟨b,oo,cap,pre,bR,hv,mV,hn,hc,wM⟩
 ·refine h0 a0 hv hn (List.eq_nil_of_length_eq_zero (by rw[hl,hn];simp)) a w ha ⟨t,o,u,hB,fun x y wm=>?_,XY⟩
  exact Ht x y (by rw[he x];rw[EO x];simpa using wm)
 ·exact h1 b oo cap pre bR hv mV hn hc hl a w ha ⟨t,o,u,hp,Ht,hA,hB,wM,XY,hd,he⟩
end
def cP{α:Type}{g:α→List Value}{s:Nat}(hs:∀x,(g x).length=s){l:List α}{i:Nat}{x:α}(h:l[i]?=some x)(j:Nat)(hj:j<s):(l.flatMap g)[i*s+j]?=(g x)[j]? := by
 induction l generalizing i with
 | nil=>simp at h
 | cons y l ih =>
  have hy:=hs y
  rw[List.flatMap_cons]
  cases i with
  | zero=>simp at h;subst h;rw[List.getElem?_append_left ag];simp
  | succ i =>
   simp at h
   have e:(i+1)*s=i*s+s:=by rw[Nat.add_mul,Nat.one_mul]
   rw[List.getElem?_append_right ag,hy,show(i+1)*s+j-s=i*s+j by omega,ih h]
def cu{α:Type}{g:α→List Value}{s:Nat}(hs:∀x,(g x).length=s)(l:List α):(l.flatMap g).length=l.length*s:=by
 induction l with
 | nil=>simp
 | cons y l ih=>rw[List.flatMap_cons,List.length_append,ih,hs,List.length_cons,Nat.add_mul,Nat.one_mul];omega
def vk{α:Type}{g:α→List Value}{s:Nat}(hs:∀x,(g x).length=s){l:List α}{i:Nat}(hi:i<l.length)(x:α):(l.set i x).flatMap g=(l.flatMap g).take (i*s)++g x++(l.flatMap g).drop (i*s+s):=by
 induction l generalizing i with
 | nil=>simp at hi
 | cons y l ih =>
  have hy:=hs y
  cases i with
  | zero =>
   rw[List.set_cons_zero,List.flatMap_cons,List.flatMap_cons,Nat.zero_mul,List.take_zero,List.nil_append,Nat.zero_add]
   rw[← hy,List.drop_left]
  | succ i =>
   have e:(i+1)*s=s+i*s:=by rw[Nat.add_mul,Nat.one_mul];omega
   rw[List.set_cons_succ,List.flatMap_cons,List.flatMap_cons,ih (by simpa using hi),e,← hy,List.take_length_add_append,show(g y).length+i*(g y).length+(g y).length=(g y).length+(i*(g y).length+(g y).length) by omega,List.drop_length_add_append]
   simp
def l7{e:TypeId}{sz b o c nn:Nat}{cs pre bR:List Value}(hp:pre.length=o)(hn:nn≤c)(hc:c*sz≤cs.length+bR.length)(hl:cs.length=nn*sz)(H:List HP) :
  ao (ae b (cl (pre++cs++bR) e)::H) (az e sz (.slice (some ⟨b,o,none⟩) nn c) nn cs::H) :=
 ao.fold (B:=[_]) fun h hs=>⟨h,sub.refl h,hl,.inr ⟨b,o,c,pre,bR,rfl,hp,hn,hc,eU hs⟩⟩
def ys{α:Type}{p:α→Bool}{l:List α}(h:¬kz p l = -1):∃(i:Nat) (x:α),kz p l=i∧l[i]?=Option.some x∧p x=true∧∀y∈l.take i,p y=false:=by
 have hex:∃(i:Nat) (x:α),l[i]?=Option.some x∧p x=true∧∀y∈l.take i,p y=false:=by
  have mq:l.any p=true:=by
   cases ha:l.any p with
   | true=>rfl
   | false =>
    have h1:=nV.2 ha
    have h2:=Jb p l
    omega
  clear h
  induction l with
  | nil=>simp at mq
  | cons y l ih =>
   cases hy:p y with
   | true=>exact⟨0,y,by simp,hy,by simp⟩
   | false =>
    simp only[List.any_cons,hy,Bool.false_or]at mq
    obtain⟨i,x,h1,h2,h3⟩:=ih mq
    refine⟨i+1,x,by simpa using h1,h2,fun z hz=>?_⟩
    rw[List.take_succ_cons]at hz
    rcases List.mem_cons.1 hz with rfl|hz
    ·exact hy
    ·exact h3 z hz
 obtain⟨i,x,h1,h2,h3⟩:=hex
 exact⟨i,x,nU h1 h2 h3,h1,h2,h3⟩
def oJ(pre W bR vs:List Value)(q:Nat)(h:q+vs.length≤W.length):(pre++W++bR).take (pre.length+q)++vs++(pre++W++bR).drop (pre.length+q+vs.length)=pre++(W.take q++vs++W.drop (q+vs.length))++bR:=by
 rw[List.append_assoc pre W bR,List.take_length_add_append,Nat.add_assoc,List.drop_length_add_append,List.take_append_of_le_length ag,List.drop_append_of_le_length ag]
 simp only[List.append_assoc]
def HW{α:Type}{g:α→List Value}{s:Nat}(hs:∀x,(g x).length=s)(l:List α)(i:Nat)(hi:i≤l.length):(l.take i).flatMap g=(l.flatMap g).take (i*s):=by
 have h1:l.flatMap g=(l.take i).flatMap g++(l.drop i).flatMap g:=by rw[← List.flatMap_append,List.take_append_drop]
 have h2:((l.take i).flatMap g).length=i*s:=by rw[cu hs,List.length_take,Nat.min_eq_left hi]
 rw[h1,← h2,List.take_left]
def mw(n:Nat)(x:List Value):(List.replicate n x).flatten.length=n*x.length:=by
 induction n with
 | zero=>simp
 | succ n ih=>rw[List.replicate_succ,List.flatten_cons,List.length_append,ih,Nat.add_mul,Nat.one_mul];omega
def pg(x n:Nat)(hx:x<9223372036854775808)(hn:n<63):IntKind.i64.wrap ((BitVec.ofInt IntKind.i64.bits (x:Int) &&& BitVec.ofInt IntKind.i64.bits ((2 ^ n-1:Nat):Int)).toNat:Int)=((x%2 ^ n:Nat):Int):=by
 have e1:(BitVec.ofInt IntKind.i64.bits (x:Int)).toNat=x:=by
  rw[BitVec.toNat_ofInt]
  have:IntKind.i64.bits=64:=rfl
  rw[this]
  omega
 have hp:2 ^ n<2 ^ 63:=Nat.pow_lt_pow_right ag hn
 have lA:0<2 ^ n:=Nat.pow_pos ag
 have e2:(BitVec.ofInt IntKind.i64.bits ((2 ^ n-1:Nat):Int)).toNat=2 ^ n-1:=by
  rw[BitVec.toNat_ofInt]
  have:IntKind.i64.bits=64:=rfl
  rw[this]
  omega
 rw[BitVec.toNat_and,e1,e2,Nat.and_two_pow_sub_one_eq_mod]
 have cW:x%2 ^ n<9223372036854775808:=Nat.lt_of_le_of_lt (Nat.mod_le _ _) hx
 exact cQ (by simp only[gn];omega)
def H7(x:Nat)(hx:x<256):IntKind.u8.wrap ((BitVec.ofInt IntKind.u8.bits (x:Int) &&& BitVec.ofInt IntKind.u8.bits 1).toNat:Int)=((x%2:Nat):Int):=by
 have e1:(BitVec.ofInt IntKind.u8.bits (x:Int)).toNat=x:=by
  rw[BitVec.toNat_ofInt]
  have:IntKind.u8.bits=8:=rfl
  rw[this]
  omega
 have e2:(BitVec.ofInt IntKind.u8.bits (1:Int)).toNat=2 ^ 1-1:=by decide
 rw[BitVec.toNat_and,e1,e2,Nat.and_two_pow_sub_one_eq_mod]
 exact cQ (by simp only[gn];omega)
end Go.SL
namespace Go.SL
open Go
abbrev jt:=BitVec 32
def u32(x:jt):Value := .int .u32 (x.toNat:Int)
def wV(l:List jt):List Value:=l.map u32
def lx(l:List jt):(wV l).length=l.length:=by simp[wV]
def iC{l:List jt}{i:Nat}{x:jt}(h:l[i]?=some x):(wV l)[i]?=some (u32 x):=by simp[wV,h]
def xk(l:List jt)(i:Nat)(x:jt):(wV l).set i (u32 x)=wV (l.set i x):=by simp[wV]
def wB(c:UInt8):jt:=BitVec.ofNat 32 c.toNat
def rZ(c:UInt8):(wB c).toNat=c.toNat:=by
 have:=c.toNat_lt
 simp only[wB,BitVec.toNat_ofNat]
 omega
def wrap32(n:Nat):IntKind.u32.wrap (n:Int)=((n%4294967296:Nat):Int):=by
 simp[IntKind.wrap,IntKind.bits,IntKind.signed]
def ofInt32(p:jt):BitVec.ofInt IntKind.u32.bits ((p.toNat:Nat):Int)=p:=by
 apply BitVec.eq_of_toNat_eq
 have h:IntKind.u32.bits=32:=rfl
 rw[BitVec.toNat_ofInt]
 have:=p.isLt
 show(((p.toNat:Nat):Int)%((2 ^ 32:Nat):Int)).toNat=p.toNat
 omega
section
variable{P:Program}{U:Tr}[hU:fV P U]{f:FuncId}{n:Nat}{R:Ending→World→Prop}{G:cI}{k:List Item}{L:fD}{H H':List HP}{S:World→Prop}{all:Array Oper}{rest:Pl}{ty:TypeId}{pos:String}{af:Array Edge}{gd:Option (Nat × Bool)}{m:Bool}{d:Tmp}
def j4{t yt:TypeId}{x y:Operand}{p q:jt}(hd:Nat.blt d n=true)(hx:ev L x=some (.int .u32 (p.toNat:Int)))(hy:ev L y=some (.int .u32 (q.toNat:Int)))(h:J P f n R G S all rest k ((d,.int .u32 ((p+q).toNat:Int))::L) H):J P f n R G S all (.cons m true ⟨some d,.binOp .add t x y yt,ty,pos,af,gd⟩ rest) k L H:=by
 refine Iu hd hx hy ?_
 have e:IntKind.u32.wrap ((p.toNat:Int)+(q.toNat:Int))=((p+q).toNat:Int):=by
  rw[← Int.natCast_add,wrap32,BitVec.toNat_add]
 rw[e];exact h
def Is{t yt:TypeId}{x y:Operand}{p q:jt}(hd:Nat.blt d n=true)(hx:ev L x=some (.int .u32 (p.toNat:Int)))(hy:ev L y=some (.int .u32 (q.toNat:Int)))(h:J P f n R G S all rest k ((d,.int .u32 ((p*q).toNat:Int))::L) H):J P f n R G S all (.cons m true ⟨some d,.binOp .mul t x y yt,ty,pos,af,gd⟩ rest) k L H:=by
 refine Yu hd hx hy ?_
 have e:IntKind.u32.wrap ((p.toNat:Int)*(q.toNat:Int))=((p*q).toNat:Int):=by
  rw[← Int.natCast_mul,wrap32,BitVec.toNat_mul]
 rw[e];exact h
def qG(p:jt):IntKind.u32.wrap (p.toNat:Int)=(p.toNat:Int):=by
 rw[wrap32];have:=p.isLt;congr 1;omega
def je{t yt:TypeId}{x y:Operand}{p q:jt}(hd:Nat.blt d n=true)(hx:ev L x=some (.int .u32 (p.toNat:Int)))(hy:ev L y=some (.int .u32 (q.toNat:Int)))(h:J P f n R G S all rest k ((d,.int .u32 ((p ^^^ q).toNat:Int))::L) H):J P f n R G S all (.cons m true ⟨some d,.binOp .xor t x y yt,ty,pos,af,gd⟩ rest) k L H :=
 du hd (fun a ha w=>by
  have e:IntKind.u32.wrap ((BitVec.ofInt IntKind.u32.bits (p.toNat:Int) ^^^ BitVec.ofInt IntKind.u32.bits (q.toNat:Int)).toNat:Int)=((p ^^^ q).toNat:Int):=by rw[ofInt32,ofInt32];exact qG (p ^^^ q)
  simp[execOp,ha.ev hx,ha.ev hy,eqGuard,binOp,Op.intBits]
  simpa using e) h
def C3{t yt:TypeId}{x y:Operand}{p q:jt}(hd:Nat.blt d n=true)(hx:ev L x=some (.int .u32 (p.toNat:Int)))(hy:ev L y=some (.int .u32 (q.toNat:Int)))(h:J P f n R G S all rest k ((d,.int .u32 ((p &&& q).toNat:Int))::L) H):J P f n R G S all (.cons m true ⟨some d,.binOp .and t x y yt,ty,pos,af,gd⟩ rest) k L H :=
 du hd (fun a ha w=>by
  have e:IntKind.u32.wrap ((BitVec.ofInt IntKind.u32.bits (p.toNat:Int) &&& BitVec.ofInt IntKind.u32.bits (q.toNat:Int)).toNat:Int)=((p &&& q).toNat:Int):=by rw[ofInt32,ofInt32];exact qG (p &&& q)
  simp[execOp,ha.ev hx,ha.ev hy,eqGuard,binOp,Op.intBits]
  simpa using e) h
def FO{t yt:TypeId}{x y:Operand}{p q:jt}(hd:Nat.blt d n=true)(hx:ev L x=some (.int .u32 (p.toNat:Int)))(hy:ev L y=some (.int .u32 (q.toNat:Int)))(h:J P f n R G S all rest k ((d,.int .u32 ((p ||| q).toNat:Int))::L) H):J P f n R G S all (.cons m true ⟨some d,.binOp .or t x y yt,ty,pos,af,gd⟩ rest) k L H :=
 du hd (fun a ha w=>by
  have e:IntKind.u32.wrap ((BitVec.ofInt IntKind.u32.bits (p.toNat:Int) ||| BitVec.ofInt IntKind.u32.bits (q.toNat:Int)).toNat:Int)=((p ||| q).toNat:Int):=by rw[ofInt32,ofInt32];exact qG (p ||| q)
  simp[execOp,ha.ev hx,ha.ev hy,eqGuard,binOp,Op.intBits]
  simpa using e) h
def qA{t yt:TypeId}{x y:Operand}{p:jt}{j':IntKind}{q:Int}(s:Nat)(hd:Nat.blt d n=true)(hx:ev L x=some (.int .u32 (p.toNat:Int)))(hy:ev L y=some (.int j' q))(hq:q=(s:Int))(hs:s≤32)(h:J P f n R G S all rest k ((d,.int .u32 ((p >>> s).toNat:Int))::L) H):J P f n R G S all (.cons m true ⟨some d,.binOp .shr t x y yt,ty,pos,af,gd⟩ rest) k L H:=by
 subst hq
 refine jo hd hx hy ag ?_
 have e:(p.toNat:Int)/2 ^ (min ((s:Int).toNat) IntKind.u32.bits)=((p >>> s).toNat:Int):=by
  rw[BitVec.toNat_ushiftRight,Nat.shiftRight_eq_div_pow,Int.toNat_natCast,show min s IntKind.u32.bits=s from by show min s 32=s;omega]
  simp
 rw[e];exact h
def Iq{t yt:TypeId}{x y:Operand}{p:jt}{j':IntKind}{q:Int}(s:Nat)(hd:Nat.blt d n=true)(hx:ev L x=some (.int .u32 (p.toNat:Int)))(hy:ev L y=some (.int j' q))(hq:q=(s:Int))(hs:s≤32)(h:J P f n R G S all rest k ((d,.int .u32 ((p <<< s).toNat:Int))::L) H):J P f n R G S all (.cons m true ⟨some d,.binOp .shl t x y yt,ty,pos,af,gd⟩ rest) k L H:=by
 subst hq
 refine mK hd hx hy ag ?_
 have e:IntKind.u32.wrap ((p.toNat:Int)*2 ^ (min ((s:Int).toNat) IntKind.u32.bits))=((p <<< s).toNat:Int):=by
  rw[BitVec.toNat_shiftLeft,Nat.shiftLeft_eq,Int.toNat_natCast,show min s IntKind.u32.bits=s from by show min s 32=s;omega]
  rw[show(p.toNat:Int)*2 ^ s=((p.toNat*2 ^ s:Nat):Int)from by simp,wrap32]
 rw[e];exact h
def Yr{t:TypeId}{x:Operand}{p:jt}(hd:Nat.blt d n=true)(hx:ev L x=some (.int .u32 (p.toNat:Int)))(h:J P f n R G S all rest k ((d,.int .u32 ((~~~p).toNat:Int))::L) H):J P f n R G S all (.cons m true ⟨some d,.unOp .xor t x,ty,pos,af,gd⟩ rest) k L H :=
 du hd (fun a ha w=>by
  have e:IntKind.u32.wrap ((BitVec.ofInt IntKind.u32.bits IntKind.u32.max ^^^ BitVec.ofInt IntKind.u32.bits (p.toNat:Int)).toNat:Int)=((~~~p).toNat:Int):=by
   rw[ofInt32]
   have e1:BitVec.ofInt 32 4294967295 ^^^ p = ~~~p:=by rw[show BitVec.ofInt 32 4294967295=BitVec.allOnes 32 from by decide];exact BitVec.allOnes_xor
   exact(congrArg (fun z:BitVec 32=>IntKind.u32.wrap (z.toNat:Int)) e1).trans (qG (~~~p))
  simp only[execOp,ha.ev hx,Sem.run_bind,Result.andThen_ok,Op.unary,IntKind.signed,Bool.false_eq_true,if_false,Op.intBits]
  simp
  simpa using e) h
def qz{src dst:TypeId}{ts td:Ty}{x:Operand}{j':IntKind}{c:UInt8}(hd:Nat.blt d n=true)(hx:ev L x=some (.int .u8 (c.toNat:Int)))(hs:U.get src=some ts)(Ey:ts.gy = .int j')(ES:U.get dst=some td)(ER:td.gy = .int .u32)(h:J P f n R G S all rest k ((d,.int .u32 ((wB c).toNat:Int))::L) H):J P f n R G S all (.cons m true ⟨some d,.convert src dst x,ty,pos,af,gd⟩ rest) k L H:=by
 refine zE hd hx hs Ey ES ER (by have:=c.toNat_lt;simp only[gn];omega) ?_
 rw[rZ]at h;exact h
def Bx{src dst:TypeId}{ts td:Ty}{x:Operand}{j':IntKind}{p:jt}(hd:Nat.blt d n=true)(hx:ev L x=some (.int .u32 (p.toNat:Int)))(hs:U.get src=some ts)(Ey:ts.gy = .int j')(ES:U.get dst=some td)(ER:td.gy = .int .u8)(h:J P f n R G S all rest k ((d,u8 (UInt8.ofNat p.toNat))::L) H):J P f n R G S all (.cons m true ⟨some d,.convert src dst x,ty,pos,af,gd⟩ rest) k L H:=by
 refine J1 hd hx hs Ey ES ER ?_
 have e:Value.int .u8 (IntKind.u8.wrap (p.toNat:Int))=u8 (UInt8.ofNat p.toNat):=by
  simp[u8,IntKind.wrap,IntKind.bits,IntKind.signed]
 rw[e];exact h
end
end Go.SL
namespace Go.SL
open Go
structure Dg where
 bs:List UInt8
 len:bs.length=32
deriving DecidableEq
def Dg.at(x:Dg)(i:Nat):UInt8:=x.bs.getD i 0
def Dg.zero:Dg:=⟨List.replicate 32 0,by simp⟩
instance:Inhabited Dg:=⟨Dg.zero⟩
def dC(x:Dg):List Value :=
  [u8 (x.at 0),u8 (x.at 1),u8 (x.at 2),u8 (x.at 3),u8 (x.at 4),u8 (x.at 5),u8 (x.at 6),u8 (x.at 7),u8 (x.at 8),u8 (x.at 9),u8 (x.at 10),u8 (x.at 11),u8 (x.at 12),u8 (x.at 13),u8 (x.at 14),u8 (x.at 15),
   u8 (x.at 16),u8 (x.at 17),u8 (x.at 18),u8 (x.at 19),u8 (x.at 20),u8 (x.at 21),u8 (x.at 22),u8 (x.at 23),u8 (x.at 24),u8 (x.at 25),u8 (x.at 26),u8 (x.at 27),u8 (x.at 28),u8 (x.at 29),u8 (x.at 30),u8 (x.at 31)]
def cT(x:Dg):(dC x).length=32:=rfl
def dz(x:Dg):dC x=bV x.bs:=by
 have h1:x.bs=(List.range 32).map (fun i=>x.at i):=by
  apply List.ext_getElem?
  intro i
  rcases Nat.lt_or_ge i 32 with h|h
  ·rw[List.getElem?_map,List.getElem?_range h]
   simp only[Dg.at,Option.map_some,List.getD_eq_getElem?_getD]
   rw[List.getElem?_eq_getElem (by rw[x.len];exact h)];rfl
  ·rw[List.getElem?_eq_none (by rw[x.len];exact h),List.getElem?_eq_none (by simpa using h)]
 conv=>rhs;rw[h1]
 rfl
def QM{a b:UInt8}(h:u8 a=u8 b):a=b:=by
 simp only[u8,Value.int.injEq,true_and,Int.natCast_inj]at h
 exact UInt8.toNat.inj h
def Yj{a b:List UInt8}(h:bV a=bV b):a=b:=by
 induction a generalizing b with
 | nil=>cases b with
  | nil=>rfl
  | cons y b=>simp[bV]at h
 | cons x a ih=>cases b with
  | nil=>simp[bV]at h
  | cons y b =>
   simp only[bV,List.map_cons,List.cons.injEq]at h
   rw[QM h.1,ih h.2]
def X9{a b:Dg}(h:dC a=dC b):a=b:=by
 rw[dz,dz]at h
 have:=Yj h
 cases a;cases b;simp_all
section
variable{P:Program}
def HO{e:TypeId}(he:P.underlying e=some (.int .u8))(hc:P.cellsOf e=1)(d:Nat)(a b:List UInt8)(hl:a.length=b.length)(w:World):∀is:List Nat,(∀i∈is,i<a.length) →
  (Op.eqItems (d+1) e (P.cellsOf e) (bV a).toArray (bV b).toArray is).run P w = .ok (decide (∀i∈is,a[i]?=b[i]?)) w:=by
 intro is
 induction is with
 | nil=>intro _;simp[Op.eqItems]
 | cons i is ih =>
  intro hi
  have Gh:P.plainKey e=true:=by unfold Program.plainKey;rw[he]
  have Gi:=hi i (List.mem_cons_self ..)
  have h1:(bV a).toArray[i*P.cellsOf e]?=some (u8 (a[i]'Gi)):=by rw[hc,Nat.mul_one];simp[bV,Gi]
  have h2:(bV b).toArray[i*P.cellsOf e]?=some (u8 (b[i]'(hl ▸ Gi))):=by rw[hc,Nat.mul_one];simp[bV,hl ▸ Gi]
  simp only[Op.eqItems,Sem.run_bind,run_part_plain w Gh h1,run_part_plain w Gh h2,Result.andThen_ok]
  have h3:(Op.equalIn (d+1) e (u8 (a[i]'Gi)) (u8 (b[i]'(hl ▸ Gi)))).run P w = .ok (decide (a[i]'Gi=b[i]'(hl ▸ Gi))) w:=by
   simp only[Op.equalIn,Sem.run_bind,Go.run_underlying he,Result.andThen_ok,u8,if_true,Sem.run_pure]
   congr 1
   rw[Bool.eq_iff_iff]
   simp only[beq_iff_eq,decide_eq_true_iff]
   constructor
   ·intro h;exact UInt8.toNat.inj ag
   ·intro h;rw[h]
  rw[h3]
  simp only[Result.andThen_ok]
  have h4:(a[i]?=b[i]?)↔a[i]'Gi=b[i]'(hl ▸ Gi):=by
   rw[List.getElem?_eq_getElem Gi,List.getElem?_eq_getElem (hl ▸ Gi),Option.some.injEq]
  by_cases h5:a[i]'Gi=b[i]'(hl ▸ Gi)
  ·rw[decide_eq_true h5]
   simp only[Bool.not_true,Bool.false_eq_true,if_false]
   rw[ih fun j hj=>hi j (List.mem_cons_of_mem _ hj)]
   congr 1
   rw[Bool.eq_iff_iff,decide_eq_true_iff,decide_eq_true_iff]
   constructor
   ·intro h j hj
    rcases List.mem_cons.1 hj with rfl|hj
    ·exact h4.2 h5
    ·exact h j hj
   ·exact fun h j hj=>h j (List.mem_cons_of_mem _ hj)
  ·rw[decide_eq_false h5]
   simp only[Bool.not_false,if_true,Sem.run_pure]
   congr 1
   rw[eq_comm,decide_eq_false_iff_not]
   exact fun h=>h5 (h4.1 (h i (List.mem_cons_self ..)))
def GP{t e:TypeId}{n:Nat}{a b:List UInt8}(ht:P.underlying t=some (.array n e))(he:P.underlying e=some (.int .u8))(hc:P.cellsOf e=1)(ha:a.length=n)(hb:b.length=n)(d:Nat)(w:World) :
  (Op.equalIn (d+2) t (.agg (bV a).toArray) (.agg (bV b).toArray)).run P w = .ok (decide (a=b)) w:=by
 obtain⟨i,hi⟩:=info_of_underlying he
 rw[run_equalIn_array w (d+1) _ _ ht hi,HO he hc d a b ag w _ (fun i hi=>by rw[ha];exact List.mem_range.1 hi)]
 congr 1
 rw[Bool.eq_iff_iff,decide_eq_true_iff,decide_eq_true_iff]
 constructor
 ·intro h
  apply List.ext_getElem?
  intro j
  rcases Nat.lt_or_ge j n with hj|hj
  ·exact h j (List.mem_range.2 hj)
  ·rw[List.getElem?_eq_none ag,List.getElem?_eq_none ag]
 ·rintro rfl j _;rfl
def sj{t e:TypeId}(ht:P.underlying t=some (.array 32 e))(he:P.underlying e=some (.int .u8))(hc:P.cellsOf e=1)(a b:Dg)(d:Nat)(w:World) :
  (Op.equalIn (d+2) t (.agg (dC a).toArray) (.agg (dC b).toArray)).run P w = .ok (decide (a=b)) w:=by
 rw[dz,dz,GP ht he hc a.len b.len]
 congr 1
 rw[Bool.eq_iff_iff,decide_eq_true_iff,decide_eq_true_iff]
 constructor
 ·intro h;cases a;cases b;simp_all
 ·rintro rfl;rfl
end
section
variable{P:Program}{U:Tr}[hU:fV P U]{f:FuncId}{n:Nat}{R:Ending→World→Prop}{G:cI}{k:List Item}{L:fD}{H H':List HP}{S:World→Prop}{all:Array Oper}{rest:Pl}{ty:TypeId}{pos:String}{af:Array Edge}{gd:Option (Nat × Bool)}{m:Bool}{d:Tmp}
def lR{x y:Operand}{t yt:TypeId}{c1 c2:Array Value}{b:Bool}(hd:Nat.blt d n=true)(hx:ev L x=some (.agg c1))(hy:ev L y=some (.agg c2))(hg:P.eqGuardType P.depth t=false)(he:∀w,(Op.equal t (.agg c1) (.agg c2)).run P w = .ok b w)(h:J P f n R G S all rest k ((d,.bool b)::L) H):J P f n R G S all (.cons m true ⟨some d,.binOp .eql t x y yt,ty,pos,af,gd⟩ rest) k L H:=by
 have iR:∀a w,Has n L a→(execOp a.eval ⟨some d,.binOp .eql t x y yt,ty,pos,af,gd⟩).run P w = .ok (.value (.bool b)) w:=fun a w ha=>by
  have hgu:(eqGuard .eql t x y (.agg c1) (.agg c2)).run P w = .ok () w:=by simp[eqGuard,hg]
  have hb:(binOp .eql t (.agg c1) (.agg c2)).run P w = .ok (.bool b) w:=by
   simp only[binOp,Sem.run_bind,he,Result.andThen_ok,Sem.run_pure]
  simp only[execOp,ha.ev hx,ha.ev hy,Sem.run_bind,hgu,hb,Result.andThen_ok,Sem.run_pure]
 cases m with
 | false=>exact kL hd (fun a w ha _=>iR a w ha) h
 | true=>exact kU hd (fun a w ha _=>iR a w ha) h
def j0{t e:TypeId}{bQ te:Ty}{nn:Nat}{z:Array Value}(hd:Nat.blt d n=true)(ht:U.get t=some bQ)(hu:bQ.gy = .array nn e)(he:U.get e=some te)(hz:bQ.info.zero=some (.agg z))(h:J P f n R G S all rest k ((d,.agg z)::L) H):J P f n R G S all (.cons m true ⟨some d,.build t #[],ty,pos,af,gd⟩ rest) k L H:=by
 have iR:∀a w,Has n L a→(execOp a.eval ⟨some d,.build t #[],ty,pos,af,gd⟩).run P w = .ok (.value (.agg z)) w:=fun a w ha=>by
  simp only[execOp,Instr.build,Sem.run_bind,dX ht hz,run_underlying ht,Result.andThen_ok,hu,run_sizeOf he,Array.map_empty,Instr.fill,Value.cells,Sem.run_pure]
 cases m with
 | false=>exact kL hd (fun a w ha _=>iR a w ha) h
 | true=>exact kU hd (fun a w ha _=>iR a w ha) h
def g8{t elem:TypeId}{bQ te:Ty}{x:Operand}{nn b off:Nat}(hd:Nat.blt d n=true)(ht:U.get t=some bQ)(hu:bQ.gy = .array nn elem)(he:U.get elem=some te)(hx:ev L x=some (.pointer (some ⟨b,off,none⟩)))(h:J P f n R G S all rest k ((d,.slice (some ⟨b,off,none⟩) nn nn)::L) H) :
  J P f n R G S all (.cons m true ⟨some d,.slice t x none none none,ty,pos,af,gd⟩ rest) k L H:=by
 refine du hd (fun a ha w=>?_) h
 simp only[execOp,ha.ev hx,Instr.sliceAt,Sem.run_bind,run_underlying ht,Result.andThen_ok,hu,Instr.sureAddr,Instr.sliceBounds,Option.map_none,run_sizeOf he,Sem.run_pure]
 simp[Addr.add,run_sizeOf he]
def By{t elem:TypeId}{bQ:Ty}{x:Operand}{nn len cap:Nat}{a0:Option Addr}(hd:Nat.blt d n=true)(ht:U.get t=some bQ)(hu:bQ.gy = .array nn elem)(hx:ev L x=some (.slice a0 len cap))(hl:nn≤len)(h:J P f n R G S all rest k ((d,.pointer a0)::L) H) :
  J P f n R G S all (.cons m true ⟨some d,.sliceToArrayPointer t x,ty,pos,af,gd⟩ rest) k L H:=by
 refine du hd (fun a ha w=>?_) h
 simp only[execOp,ha.ev hx,Instr.arrayAt,Sem.run_bind,run_underlying ht,Result.andThen_ok,hu]
 rw[if_neg ag]
 simp
end
end Go.SL
namespace Go.SL
open Go
namespace Sha
def uE(x:jt)(n:Nat):jt:=x <<< (32-n) ||| x >>> n
def QW(x:jt)(n:Nat)(h1:1≤n)(h2:n≤31):x >>> n ^^^ x <<< (32-n)=uE x n:=by
 apply BitVec.eq_of_getLsbD_eq
 intro i hi
 simp only[uE,BitVec.getLsbD_xor,BitVec.getLsbD_or,BitVec.getLsbD_ushiftRight,BitVec.getLsbD_shiftLeft]
 rcases Nat.lt_or_ge i (32-n)with h|h
 ·simp[h]
 ·rw[BitVec.getLsbD_of_ge x (n+i) ag]
  simp
def ks:List jt:=[
 0x428a2f98,0x71374491,0xb5c0fbcf,0xe9b5dba5,0x3956c25b,0x59f111f1,0x923f82a4,0xab1c5ed5,
 0xd807aa98,0x12835b01,0x243185be,0x550c7dc3,0x72be5d74,0x80deb1fe,0x9bdc06a7,0xc19bf174,
 0xe49b69c1,0xefbe4786,0x0fc19dc6,0x240ca1cc,0x2de92c6f,0x4a7484aa,0x5cb0a9dc,0x76f988da,
 0x983e5152,0xa831c66d,0xb00327c8,0xbf597fc7,0xc6e00bf3,0xd5a79147,0x06ca6351,0x14292967,
 0x27b70a85,0x2e1b2138,0x4d2c6dfc,0x53380d13,0x650a7354,0x766a0abb,0x81c2c92e,0x92722c85,
 0xa2bfe8a1,0xa81a664b,0xc24b8b70,0xc76c51a3,0xd192e819,0xd6990624,0xf40e3585,0x106aa070,
 0x19a4c116,0x1e376c08,0x2748774c,0x34b0bcb5,0x391c0cb3,0x4ed8aa4a,0x5b9cca4f,0x682e6ff3,
 0x748f82ee,0x78a5636f,0x84c87814,0x8cc70208,0x90befffa,0xa4506ceb,0xbef9a3f7,0xc67178f2]
def s0(x:jt):jt:=uE x 7 ^^^ uE x 18 ^^^ x >>> 3
def s1(x:jt):jt:=uE x 17 ^^^ uE x 19 ^^^ x >>> 10
def b0(x:jt):jt:=uE x 2 ^^^ uE x 13 ^^^ uE x 22
def b1(x:jt):jt:=uE x 6 ^^^ uE x 11 ^^^ uE x 25
def ch(e f g:jt):jt:=g ^^^ e &&& (f ^^^ g)
def maj(a b c:jt):jt:=a &&& b ||| c &&& (a ||| b)
def Ya(e f g:jt):e &&& f ||| ~~~e &&& g=ch e f g:=by
 apply BitVec.eq_of_getLsbD_eq
 intro i hi
 simp only[ch,BitVec.getLsbD_xor,BitVec.getLsbD_or,BitVec.getLsbD_and,BitVec.getLsbD_not,hi,decide_true,Bool.true_and]
 cases e.getLsbD i <;> cases f.getLsbD i <;> cases g.getLsbD i <;> rfl
def Rh(a b c:jt):a &&& b ||| a &&& c ||| b &&& c=maj a b c:=by
 apply BitVec.eq_of_getLsbD_eq
 intro i hi
 simp only[maj,BitVec.getLsbD_or,BitVec.getLsbD_and]
 cases a.getLsbD i <;> cases b.getLsbD i <;> cases c.getLsbD i <;> rfl
def word(b:List UInt8)(t:Nat):jt:=wB (b.getD (4*t) 0) <<< 24 ||| wB (b.getD (4*t+1) 0) <<< 16 ||| wB (b.getD (4*t+2) 0) <<< 8 ||| wB (b.getD (4*t+3) 0)
def sched(b:List UInt8):Nat→List jt
 | 0=>[]
 | t+1 =>
  let w:=sched b t
  if t<16 then w++[word b t]else w++[w.getD (t-16) 0+w.getD (t-7) 0+s1 (w.getD (t-2) 0)+s0 (w.getD (t-15) 0)]
def dO(b:List UInt8)(t:Nat):(sched b t).length=t:=by
 induction t with
 | zero=>rfl
 | succ t ih=>simp only[sched];split <;> simp[ih]
def Ko(b:List UInt8){t u:Nat}(h:t≤u)(i:Nat)(hi:i<t):(sched b u)[i]?=(sched b t)[i]? := by
 induction u with
 | zero=>omega
 | succ u ih =>
  rcases Nat.lt_or_ge u t with h2|h2
  ·have:t=u+1:=by omega
   rw[this]
  ·rw[← ih h2]
   simp only[sched]
   split <;> rw[List.getElem?_append_left (by rw[dO];omega)]
structure St where
 a:jt
 b:jt
 c:jt
 d:jt
 e:jt
 f:jt
 g:jt
 h:jt
def round(s:St)(k w:jt):St :=
 let x:=s.h+b1 s.e+ch s.e s.f s.g+k+w
 let y:=b0 s.a+maj s.a s.b s.c
 ⟨x+y,s.a,s.b,s.c,s.d+x,s.e,s.f,s.g⟩
def rounds(s:St)(w:List jt):Nat→St
 | 0=>s
 | t+1=>round (rounds s w t) (ks.getD t 0) (w.getD t 0)
def plus(s t:St):St:=⟨s.a+t.a,s.b+t.b,s.c+t.c,s.d+t.d,s.e+t.e,s.f+t.f,s.g+t.g,s.h+t.h⟩
def chunk(s:St)(b:List UInt8):St:=plus s (rounds s (sched b 64) 64)
def start:St:=⟨0x6a09e667,0xbb67ae85,0x3c6ef372,0xa54ff53a,0x510e527f,0x9b05688c,0x1f83d9ab,0x5be0cd19⟩
def chunks(s:St)(b:List UInt8):Nat→St
 | 0=>s
 | n+1=>chunk (chunks s b n) (b.drop (64*n))
def St.l(s:St):List jt:=[s.a,s.b,s.c,s.d,s.e,s.f,s.g,s.h]
def pe(n:Nat):List UInt8:=(List.range 8).map fun i=>UInt8.ofNat (n/2 ^ (56-8*i))
def pad(n:Nat):List UInt8:=128::List.replicate ((119-n%64)%64) 0++pe (8*n)
def out(s:St):List UInt8:=(List.range 32).map fun i=>UInt8.ofNat ((s.l.getD (i/4) 0) >>> (24-8*(i%4))).toNat
def B8(s:St):(out s).length=32:=by simp[out]
def msg(b:List UInt8):List UInt8:=b++pad b.length
end Sha
def dW(b:List UInt8):Dg:=⟨Sha.out (Sha.chunks Sha.start (Sha.msg b) ((Sha.msg b).length/64)),Sha.B8 _⟩
def lM(n:Nat):List UInt8:=(List.range 8).map fun i=>UInt8.ofNat (n/2 ^ (8*i))
def cX(tag:UInt8)(ps:List (List UInt8)):List UInt8:=tag::ps.flatMap fun p=>lM p.length++p
def cH(tag:UInt8)(ps:List (List UInt8)):Dg:=dW (cX tag ps)
namespace Sha
def part(b:List UInt8)(t:Nat):Nat→jt
 | 0=>0
 | j+1=>part b t j ||| wB (b.getD (4*t+j) 0) <<< (24-8*j)
def aaF(b:List UInt8)(t:Nat):part b t 4=word b t:=by
 simp[part,word]
def ng(b:List UInt8)(i:Nat):List jt:=(List.range 64).map fun t=>part b t (min 4 (i-4*t))
def kE(b:List UInt8)(i:Nat):(ng b i).length=64:=by simp[ng]
def lW(b:List UInt8)(i t:Nat)(ht:t<64):(ng b i)[t]?=some (part b t (min 4 (i-4*t))):=by
 simp[ng,ht]
def HI(b:List UInt8):ng b 0=List.replicate 64 0:=by
 apply List.ext_getElem?
 intro t
 rcases Nat.lt_or_ge t 64 with h|h
 ·rw[lW b 0 t h,List.getElem?_replicate,if_pos h];simp[part]
 ·rw[List.getElem?_eq_none (by rw[kE];exact h),List.getElem?_eq_none (by simpa using h)]
def HK(b:List UInt8)(i:Nat)(hi:i<64):(ng b i).set (i/4) (part b (i/4) (i%4) ||| wB (b.getD i 0) <<< (24-8*(i%4)))=ng b (i+1):=by
 apply List.ext_getElem?
 intro t
 rw[List.getElem?_set,kE]
 rcases Nat.lt_or_ge t 64 with h|h
 ·rw[lW b i t h,lW b (i+1) t h]
  by_cases ht:i/4=t
  ·subst ht
   rw[if_pos rfl,if_pos h]
   have e1:min 4 (i+1-4*(i/4))=i%4+1:=by omega
   have e2:4*(i/4)+i%4=i:=by omega
   rw[e1,part,e2]
  ·rw[if_neg ht]
   have:min 4 (i-4*t)=min 4 (i+1-4*t):=by omega
   rw[this]
 ·rw[List.getElem?_eq_none (by rw[kE];exact h),List.getElem?_eq_none (l:=ng b (i+1)) (by rw[kE];exact h)]
  split
  ·omega
  ·rfl
def GJ(b:List UInt8)(t u:Nat)(h:t<u)(hu:t<16):(sched b u)[t]?=some (word b t):=by
 rw[Ko b (t:=t+1) ag t ag]
 simp only[sched,if_pos hu]
 rw[List.getElem?_append_right (by rw[dO];exact Nat.le_refl _),dO,Nat.sub_self]
 rfl
def LC(b:List UInt8):ng b 64=sched b 16++List.replicate 48 0:=by
 apply List.ext_getElem?
 intro t
 rcases Nat.lt_or_ge t 16 with h|h
 ·rw[lW b 64 t ag,List.getElem?_append_left (by rw[dO];exact h),GJ b t 16 h h,show min 4 (64-4*t)=4 from by omega,aaF]
 ·rw[List.getElem?_append_right (by rw[dO];exact h),dO]
  rcases Nat.lt_or_ge t 64 with h2|h2
  ·rw[lW b 64 t h2,List.getElem?_replicate,if_pos ag,show min 4 (64-4*t)=0 from by omega];rfl
  ·rw[List.getElem?_eq_none (by rw[kE];exact h2),List.getElem?_eq_none (by simp;omega)]
def eN(b:List UInt8)(t:Nat):List jt:=sched b t++List.replicate (64-t) 0
def sh(b:List UInt8)(t:Nat)(h:t≤64):(eN b t).length=64:=by simp[eN,dO];omega
def iF(b:List UInt8)(t i:Nat)(h:i<t):(eN b t)[i]?=some ((sched b t).getD i 0):=by
 unfold eN
 rw[List.getElem?_append_left (by rw[dO];exact h),List.getD_eq_getElem?_getD,List.getElem?_eq_getElem (by rw[dO];exact h)];rfl
def vG(b:List UInt8)(t:Nat)(h1:16≤t)(h2:t<64):(eN b t).set t ((sched b t).getD (t-16) 0+(sched b t).getD (t-7) 0+s1 ((sched b t).getD (t-2) 0)+s0 ((sched b t).getD (t-15) 0))=eN b (t+1):=by
 unfold eN
 rw[List.set_append_right _ _ (by rw[dO];exact Nat.le_refl _),dO,Nat.sub_self,show 64-t=(64-(t+1))+1 from by omega,List.replicate_succ,List.set_cons_zero]
 conv=>rhs;unfold sched
 rw[if_neg ag]
 simp
def xM(b:List UInt8):eN b 64=sched b 64:=by simp[eN]
end Sha
namespace Sha
def DB{b b':List UInt8}(h:∀i,i<64→b.getD i 0=b'.getD i 0)(t:Nat):sched b t=sched b' t:=by
 induction t with
 | zero=>rfl
 | succ t ih =>
  simp only[sched,ih]
  split
  ·rename_i ht
   simp only[word,h (4*t) ag,h (4*t+1) ag,h (4*t+2) ag,h (4*t+3) ag]
  ·rfl
def Bi(s:St)(b r:List UInt8)(h:64≤b.length):chunk s (b++r)=chunk s b:=by
 unfold chunk
 rw[DB (b:=b++r) (b':=b) fun i hi=>by
  simp only[List.getD_eq_getElem?_getD]
  rw[List.getElem?_append_left ag]]
def y9(s:St)(b r:List UInt8):∀q,64*q≤b.length→chunks s (b++r) q=chunks s b q
 | 0,_=>rfl
 | q+1,h=>by
  simp only[chunks]
  rw[y9 s b r q ag,List.drop_append_of_le_length ag,Bi _ _ _ (by rw[List.length_drop];omega)]
def za(s:St)(b:List UInt8)(p:Nat):∀q,chunks s b (p+q)=chunks (chunks s b p) (b.drop (64*p)) q
 | 0=>rfl
 | q+1=>by
  rw[← Nat.add_assoc]
  simp only[chunks]
  rw[za s b p q,List.drop_drop,show 64*p+64*q=64*(p+q)from by omega]
def Kj(b:List UInt8):chunks start (msg b) ((msg b).length/64)=chunks (chunks start b (b.length/64)) (b.drop (64*(b.length/64))++pad b.length) ((b.drop (64*(b.length/64))++pad b.length).length/64):=by
 have h1:64*(b.length/64)≤b.length:=by omega
 have hl:(msg b).length/64=b.length/64+(b.drop (64*(b.length/64))++pad b.length).length/64:=by
  simp only[msg,List.length_append,List.length_drop]
  omega
 rw[hl,za]
 unfold msg
 rw[y9 _ _ _ _ h1,List.drop_append_of_le_length h1]
end Sha
end Go.SL
namespace Go.SL
def IL(b:List UInt8):(dW b).bs=Sha.out (Sha.chunks Sha.start (Sha.msg b) ((Sha.msg b).length/64)):=rfl
def DZ{l:List UInt8}{i n:Nat}{x:UInt8}(hl:l.length=n)(h:l[i]?=some x):(bV (l.take i++List.replicate (n-i) (0:UInt8))).set i (u8 x)=bV (l.take (i+1)++List.replicate (n-(i+1)) (0:UInt8)):=by
 have hi:i<n:=by
  rcases Nat.lt_or_ge i l.length with h2|h2
  ·omega
  ·rw[List.getElem?_eq_none h2]at h;cases h
 have e1:(l.take i).length=i:=by rw[List.length_take];omega
 show((l.take i++List.replicate (n-i) (0:UInt8)).map u8).set i (u8 x)=_
 rw[← List.map_set,List.set_append_right _ _ ag,e1,Nat.sub_self,show n-i=(n-(i+1))+1 from by omega,List.replicate_succ,List.set_cons_zero,List.take_add_one,h]
 simp[bV]
def jH(l:List UInt8):iL (bV l)=true:=by
 induction l with
 | nil=>rfl
 | cons x l ih =>
  show(Value.oneCell' (u8 x) && iL (bV l))=true
  rw[ih];rfl
def ofInt64(x:Int):(BitVec.ofInt IntKind.i64.bits x).toNat=(x%18446744073709551616).toNat:=by
 rw[BitVec.toNat_ofInt];rfl
def ue(x:Int):IntKind.i64.wrap ((BitVec.ofInt IntKind.i64.bits x &&& BitVec.ofInt IntKind.i64.bits 1).toNat:Int)=x%2:=by
 have e2:(BitVec.ofInt IntKind.i64.bits (1:Int)).toNat=2 ^ 1-1:=by decide
 rw[BitVec.toNat_and,ofInt64,e2,Nat.and_two_pow_sub_one_eq_mod,cQ (by simp only[gn];omega)]
 omega
def kj:Nat→Nat→Pt→Pt
 | _,0,p=>p
 | i,n+1,p => .st i (kj (i+1) n p)
def lP(n:Nat):Value.int .u8 (IntKind.u8.wrap (n:Int))=u8 (UInt8.ofNat n):=by
 have h:IntKind.u8.wrap (n:Int)=(n:Int)%256:=by simp[IntKind.wrap,IntKind.bits,IntKind.signed]
 rw[h]
 simp only[u8,UInt8.toNat_ofNat']
 congr 1
def oQ{a c k:Nat}(ha:a<2 ^ k):a ||| c*2 ^ k=a+c*2 ^ k:=by
 have:=Nat.shiftLeft_add_eq_or_of_lt ha c
 rw[Nat.shiftLeft_eq]at this
 rw[Nat.or_comm,← this,Nat.add_comm]
def wJ{a:Nat}(h:a<18446744073709551616):(BitVec.ofInt IntKind.i64.bits (a:Int)).toNat=a:=by
 rw[ofInt64];omega
def tE{a:Nat}(h:a<18446744073709551616):(BitVec.ofInt IntKind.u64.bits (a:Int)).toNat=a:=by
 rw[BitVec.toNat_ofInt]
 show((a:Int)%18446744073709551616).toNat=a
 omega
def tD{a:Nat}(h:a<256):(BitVec.ofInt IntKind.u8.bits (a:Int)).toNat=a:=by
 rw[BitVec.toNat_ofInt]
 show((a:Int)%256).toNat=a
 omega
def G5{a c k:Nat}(ha:a<2 ^ k)(h:a+c*2 ^ k<9223372036854775808) :
  IntKind.i64.wrap ((BitVec.ofInt IntKind.i64.bits (a:Int) ||| BitVec.ofInt IntKind.i64.bits ((c*2 ^ k:Nat):Int)).toNat:Int)=((a+c*2 ^ k:Nat):Int):=by
 rw[BitVec.toNat_or,wJ ag,wJ ag,oQ ha]
 exact cQ (by simp only[gn];omega)
def WS{a c k:Nat}(ha:a<2 ^ k)(h:a+c*2 ^ k<18446744073709551616) :
  IntKind.u64.wrap ((BitVec.ofInt IntKind.u64.bits (a:Int) ||| BitVec.ofInt IntKind.u64.bits ((c*2 ^ k:Nat):Int)).toNat:Int)=((a+c*2 ^ k:Nat):Int):=by
 rw[BitVec.toNat_or,tE ag,tE ag,oQ ha]
 exact cQ (by simp only[gn];omega)
set_option maxRecDepth 10000 in
def N3(x:Nat)(hx:x<256):IntKind.u8.wrap ((BitVec.ofInt IntKind.u8.bits (x:Int) ||| BitVec.ofInt IntKind.u8.bits 128).toNat:Int)=((x%128+128:Nat):Int):=by
 have e2:(BitVec.ofInt IntKind.u8.bits (128:Int)).toNat=128:=by decide
 have h:∀y,y<256→y ||| 128=y%128+128:=by decide
 rw[BitVec.toNat_or,tD hx,e2,h x hx]
 exact cQ (by simp only[gn];omega)
def CL(x:Nat)(hx:x<256):IntKind.u8.wrap ((BitVec.ofInt IntKind.u8.bits (x:Int) &&& ~~~ BitVec.ofInt IntKind.u8.bits 128).toNat:Int)=((x%128:Nat):Int):=by
 have e2:(~~~ BitVec.ofInt IntKind.u8.bits (128:Int)).toNat=2 ^ 7-1:=by decide
 rw[BitVec.toNat_and,tD hx,e2,Nat.and_two_pow_sub_one_eq_mod]
 exact cQ (by simp only[gn];omega)
def CK(x n:Nat)(hx:x<18446744073709551616)(hn:n<64):IntKind.u64.wrap ((BitVec.ofInt IntKind.u64.bits (x:Int) &&& BitVec.ofInt IntKind.u64.bits ((2 ^ n-1:Nat):Int)).toNat:Int)=((x%2 ^ n:Nat):Int):=by
 have hp:2 ^ n<2 ^ 64:=Nat.pow_lt_pow_right ag hn
 have lA:0<2 ^ n:=Nat.pow_pos ag
 rw[BitVec.toNat_and,tE hx,tE ag,Nat.and_two_pow_sub_one_eq_mod]
 have cW:x%2 ^ n<18446744073709551616:=Nat.lt_of_le_of_lt (Nat.mod_le _ _) hx
 exact cQ (by simp only[gn];omega)
def vQ(n:Nat):List UInt8:=[UInt8.ofNat n,UInt8.ofNat (n/256),UInt8.ofNat (n/65536),UInt8.ofNat (n/16777216)]
def oV(b:List UInt8):Nat:=(b.getD 0 0).toNat+(b.getD 1 0).toNat*256+(b.getD 2 0).toNat*65536+(b.getD 3 0).toNat*16777216
def Cb(n:Nat):(vQ n).length=4:=rfl
def I8(n:Nat)(h:n<4294967296)(rest:List UInt8):oV (vQ n++rest)=n:=by
 simp only[oV,vQ,List.cons_append,List.getD_cons_zero,List.getD_cons_succ,UInt8.toNat_ofNat']
 omega
def Oq(b:List UInt8):oV b<4294967296:=by
 unfold oV
 have h:∀x:UInt8,x.toNat<256:=fun x=>x.toNat_lt
 have h0:=h (b.getD 0 0);have h1:=h (b.getD 1 0);have h2:=h (b.getD 2 0);have h3:=h (b.getD 3 0)
 omega
end Go.SL
namespace Go.SL
open Go
def ao.l6{H H' rest:List HP}{A:HP}(i:Nat)(h:N5 i H [] = .mk A rest)(hr:ao rest H'):ao H (A::H') :=
 (ao.perm (by simpa using AO i H [] A rest h)).trans (ao.cons A hr)
def ao.SD(H:List HP):ao H []:=fun h hs=>⟨fun _=>none,⟨fun b o e=>(by cases e),fun _=>rfl⟩⟩
def ah{H H':List HP}(h:ao H H':=by(repeat'(first|exact ao.refl _|exact ao.SD _|refine ao.l6 0 rfl ?_|refine ao.l6 1 rfl ?_|refine ao.l6 2 rfl ?_|refine ao.l6 3 rfl ?_|refine ao.l6 4 rfl ?_|refine ao.l6 5 rfl ?_|refine ao.l6 6 rfl ?_|refine ao.l6 7 rfl ?_|refine ao.l6 8 rfl ?_|refine ao.l6 9 rfl ?_|refine ao.l6 10 rfl ?_|refine ao.l6 11 rfl ?_|refine ao.l6 12 rfl ?_|refine ao.l6 13 rfl ?_|refine ao.l6 14 rfl ?_|refine(ao.drop _ _).trans ?_))):ao H H':=h
section
variable{P:Program}{f:FuncId}{n:Nat}{R:Ending→World→Prop}{G:cI}{k:List Item}{L:fD}{H:List HP}{S:World→Prop}{all:Array Oper}{rest:Pl}{d:Tmp}{ty:TypeId}{pos:String}{af:Array Edge}{gd:Option (Nat × Bool)}
def fq{fo:Operand}{args:Array Operand}{xr:Array TypeId}{g:FuncId}{cap:Array Value}{vs:List Value}{Pre Fr:List HP}{Post:Value→List HP→Prop}(hd:Nat.blt d n=true)(hf:ev L fo=some (.func (.func g) #[] cap))(gS:Gq L args.toList [] = .mk vs){CG:List Value}(has:CG=vs++cap.toList)(c:aE P g CG Pre Post)(he:ao H (Pre++Fr))(h:∀v H',Post v H'→J P f n R G S all rest k ((d,v)::L) (H'++Fr))(hS:∀v H' w,Post v H'→Sat G w (H'++Fr)→Sx rest S w) :
  J P f n R G S all (.cons false true ⟨some d,.call { callee := .value fo,args:=args,argTypes:=xr },ty,pos,af,gd⟩ rest) k L H:=by
 intro a w ha hw _
 refine .inl ⟨.inl rfl,.inr ⟨rfl,?_⟩⟩
 have hr:(execOp a.eval ⟨some d,.call { callee := .value fo,args:=args,argTypes:=xr },ty,pos,af,gd⟩).run P w = .ok (.enter g CG.toArray) w:=by
  simp only[execOp,resolve,Sem.run_bind,ha.ev hf,Deferred.ofValue,Sem.run_pure,Result.andThen_ok,invoke]
  rw[lK c.1,nh ha.1 _ _ gS,has]
  congr 2
  simp
 refine uL (fun c hc=>by cases hc) hr (Calls.mono (c.2 G w Fr (hw.cN he)) ?_)
 rintro e w'⟨v,H',rfl,fJ,mR⟩
 exact⟨v,rfl,hS v H' w' fJ mR,h v H' fJ _ w' (ha.put hd v) mR (hS v H' w' fJ mR)⟩
def tqg{p:Prop}(h:p:=by(intro _ _ w hp hw;(first|(obtain rfl:=hp;exact hw.cN ah)|(obtain⟨rfl,rfl⟩:=hp;exact hw.cN ah)|(obtain⟨_,rfl⟩:=hp;exact hw.cN ah)|(obtain⟨_,_,rfl⟩:=hp;exact hw.cN ah)|(obtain⟨_,_,rfl,rfl⟩:=hp;exact hw.cN ah)|(obtain⟨_,_,_,_,rfl,rfl⟩:=hp;exact hw.cN ah)|(obtain⟨_,_,rfl,rfl,_,_⟩:=hp;exact hw.cN ah)|(obtain⟨_,_,rfl,_⟩:=hp;exact hw.cN ah)|(obtain⟨_,_,rfl,rfl,_⟩:=hp;exact hw.cN ah)|(obtain⟨_,rfl,rfl⟩:=hp;exact hw.cN ah)|(obtain⟨_,_,_,rfl,rfl⟩:=hp;exact hw.cN ah)|(obtain⟨_,_,_,_,rfl,rfl,_⟩:=hp;exact hw.cN ah)))):p:=h
def dD{fo:Operand}{args:Array Operand}{xr:Array TypeId}{g:FuncId}{cap:Array Value}{vs:List Value}{Pre Fr:List HP}{Post:Value→List HP→Prop}{CG:List Value}(c:aE P g CG Pre Post)(h:∀v H',Post v H'→J P f n R G S all rest k ((d,v)::L) (H'++Fr))(hd:Nat.blt d n=true:=by exact rfl)(hf:ev L fo=some (.func (.func g) #[] cap):=by exact rfl)(gS:Gq L args.toList [] = .mk vs:=by exact rfl)(has:CG=vs++cap.toList:=by exact rfl)(he:ao H (Pre++Fr):=by exact ah)(hS:∀v H' w,Post v H'→Sat G w (H'++Fr)→Sx rest S w:=by exact tqg) :
    J P f n R G S all (.cons false true ⟨some d,.call { callee := .value fo,args:=args,argTypes:=xr },ty,pos,af,gd⟩ rest) k L H:=fq hd hf gS has c he h hS
def aed{p:Prop}[Decidable p](t:Nat)(h:J P f n R G S all rest k ((t,.bool true)::L) H)(hb:dT L t=some (.bool (decide p)):=by exact rfl)(hp:p:=by omega):J P f n R G S all rest k L H:=aB t _ hb (congrArg Value.bool (decide_eq_true hp)) h
def aee{p:Prop}[Decidable p](t:Nat)(h:J P f n R G S all rest k ((t,.bool false)::L) H)(hb:dT L t=some (.bool (decide p)):=by exact rfl)(hp:¬p:=by omega):J P f n R G S all rest k L H:=aB t _ hb (congrArg Value.bool (decide_eq_false hp)) h
def aeb{p:Prop}[Decidable p](t:Nat)(h:K P f n R G k ((t,.bool true)::L) H)(hb:dT L t=some (.bool (decide p)):=by exact rfl)(hp:p:=by omega):K P f n R G k L H:=bu t _ hb (congrArg Value.bool (decide_eq_true hp)) h
def aec{p:Prop}[Decidable p](t:Nat)(h:K P f n R G k ((t,.bool false)::L) H)(hb:dT L t=some (.bool (decide p)):=by exact rfl)(hp:¬p:=by omega):K P f n R G k L H:=bu t _ hb (congrArg Value.bool (decide_eq_false hp)) h
def ach{k0:List Item}{id:Nat}{ops:Array Oper}(Hs:List HP)(dS:Pt)(h:J P f n R G (fun w=>Sat G w Hs) ops (eE ops dS) k L H)(hk:ir 1000 k0 = .mk (.code (.region id ops true)::k):=by exact rfl)(hm:P.follows .mixedOrders=true:=by exact ak)(MO:Region.noSelect ops=true:=by exact ak)(hp:(AQ ops && (Nat.ble dS.depth ops.size && eC ops true dS (Array.replicate ops.size false)))=true:=by exact ak)(hS:∀w,Sat G w H→Sat G w Hs:=by(intro w hw;exact hw.cN ah)):K P f n R G k0 L H:=aH _ dS hk hm MO hp hS h
def aF{fo:Operand}{args:Array Operand}{xr:Array TypeId}{g:FuncId}{cap:Array Value}{vs:List Value}{Pre Fr:List HP}{Post:Value→List HP→Prop}{CG:List Value}(c:aE P g CG Pre Post)(h:∀v H',Post v H'→J P f n R G S all rest k ((d,v)::L) (H'++Fr))(hd:Nat.blt d n=true:=by exact rfl)(hf:ev L fo=some (.func (.func g) #[] cap):=by exact rfl)(gS:Gq L args.toList [] = .mk vs:=by exact rfl)(has:CG=vs++cap.toList:=by exact rfl)(he:ao H (Pre++Fr):=by exact ah)(hS:∀v H' w,Post v H'→Sat G w (H'++Fr)→Sx rest S w:=by exact fun _ _ _ _ _=>trivial) :
    J P f n R G S all (.cons false true ⟨some d,.call { callee := .value fo,args:=args,argTypes:=xr },ty,pos,af,gd⟩ rest) k L H:=fq hd hf gS has c he h hS
def aO{fo:Operand}{args:Array Operand}{xr:Array TypeId}{g:FuncId}{cap:Array Value}{vs:List Value}{Pre Fr Hx:List HP}{Post:Value→List HP→Prop}{v:Value}{CG:List Value}(c:aE P g CG Pre Post)(h:J P f n R G S all rest k ((d,v)::L) (Hx++Fr))(hd:Nat.blt d n=true:=by exact rfl)(hf:ev L fo=some (.func (.func g) #[] cap):=by exact rfl)(gS:Gq L args.toList [] = .mk vs:=by exact rfl)(has:CG=vs++cap.toList:=by exact rfl)(he:ao H (Pre++Fr):=by exact ah)(hq:∀r H,Post r H→r=v∧H=Hx:=by(intro _ _ q;obtain⟨rfl,rfl⟩:=q;exact⟨rfl,rfl⟩))(hS:∀v' H' w,Post v' H'→Sat G w (H'++Fr)→Sx rest S w:=by exact fun _ _ _ _ _=>trivial) :
    J P f n R G S all (.cons false true ⟨some d,.call { callee := .value fo,args:=args,argTypes:=xr },ty,pos,af,gd⟩ rest) k L H:=fq hd hf gS has c he (fun _ _ q=>by obtain⟨rfl,rfl⟩:=hq _ _ q;exact h) hS
def bC{fo:Operand}{args:Array Operand}{xr:Array TypeId}{g:FuncId}{cap:Array Value}{vs:List Value}{Pre Fr Hx:List HP}{Post:Value→List HP→Prop}{v:Value}{CG:List Value}(c:aE P g CG Pre Post)(h:J P f n R G S all rest k ((d,v)::L) (Hx++Fr))(hd:Nat.blt d n=true:=by exact rfl)(hf:ev L fo=some (.func (.func g) #[] cap):=by exact rfl)(gS:Gq L args.toList [] = .mk vs:=by exact rfl)(has:CG=vs++cap.toList:=by exact rfl)(he:ao H (Pre++Fr):=by exact ah)(hq:∀r H,Post r H→r=v∧H=Hx:=by(intro _ _ q;obtain⟨rfl,rfl⟩:=q;exact⟨rfl,rfl⟩))(hS:∀w,Sat G w (Hx++Fr)→Sx rest S w:=by(intro w hw;exact hw.cN ah)) :
    J P f n R G S all (.cons false true ⟨some d,.call { callee := .value fo,args:=args,argTypes:=xr },ty,pos,af,gd⟩ rest) k L H:=fq hd hf gS has c he (fun _ _ q=>by obtain⟨rfl,rfl⟩:=hq _ _ q;exact h) (fun _ _ w q hw=>by obtain⟨rfl,rfl⟩:=hq _ _ q;exact hS w hw)
def ad{k k0:List Item}{fn:Func}{F:List HP}{Post:Value→List HP→Prop}(hR:Ends R G F Post)(hf:P.funcs[f]?=some fn)(hk:ir 1000 k0 = .mk (.code .ret::k)){vs:List Value}(hr:xT L fn.results.toList [] = .mk vs){Hq:List HP}(hp:Post (eG vs) Hq)(he:ao H (Hq++F):=by exact ah):K P f n R G k0 L H:=aL hR hf hk vs hr hp he
def aE.au{fn:Func}{c:Code}{args:List Value}{Pre:List HP}{Post:Value→List HP→Prop}(hf:P.funcs[f]?=some fn)(hn:fn.ntmps=n)(h:∀G F R,Ends R G F Post→K P f n R G [.code c] L (Pre++F))(hc:mB fn=true:=by exact ak)(hb:fn.body=some c:=by exact rfl)(hp:N1 0 args [] = .mk L:=by exact rfl)(hlen:Nat.ble args.length n=true:=by exact rfl):aE P f args Pre Post:=aE.enter hf hc hb hn hp hlen h
def Bv{k0 k':List Item}{α:Type}(m:Nat)(I:α→Prop)(Lf:α→fD)(Hf:α→List HP)(hk:ir 1000 (k0.drop m) = .mk k')(tail:∀y,I y→K P f n R G k' (Lf y) (Hf y))(h:(∀y,I y→K P f n R G k' (Lf y) (Hf y))→K P f n R G k0 L H):K P f n R G k0 L H:=h tail
def pC{k0 k':List Item}{α:Type}{I:α→Prop}{Lf:α→fD}{Hf:α→List HP}(ih:∀y,I y→K P f n R G k' (Lf y) (Hf y))(y:α)(hk:ir 1000 k0 = .mk k')(hI:I y)(hL:∀t v,dT (Lf y) t=some v→dT L t=some v)(hH:ao H (Hf y)):K P f n R G k0 L H:=gL 1000 hk (JV hL (ai hH (ih y hI)))
def iN{k0 k':List Item}(hk:ir 1000 k0 = .mk k')(h:K P f n R G k' L H):K P f n R G k0 L H:=gL 1000 hk h
end
def eo{p:Prop}(h:p:=by(intro w hw;exact hw.cN ah)):p:=h
def tqh{p:Prop}(h:p:=by(intro _ _ w hp hw;obtain⟨rfl,rfl⟩:=hp;exact hw.cN ah)):p:=h
end Go.SL
namespace Go.SL
open Go
section
variable{P:Program}{U:Tr}[hU:fV P U]{f:FuncId}{n:Nat}{R:Ending→World→Prop}{G:cI}{k:List Item}{L:fD}{H:List HP}{S:World→Prop}{all:Array Oper}{rest:Pl}{d:Tmp}{ty:TypeId}{pos:String}{af:Array Edge}{gd:Option (Nat × Bool)}{m:Bool}
def uz{fo:Operand}{args:Array Operand}{xr:Array TypeId}{g:FuncId}{fi cap:Array Value}{vs:List Value}{Pre Fr:List HP}{Post:Value→List HP→Prop}(hd:Nat.blt d n=true)(hf:ev L fo=some (.func (.func g) fi cap))(gS:Gq L args.toList [] = .mk vs){CG:List Value}(has:CG=fi.toList++vs++cap.toList)(c:aE P g CG Pre Post)(he:ao H (Pre++Fr))(h:∀v H',Post v H'→J P f n R G S all rest k ((d,v)::L) (H'++Fr))(hS:∀v H' w,Post v H'→Sat G w (H'++Fr)→Sx rest S w) :
  J P f n R G S all (.cons false true ⟨some d,.call { callee := .value fo,args:=args,argTypes:=xr },ty,pos,af,gd⟩ rest) k L H:=by
 intro a w ha hw _
 refine .inl ⟨.inl rfl,.inr ⟨rfl,?_⟩⟩
 have hr:(execOp a.eval ⟨some d,.call { callee := .value fo,args:=args,argTypes:=xr },ty,pos,af,gd⟩).run P w = .ok (.enter g CG.toArray) w:=by
  simp only[execOp,resolve,Sem.run_bind,ha.ev hf,Deferred.ofValue,Sem.run_pure,Result.andThen_ok,invoke]
  rw[lK c.1,nh ha.1 _ _ gS,has]
  congr 2
  apply Array.ext'
  simp
 refine uL (fun c hc=>by cases hc) hr (Calls.mono (c.2 G w Fr (hw.cN he)) ?_)
 rintro e w'⟨v,H',rfl,fJ,mR⟩
 exact⟨v,rfl,hS v H' w' fJ mR,h v H' fJ _ w' (ha.put hd v) mR (hS v H' w' fJ mR)⟩
def zy{t yt:TypeId}{x y:Operand}{p q:ByteArray}(hd:Nat.blt d n=true)(hx:ev L x=some (.string p))(hy:ev L y=some (.string q))(hr:p.size+q.size≤9223372036854775807)(h:J P f n R G S all rest k ((d,.string (p++q))::L) H):J P f n R G S all (.cons m true ⟨some d,.binOp .add t x y yt,ty,pos,af,gd⟩ rest) k L H :=
  du hd (fun a ha w=>by
    have h0 : ¬ (((p.size + q.size : Nat) : Int) > IntKind.i64.max) := by have : IntKind.i64.max = 9223372036854775807 := by decide
                                                                          omega
    simp only[execOp,ha.ev hx,ha.ev hy,eqGuard,Sem.run_bind,Sem.run_pure,Result.andThen_ok,binOp_string_add,Op.stringOp]
    rw[if_neg h0]
    rfl) h
def C1{g:FuncId}{fn:Func}{args:Array Operand}{xr:Array TypeId}{t elem:TypeId}{bQ:Ty}{q:Nat}(hd:Nat.blt d n=true)(hf:P.funcs[g]?=some fn)(hb:fn.body=none)(hn:(fn.name == "runtime.NumGoroutine")=false)(px:(Extern.findNext fn).isNone=true)(he:Extern.find fn=some (Extern.BytealgMakeNoZero.makeNoZero fn.params #[t]))(ht:U.get t=some bQ)(hu:bQ.gy = .slice elem)(gS:Gq L args.toList [] = .mk [.int .i64 (q:Int)])(hq:q≤281474976710656)(hS:∀b l w,Sat G w (ae b (cl l elem)::H)→Sx rest S w)(h:∀b c l,q≤c→List.length l=c→J P f n R G S all rest k ((d,.slice (some ⟨b,0,none⟩) q c)::L) (ae b (cl l elem)::H)) :
  J P f n R G S all (.cons false true ⟨some d,.call { callee := .value (.func g),args:=args,argTypes:=xr },ty,pos,af,gd⟩ rest) k L H:=by
 refine oy hd (fun u H1=>∃b c l,(q≤c∧List.length l=c)∧u = .slice (some ⟨b,0,none⟩) q c∧H1=ae b (cl l elem)::H) (fun a w ha hw=>?_) ?_ ?_
 ·have hav:=nh ha _ _ gS
  obtain⟨cs,hr,h1,_⟩:=Lib.run_makeNoZero (P:=P) w fn.params t elem (by rw[← hu];exact fF ht) q hq
  have Qw:Sat G w.drew.drew H:=(hw.draw _).draw _
  refine⟨_,w.drew.drew.alloc (.cells cs elem),_,?_,⟨w.heap.size,cs.size,cs.toList,⟨h1,by simp⟩,rfl,rfl⟩,?_⟩
  ·simp only[execOp,resolve,Sem.run_bind,Act.eval,Deferred.ofValue,Sem.run_pure,Result.andThen_ok,invoke]
   rw[show Array.map (fun x=>a.eval x) args = #[.int .i64 (q:Int)]from hav]
   simp only[Array.empty_append,Array.append_empty]
   rw[xO hf hb hn px he,hr]
   rfl
  ·have:=Qw.alloc (cl cs.toList elem)
   have e:cl cs.toList elem = .cells cs elem:=by simp[cl]
   rw[e]at this ⊢
   exact this
 ·rintro u H1 w⟨b,c,l,_,rfl,rfl⟩ hw;exact hS b l w hw
 ·rintro u H1⟨b,c,l,⟨h1,h2⟩,rfl,rfl⟩;exact h b c l h1 h2
def Mo{t elem:TypeId}{bQ te:Ty}{x hi mx:Operand}{a0:Option Addr}{len cap:Nat}{q r:Int}{j2 j3:IntKind}(hd:Nat.blt d n=true)(ht:U.get t=some bQ)(hu:bQ.gy = .slice elem)(he:U.get elem=some te)(hx:ev L x=some (.slice a0 len cap))(Gl:ev L hi=some (.int j2 q))(hmx:ev L mx=some (.int j3 r))(h0:0≤q)(hqr:q≤r)(OO:r≤(cap:Int))(h:J P f n R G S all rest k ((d,.slice (sliceAt a0 r.toNat 0 te.info.size) q.toNat r.toNat)::L) H) :
  J P f n R G S all (.cons m true ⟨some d,.slice t x none (some hi) (some mx),ty,pos,af,gd⟩ rest) k L H:=by
 refine du hd (fun a ha w=>?_) h
 have hb:(Instr.sliceBounds true len cap none (some (a.eval hi)) (some (a.eval mx))).run P w = .ok (0,q.toNat,r.toNat) w:=by
  unfold Instr.sliceBounds
  have e1:0≤r∧r≤(cap:Int):=⟨ag,OO⟩
  have e2:0≤q∧q≤((r.toNat:Nat):Int):=⟨ag,ag⟩
  have e4:q≤max r 0:=by omega
  simp[ha.ev Gl,ha.ev hmx,Instr.sliceBound,asIntOf,e1,e2,e4,h0]
 simp only[execOp,ha.ev hx,Instr.sliceAt,Sem.run_bind,run_underlying ht,Result.andThen_ok,hu,Instr.slice,Option.map_some,Option.map_none,hb,run_sizeOf he,Sem.run_pure,sliceAt]
 by_cases hc:(0:Nat)=r.toNat
 ·simp[← hc]
 ·simp[hc]
  intro hr0
  exfalso;omega
end
end Go.SL
namespace Go.SL
open Go
def bp(l:Nat)(st:LoopState)(pd:Option Code)(f:FuncId)(n:Nat)(L:fD)(ps:Array Tmp)(assign body:Code)(r:Nat):HP:=fun h =>
 ∃tmps:Array Value,(tmps.size=n∧∀t v,dT L t=some v→tmps[t]?=some v)∧ae l (.loop { state:=st,pending:=pd,fn:=f,tmps:=tmps,params:=ps,assign:=assign,body:=body,defers:=r }) h
def bW(P:Program)(l:Nat)(args:List Value)(Pre:List HP)(Post:Value→List HP→Prop):Prop :=
 ∀G w F,Sat G w (Pre++F)→∃fn tmps assign body,(Instr.yield l args.toArray).run P w = .ok (.round l fn tmps assign body) w ∧
  ∀ro,RoundIn (fw ro) 0 P l fn tmps assign body w fun e w'=>∃v H,e = .returned v∧Post v H∧Sat G w' (H++F)
def NM:List Nat→List Value→fD→fD
 | p::ps,v::vs,L=>NM ps vs ((p,v)::L)
 | _,_,L=>L
def inB(n:Nat):List Nat→Bool
 | []=>true
 | p::ps=>Nat.blt p n && inB n ps
def Jt{n:Nat}:∀(ps:List Nat) (vs:List Value) (L:fD) (tmps:Array Value),inB n ps=true→tmps.size=n→(∀t v,dT L t=some v→tmps[t]?=some v) →
  Has n (NM ps vs L) { tmps:=(ps.zip vs).foldl (fun tmps (x:Nat × Value)=>tmps.setIfInBounds x.1 x.2) tmps,defers:=[] }
 | [],vs,L,tmps,_,hs,hg=>⟨hs,trivial,hg⟩
 | p::ps,[],L,tmps,_,hs,hg=>⟨by simpa using hs,trivial,by simpa[NM]using hg⟩
 | p::ps,v::vs,L,tmps,hb,hs,hg=>by
  simp only[inB,Bool.and_eq_true]at hb
  have h1:Has n L { tmps:=tmps,defers:=[] }:=⟨hs,trivial,hg⟩
  have h2:=h1.put hb.1 v
  exact Jt ps vs _ _ hb.2 h2.1 h2.2.2
def J5(R:Ending→World→Prop)(G:cI)(l:Nat)(F:List HP)(Post:Value→List HP→Prop):Prop :=
 (G.ro=some l∧G.ds=[])∧∀v H w,Post v H→Sat G w (H++F)→R (.returned v) w
section
variable{P:Program}{f:FuncId}{n:Nat}{R:Ending→World→Prop}{G:cI}{k:List Item}{L:fD}{H:List HP}{l r:Nat}{st:LoopState}{pd:Option Code}{n0:Nat}{f0:FuncId}{L0:fD}{ps:Array Tmp}{assign body:Code}
def qS{w:World}(hs:Sat G w (bp l st pd f0 n0 L0 ps assign body r::H)):∃tmps:Array Value,(tmps.size=n0∧∀t v,dT L0 t=some v→tmps[t]?=some v)∧Sat G w (ae l (.loop { state:=st,pending:=pd,fn:=f0,tmps:=tmps,params:=ps,assign:=assign,body:=body,defers:=r })::H):=by
 obtain⟨t,o,u,hp,Ht,h1,h2,⟨tmps,ht,hA⟩,hH,hd,he⟩:=hs
 exact⟨tmps,ht,t,o,u,hp,Ht,h1,h2,hA,hH,hd,he⟩
def qR{tmps:Array Value}(ht:tmps.size=n0∧∀t v,dT L0 t=some v→tmps[t]?=some v):ao (ae l (.loop { state:=st,pending:=pd,fn:=f0,tmps:=tmps,params:=ps,assign:=assign,body:=body,defers:=r })::H) (bp l st pd f0 n0 L0 ps assign body r::H) :=
 fun h hs=>⟨h,sub.refl h,fz (fun h hp=>⟨tmps,ht,hp⟩) (fun _ h=>h) hs⟩
def bW.Ea{args:List Value}{Pre:List HP}{Post:Value→List HP→Prop}(Xf:Nat.beq ps.toList.length args.length=true)(qY:inB n0 ps.toList=true)(h:∀G F R,J5 R G l F Post→K P f0 n0 R G [.code assign,.beginRound,.code body] (NM ps.toList args L0) (bp l .ready none f0 n0 L0 ps assign body r::(Pre++F))) :
  bW P l args (bp l .ready none f0 n0 L0 ps assign body r::Pre) Post:=by
 intro G w F hw
 obtain⟨tmps,ht,zK⟩:=qS (H:=Pre++F) hw
 have hg:=zK.get (i:=0) rfl
 have iY:args.toArray.size=ps.size:=by have:=Nat.eq_of_beq_eq_true Xf;simpa using this.symm
 refine⟨_,_,_,_,run_yield hg iY,fun ro=>⟨trivial,fun c cs _=>?_⟩⟩
 have hk:=h { G with ro:=some l,ds:=[] } F (fun e w'=>∃v H,e = .returned v∧Post v H∧Sat G w' (H++F)) ⟨⟨rfl,rfl⟩,fun v H w' hp hs=>⟨v,H,rfl,hp,hs⟩⟩
 have hz:(ps.zip args.toArray).foldl (fun(tmps:Array Value) (x:Tmp × Value)=>tmps.setIfInBounds x.1 x.2) tmps=(ps.toList.zip args).foldl (fun tmps (x:Nat × Value)=>tmps.setIfInBounds x.1 x.2) tmps:=by
  rw[← Array.foldl_toList,Array.toList_zip]
 have ha:sP { G with ro:=some l,ds:=[] } n0 (NM ps.toList args L0) { tmps:=(ps.zip args.toArray).foldl (fun(tmps:Array Value) (x:Tmp × Value)=>tmps.setIfInBounds x.1 x.2) tmps,defers:=[] }:=⟨by rw[hz];exact Jt ps.toList args L0 tmps qY ht.1 ht.2,rfl⟩
 obtain⟨v,w',⟨v',H',he,hp,hs⟩,cL⟩:=hk _ w ha (zK.cN (qR ht)) (c::cs) c cs rfl
 cases he
 exact⟨.returned v,w',⟨v,H',rfl,hp,hs⟩,(StepsIn.of_steps cL).mono fun m _=>ve P ro m⟩
def gl{k0:List Item}(hk:ir 1000 k0 = .mk (.beginRound::k)){F:List HP}{Post:Value→List HP→Prop}(hR:J5 R G l F Post)(h:K P f n R G k L (bp l .busy pd f0 n0 L0 ps assign body r::H)):K P f n R G k0 L (bp l .ready pd f0 n0 L0 ps assign body r::H):=by
 refine gL 1000 hk ?_
 intro a w ha hw cs
 obtain⟨tmps,ht,zK⟩:=qS hw
 have hg:=zK.get (i:=0) rfl
 have hb:=run_beginRound (P:=P) hg rfl
 have Qw:=(zK.BQ (o' := .loop { state := .busy,pending:=pd,fn:=f0,tmps:=tmps,params:=ps,assign:=assign,body:=body,defers:=r })).cN (qR ht)
 exact(h a _ ha Qw cs).of_steps (.one (stepR_beginRound (b:=({ (default:Frame)with fn:=f,kind := .normal,roundOf:=G.ro }:Frame)) hR.1.1 hb))
def AF{a:Act}{w w':World}{k1:List Item}{cs:List Frame}{v:Value}(OM:G.ro=some l)(hR:R (.returned v) w')(hs:∀c j9,step P (lone (bf G.ro f a k1) (c::j9) w) = .next (lone (c.finish v) j9 w')):Mg P f R cs (lone (bf G.ro f a k1) cs w) G.ro:=by
 rw[OM]at hs ⊢
 intro c j9 pE
 subst pE
 exact⟨v,w',hR,.one (hs c j9)⟩
def tX{w:World}(jump:Option Code)(hw:Sat G w (bp l st pd f0 n0 L0 ps assign body r::H)):∃w',(Instr.endRound l jump).run P w = .ok (.bool jump.isNone) w'∧Sat G w' (bp l (if jump.isNone then .ready else .done) jump f0 n0 L0 ps assign body r::H):=by
 obtain⟨tmps,ht,zK⟩:=qS hw
 have hg:=zK.get (i:=0) rfl
 exact⟨_,run_endRound (P:=P) jump hg,(zK.BQ (o' := .loop { state:=if jump.isNone then .ready else .done,pending:=jump,fn:=f0,tmps:=tmps,params:=ps,assign:=assign,body:=body,defers:=r })).cN (qR ht)⟩
def fK{k0:List Item}{F Hq:List HP}{Post:Value→List HP→Prop}(hR:J5 R G l F Post)(hk:ir 1000 k0 = .mk [])(he:ao H (bp l st pd f0 n0 L0 ps assign body r::(Hq++F)))(hp:Post (.bool true) (bp l .ready none f0 n0 L0 ps assign body r::Hq)):K P f n R G k0 L H:=by
 refine gL 1000 hk ?_
 intro a w ha hw cs
 obtain⟨w',h1,h2⟩:=tX (P:=P) none (hw.cN he)
 exact AF hR.1.1 (hR.2 _ _ w' hp h2) fun c j9=>stepR_round_end (b:=({ (default:Frame)with fn:=f,kind := .normal,roundOf:=G.ro }:Frame)) hR.1.1 rfl h1
def zx{k0:List Item}{F Hq:List HP}{Post:Value→List HP→Prop}(hR:J5 R G l F Post)(hk:ir 1000 k0 = .mk (.code .ret::k))(he:ao H (bp l st pd f0 n0 L0 ps assign body r::(Hq++F)))(hp:Post (.bool false) (bp l .done (some .ret) f0 n0 L0 ps assign body r::Hq)):K P f n R G k0 L H:=by
 refine gL 1000 hk ?_
 intro a w ha hw cs
 obtain⟨w',h1,h2⟩:=tX (P:=P) (some .ret) (hw.cN he)
 exact AF hR.1.1 (hR.2 _ _ w' hp h2) fun c j9=>stepR_round_ret (b:=({ (default:Frame)with fn:=f,kind := .normal,roundOf:=G.ro }:Frame)) hR.1.1 rfl h1
def wX{k0:List Item}{g:Operand}{gid:FuncId}{cap:Array Value}{Pre:Nat→Nat→List HP}{Fr:List HP}{Post:Nat→Nat→Value→List HP→Prop}(hk:ir 1000 k0 = .mk (.code (.rangeFunc g ps assign body)::k))(OM:G.ro=none)(hg:ev L g=some (.func (.func gid) #[] cap))(c:∀l r,aE P gid (.func (.yield l) #[] #[]::cap.toList) (bp l .ready none f n L ps assign body r::Pre l r) (Post l r))(he:∀l r,ao H (Pre l r++Fr))(gP:∀l r v H',Post l r v H'→∃st pd Yy,H'=bp l st pd f n L ps assign body r::Yy∧st ≠ .busy ∧
   K P f n R { G with ds:=r::G.ds } ((pd.map Item.code).toList++k) L (Yy++(ae r (.deferred (some []))::Fr))):K P f n R G k0 L H:=by
 refine gL 1000 hk ?_
 intro a w ha hw cs
 let b:Frame:={ (default:Frame)with fn:=f,kind := .normal,roundOf:=G.ro }
 have XH:=run_enterLoop_outer (P:=P) (w:=w) f a.tmps ps assign body
 rw[← OM]at XH
 have zK:Sat G ((w.alloc (.deferred (some []))).alloc (.loop { state := .ready,pending:=none,fn:=f,tmps:=a.tmps,params:=ps,assign,body,defers:=w.heap.size }))
   (bp (w.heap.size+1) .ready none f n L ps assign body w.heap.size::(Pre (w.heap.size+1) w.heap.size++(ae w.heap.size (.deferred (some []))::Fr))):=by
  have h1:=hw.alloc (.deferred (some []))
  have h2:=h1.alloc (.loop { state := .ready,pending:=none,fn:=f,tmps:=a.tmps,params:=ps,assign:=assign,body:=body,defers:=w.heap.size })
  have iY:({ w with heap:=w.heap.push (.deferred (some [])) }:World).heap.size=w.heap.size+1:=by simp
  rw[iY]at h2
  refine Sat.cN h2 ?_
  refine(qR ⟨ha.1.1,ha.1.2.2⟩).trans (ao.cons _ ?_)
  refine(ao.cons _ (he (w.heap.size+1) w.heap.size)).trans ?_
  exact ao.perm (List.perm_middle.symm)
 have Ho:(resolve a.eval (rangeCall g (w.heap.size+1)) 0).run P ((w.alloc (.deferred (some []))).alloc (.loop { state := .ready,pending:=none,fn:=f,tmps:=a.tmps,params:=ps,assign,body,defers:=w.heap.size })) = .ok { target := .fn (.func gid) cap,args := #[.func (.yield (w.heap.size+1)) #[] #[]] } ((w.alloc (.deferred (some []))).alloc (.loop { state := .ready,pending:=none,fn:=f,tmps:=a.tmps,params:=ps,assign,body,defers:=w.heap.size })):=by
  simp only[resolve,rangeCall,Sem.run_bind,ha.ev hg,Deferred.ofValue,Sem.run_pure,Result.andThen_ok]
  simp[Act.eval]
 have hinv:(invoke (.fn (.func gid) cap) #[.func (.yield (w.heap.size+1)) #[] #[]]).run P ((w.alloc (.deferred (some []))).alloc (.loop { state := .ready,pending:=none,fn:=f,tmps:=a.tmps,params:=ps,assign,body,defers:=w.heap.size })) = .ok (.enter gid (Value.func (.yield (w.heap.size+1)) #[] #[]::cap.toList).toArray) ((w.alloc (.deferred (some []))).alloc (.loop { state := .ready,pending:=none,fn:=f,tmps:=a.tmps,params:=ps,assign,body,defers:=w.heap.size })):=by
  simp only[invoke]
  rw[lK (c (w.heap.size+1) w.heap.size).1]
  congr 2
  apply Array.ext';simp
 have HB:=stepR_rangeFunc (P:=P) (b:=b) (a:=a) (k:=k) (cs:=cs) (w:=w) (ps:=ps) (assign:=assign) (body:=body) (g:=g) XH Ho hinv
 obtain⟨e,w3,fr,⟨v,H',rfl,fJ,Qy⟩,XL,RI,Xu⟩:=(c (w.heap.size+1) w.heap.size).2 G _ (ae w.heap.size (.deferred (some []))::Fr) zK (b.atR { a with defers:=[{ target := .collected w.heap.size,args := #[] }]++a.defers } (.inRangeFunc (w.heap.size+1)::k)::cs)
 obtain⟨st,pd,Yy,rfl,cL,hK⟩:=gP _ _ _ _ fJ
 obtain⟨tmps,ht,W9⟩:=qS (H:=Yy++(ae w.heap.size (.deferred (some []))::Fr)) Qy
 have hg4:=W9.get (i:=0) rfl
 have abz:=run_endLoop (P:=P) hg4 cL
 have hs5:=(W9.BQ (o' := .loop { state := .exhausted,pending:=pd,fn:=f,tmps:=tmps,params:=ps,assign:=assign,body:=body,defers:=w.heap.size })).cN (ao.drop _ _)
 have jj:step P (lone fr (b.atR { a with defers:=[{ target := .collected w.heap.size,args := #[] }]++a.defers } (.inRangeFunc (w.heap.size+1)::k)::cs) w3) = .next (lone (b.atR { a with defers:=[{ target := .collected w.heap.size,args := #[] }]++a.defers } (.endRangeFunc (w.heap.size+1)::k)) cs w3):=by
  rw[← finish_atR_inRangeFunc (w.heap.size+1) v];exact step_leave_returned Xu
 have lf:=stepR_endRangeFunc (P:=P) (b:=b) (a:={ a with defers:=[{ target := .collected w.heap.size,args := #[] }]++a.defers }) (k:=k) (cs:=cs) abz
 have kQ:=hK { a with defers:=[{ target := .collected w.heap.size,args := #[] }]++a.defers } _ ⟨⟨ha.1.1,trivial,ha.1.2.2⟩,by rw[show({ G with ds:=w.heap.size::G.ds }:cI).ds=w.heap.size::G.ds from rfl,List.map_cons,ha.2];rfl⟩ hs5 cs
 exact Mg.of_steps (Steps.trans (.one HB) (Steps.trans XL (Steps.trans (.one jj) (.one lf)))) kQ
variable{S:World→Prop}{all:Array Oper}{rest:Pl}{d:Tmp}{ty:TypeId}{pos:String}{af:Array Edge}{gd:Option (Nat × Bool)}
def kT{fo:Operand}{args:Array Operand}{xr:Array TypeId}{vs:List Value}{Pre Fr:List HP}{Post:Value→List HP→Prop}(hd:Nat.blt d n=true)(hf:ev L fo=some (.func (.yield l) #[] #[]))(gS:Gq L args.toList [] = .mk vs)(c:bW P l vs Pre Post)(he:ao H (Pre++Fr))(h:∀v H',Post v H'→J P f n R G S all rest k ((d,v)::L) (H'++Fr))(hS:∀v H' w,Post v H'→Sat G w (H'++Fr)→Sx rest S w) :
  J P f n R G S all (.cons false true ⟨some d,.call { callee := .value fo,args:=args,argTypes:=xr },ty,pos,af,gd⟩ rest) k L H:=by
 intro a w ha hw _
 refine .inl ⟨.inl rfl,.inr ⟨rfl,?_⟩⟩
 obtain⟨fn,tmps,asg,bdy,hy,hr⟩:=c G w Fr (hw.cN he)
 have zL:(execOp a.eval ⟨some d,.call { callee := .value fo,args:=args,argTypes:=xr },ty,pos,af,gd⟩).run P w = .ok (.round l fn tmps asg bdy) w:=by
  simp only[execOp,resolve,Sem.run_bind,ha.ev hf,Deferred.ofValue,Sem.run_pure,Result.andThen_ok,invoke]
  rw[nh ha.1 _ _ gS]
  simpa using hy
 refine l4 (fun c hc=>by cases hc) zL ⟨fun h=>by simp[fw]at h,RoundIn.mono (hr G.ro) ?_⟩
 rintro e w'⟨v,H',rfl,fJ,mR⟩
 exact⟨hS v H' w' fJ mR,h v H' fJ _ w' (ha.put hd v) mR (hS v H' w' fJ mR)⟩
end
end Go.SL
namespace Go.SL
def ao.cJ(l H:List HP):ao (Sep l::H) (l++H):=fun h hs=>⟨h,sub.refl h,jI hs⟩
def ao.bS(l H:List HP):ao (l++H) (Sep l::H):=fun h hs=>⟨h,sub.refl h,mG hs⟩
abbrev fC:=List (Nat × List Value)
def aU(e:TypeId)(M:fC):HP:=Sep (M.map fun x=>ae x.1 (cl x.2 e))
def kM(M:fC)(v:Value)(bs:List UInt8):Prop :=
 ∃a cap,v = .slice a bs.length cap∧bs.length≤cap∧(bs=[]∨∃b o cs,a=Option.some ⟨b,o,none⟩∧(b,cs)∈M∧(cs.drop o).take bs.length=bV bs)
def kM.mono{M M':fC}{v:Value}{bs:List UInt8}(h:kM M v bs)(hs:∀x∈M,x∈M'):kM M' v bs:=by
 obtain⟨a,cap,hv,hc,h0|⟨b,o,cs,ha,hm,ht⟩⟩:=h
 ·exact⟨a,cap,hv,hc,.inl h0⟩
 ·exact⟨a,cap,hv,hc,.inr ⟨b,o,cs,ha,hs _ hm,ht⟩⟩
def kM.nil(M:fC)(a:Option Addr)(cap:Nat):kM M (.slice a 0 cap) []:=⟨a,cap,rfl,Nat.zero_le _,.inl rfl⟩
def CN{l:List HP}{A:HP}{h:Hp}(hA:A∈l)(hs:Sep l h):∃h',sub h' h∧A h':=by
 obtain⟨i,hi⟩:=List.getElem?_of_mem hA
 exact km (uj (di hi) h hs)
def kM.view{M:fC}{v:Value}{bs:List UInt8}(h:kM M v bs)(e:TypeId):Vw (aU e M) v bs.length (bV bs):=by
 obtain⟨a,cap,rfl,_,h0|⟨b,o,cs,ha,hm,ht⟩⟩:=h
 ·subst h0;exact⟨a,cap,rfl,.inl rfl⟩
 ·have h1:Vw (ae b (cl cs e)) (.slice a bs.length cap) bs.length (bV bs):=by
   rw[ha];exact Vw.ae (by rw[bt];exact ht)
  refine h1.mono fun h hs=>?_
  exact CN (List.mem_map.2 ⟨(b,cs),hm,rfl⟩) hs
def kM.shape{M:fC}{v:Value}{bs:List UInt8}(h:kM M v bs):∃a cap,v = .slice a bs.length cap∧bs.length≤cap:=by
 obtain⟨a,cap,hv,hc,_⟩:=h;exact⟨a,cap,hv,hc⟩
def zj(e:TypeId)(b:Nat)(cs:List Value)(M:fC)(H:List HP):ao (ae b (cl cs e)::aU e M::H) (aU e ((b,cs)::M)::H) :=
 ao.fold (B:=[_,_]) fun h hs=>⟨h,sub.refl h,fz (fun _ h=>h) (fun _ h=>eU h) hs⟩
def kM.row{M:fC}{b cap:Nat}{bs:List UInt8}(hc:bs.length≤cap):kM ((b,bV bs)::M) (.slice (Option.some ⟨b,0,none⟩) bs.length cap) bs :=
 ⟨_,cap,rfl,hc,.inr ⟨b,0,bV bs,rfl,by simp,by rw[← bt];simp⟩⟩
def PH(e:TypeId)(v:Value)(bs:List UInt8)(M:fC):∀h,star (az e 1 v bs.length (bV bs)) (aU e M) h→∃M',kM M' v bs∧(∀x∈M,x∈M')∧aU e M' h:=by
 rintro h⟨h1,h2,⟨hl,⟨a,rfl,hn,he⟩|⟨b,o,cap,pre,bR,rfl,hp,hn,hc,wM⟩⟩,hM,hd,hj⟩
 ·have hb:bs=[]:=List.eq_nil_of_length_eq_zero hn
  subst hb
  exact⟨M,kM.nil M a 0,fun _ h=>h,yU ⟨h1,h2,he,hM,hd,hj⟩⟩
 ·refine⟨(b,pre++bV bs++bR)::M,⟨_,cap,rfl,hn,.inr ⟨b,o,pre++bV bs++bR,rfl,by simp,?_⟩⟩,fun x hx=>by simp[hx],⟨h1,h2,wM,hM,hd,hj⟩⟩
  subst hp
  rw[List.append_assoc,List.drop_left,← bt bs,List.take_left]
def kM.tail{M:fC}{b o n cap:Nat}{x:UInt8}{bs:List UInt8}(h:kM M (.slice (Option.some ⟨b,o,none⟩) n cap) (x::bs))(o' gQ:Nat)(h1:bs≠[]→o'=o+1)(lr:bs.length≤gQ):kM M (.slice (Option.some ⟨b,o',none⟩) bs.length gQ) bs:=by
 by_cases h0:bs=[]
 ·subst h0;exact kM.nil _ _ _
 ·have:=h1 h0
  subst this
  obtain⟨a,o7,hv,_,h2|⟨b',o2,cs,ha,hm,ht⟩⟩:=h
  ·cases h2
  ·simp only[Value.slice.injEq]at hv
   obtain⟨rfl,_,rfl⟩:=hv
   simp only[Option.some.injEq,Addr.mk.injEq,and_true]at ha
   obtain⟨rfl,rfl⟩:=ha
   refine⟨_,gQ,rfl,lr,.inr ⟨b,o+1,cs,rfl,hm,?_⟩⟩
   rw[List.length_cons]at ht
   rw[show o+1=1+o by omega,← List.drop_drop]
   have h3:=congrArg (List.drop 1) ht
   rw[List.drop_take]at h3
   simpa[bV,Nat.add_comm]using h3
def kM.piece{M:fC}{b o n cap:Nat}{bs:List UInt8}(h:kM M (.slice (Option.some ⟨b,o,none⟩) n cap) bs)(o' gQ p k:Nat)(Gh:p+k≤bs.length)(h1:k≠0→o'=o+p)(lr:k≤gQ):kM M (.slice (Option.some ⟨b,o',none⟩) k gQ) ((bs.drop p).take k):=by
 have hl:((bs.drop p).take k).length=k:=by rw[List.length_take,List.length_drop];omega
 by_cases h0:k=0
 ·subst h0;rw[List.take_zero];exact kM.nil _ _ _
 ·have:=h1 h0
  subst this
  obtain⟨a,o7,hv,_,h2|⟨b',o2,cs,ha,hm,ht⟩⟩:=h
  ·subst h2;simp only[List.length_nil]at Gh;omega
  ·simp only[Value.slice.injEq]at hv
   obtain⟨rfl,_,rfl⟩:=hv
   simp only[Option.some.injEq,Addr.mk.injEq,and_true]at ha
   obtain⟨rfl,rfl⟩:=ha
   refine⟨_,gQ,by rw[hl],by rw[hl];exact lr,.inr ⟨b,o+p,cs,rfl,hm,?_⟩⟩
   rw[hl,← List.drop_drop]
   have h3:=congrArg (fun l=>(l.drop p).take k) ht
   simp only[List.drop_take,List.take_take]at h3
   rw[show min k (bs.length-p)=k by omega]at h3
   rw[h3]
   simp only[bV,List.map_drop,List.map_take]
def kM.cut{M:fC}{a:Option Addr}{n cap:Nat}{bs:List UInt8}(h:kM M (.slice a n cap) bs)(p k:Nat)(Gh:p+k≤bs.length):kM M (.slice (sliceAt a cap p 1) k (cap-p)) ((bs.drop p).take k):=by
 obtain⟨a',gQ,hv,hc,h0⟩:=h
 simp only[Value.slice.injEq]at hv
 obtain⟨rfl,hn,rfl⟩:=hv
 by_cases hk:k=0
 ·subst hk;rw[List.take_zero];exact kM.nil _ _ _
 ·rcases h0 with h0|⟨b,o,cs,rfl,hm,ht⟩
  ·subst h0;simp only[List.length_nil]at Gh;omega
  ·have e:sliceAt (Option.some ⟨b,o,none⟩) cap p 1=Option.some ⟨b,o+p,none⟩:=by
    unfold sliceAt
    rw[if_neg ag,Option.map_some,Addr.add_eq,Nat.mul_one]
   rw[e]
   exact kM.piece (o:=o) (n:=bs.length) (cap:=cap) ⟨_,_,rfl,hc,.inr ⟨b,o,cs,rfl,hm,ht⟩⟩ _ _ p k Gh (fun _=>rfl) ag
def aT{α:Type}(g:α→HP)(l:List α):HP:=Sep (l.map g)
def ie{α:Type}(g:α→HP){l:List α}{i:Nat}{x:α}(hi:l[i]?=Option.some x)(H:List HP):ao (aT g l::H) (g x::aT g (l.eraseIdx i)::H):=fun h hs=>by
 refine⟨h,sub.refl h,kV (fz (fun h hs=>?_) (fun _ h=>h) hs)⟩
 have h1:(l.map g)[i]?=Option.some (g x):=by simp[hi]
 have h2:=uj (di h1) h hs
 rw[← ig]at h2
 exact h2
def pN{α:Type}(g:α→HP){l:List α}{i:Nat}{x:α}(hi:l[i]?=Option.some x)(H:List HP):ao (g x::aT g (l.eraseIdx i)::H) (aT g l::H):=fun h hs=>by
 refine⟨h,sub.refl h,fz (fun h hs=>?_) (fun _ h=>h) (ko hs)⟩
 have h1:(l.map g)[i]?=Option.some (g x):=by simp[hi]
 refine uj (di h1).symm h ?_
 rw[← ig]
 exact hs
def nI{α:Type}(g:α→HP){l:List α}{i:Nat}{x y:α}(hi:l[i]?=Option.some x)(H:List HP):ao (g y::aT g (l.eraseIdx i)::H) (aT g (l.set i y)::H):=by
 have cW:i<l.length:=by
  rcases Nat.lt_or_ge i l.length with h|h
  ·exact h
  ·rw[List.getElem?_eq_none h]at hi;cases hi
 have h1:(l.set i y)[i]?=Option.some y:=by simp[cW]
 have h2:=pN g h1 H
 have h3:(l.set i y).eraseIdx i=l.eraseIdx i:=by
  clear hi h1 h2
  induction l generalizing i with
  | nil=>simp
  | cons z l ih=>cases i with
   | zero=>simp
   | succ i=>simp at cW ⊢;exact ih cW
 rw[h3]at h2
 exact h2
def qJ{α:Type}(g:α→HP)(x:α)(l:List α)(H:List HP):ao (g x::aT g l::H) (aT g (x::l)::H):=fun h hs=>⟨h,sub.refl h,ko hs⟩
def Ay{α:Type}{g:α→HP}{l:List α}{x:α}(hx:x∈l){h:Hp}(hs:aT g l h):∃h',sub h' h∧g x h':=CN (List.mem_map.2 ⟨x,hx,rfl⟩) hs
def ub(e:TypeId)(H:List HP):ao H (aU e []::H):=ao.qt H
def Ax{α:Type}(g:α→HP)(H:List HP):ao H (aT g []::H):=ao.qt H
structure Ab where
 room:Nat
 fs:List (Nat × List UInt8 × List UInt8)
 names:List (ByteArray × Nat)
 aw:List (List (ByteArray × Nat))
 writes:List (Nat × Nat × List UInt8)
 dS:List UInt8
 off:Bool
namespace Ab
def meet(A:Ab)(may:Bool):Nat × Ab :=
 if may=false then(1,A)else if A.off=true then(7,A)else match A.dS with
 | []=>(0,A)
 | x::p=>if x=1 then(6,{ A with dS:=p })else if x=2 then(7,{ A with dS:=p,off:=true })else(0,{ A with dS:=p })
def cM(l:List (ByteArray × Nat))(name:ByteArray):Option Nat:=(l.find? fun x=>decide (x.1=name)).map (·.2)
def look(A:Ab)(name:ByteArray):Option Nat:=cM A.names name
def file(A:Ab)(f:Nat):List UInt8 × List UInt8:=((A.fs.find? fun x=>decide (x.1=f)).map (·.2)).getD ([],[])
def now(A:Ab)(f:Nat):List UInt8:=(A.file f).1
def sure(A:Ab)(f:Nat):List UInt8:=(A.file f).2
def find(A:Ab)(name:ByteArray)(may:Bool):Nat × Option Nat × Ab :=
 if(A.meet may).1=0 then match (A.meet may).2.look name with
  | none=>(4,none,(A.meet may).2)
  | some f=>(0,some f,(A.meet may).2)
 else((A.meet may).1,none,(A.meet may).2)
def used(A:Ab):Nat:=(A.names.map fun x=>(A.now x.2).length).sum
def new(room:Nat):Ab:=⟨room,[],[],[[]],[],[],false⟩
def jT(l:List (ByteArray × Nat))(k:ByteArray)(f:Nat):List (ByteArray × Nat):=if(cM l k).isSome then l.map (fun x=>if x.1=k then(k,f)else x)else l++[(k,f)]
def dE(l:List (ByteArray × Nat))(k:ByteArray):List (ByteArray × Nat):=l.filter fun x => !decide (x.1=k)
def ni(A:Ab)(nm:List (ByteArray × Nat)):Ab:={ A with names:=nm,aw:=A.aw++[nm] }
def create(A:Ab)(ok:Bool)(name:ByteArray)(f:Nat):Nat × Ab :=
 if(A.meet ok).1=0 then
  if((A.meet ok).2.look name).isSome then(5,(A.meet ok).2)
  else if 200≤(A.meet ok).2.names.length then(3,(A.meet ok).2)
  else(0,{ (A.meet ok).2.ni ((A.meet ok).2.names++[(name,f)])with fs:=(f,[],[])::(A.meet ok).2.fs })
 else((A.meet ok).1,(A.meet ok).2)
def remove(A:Ab)(ok:Bool)(name:ByteArray):Nat × Ab:=match A.find name ok with
 | (0,some _,A1)=>(0,A1.ni (dE A1.names name))
 | (e,_,A1)=>(e,A1)
def rename(A:Ab)(ok:Bool)(old name:ByteArray):Nat × Ab:=match A.find old ok with
 | (0,some f,A1)=>(0,A1.ni (jT (dE A1.names old) name f))
 | (e,_,A1)=>(e,A1)
def BH(fs:List (Nat × List UInt8 × List UInt8))(f:Nat)(n:List UInt8):List (Nat × List UInt8 × List UInt8):=fs.map fun x=>if x.1=f then(x.1,n,x.2.2)else x
def write(A:Ab)(ok:Bool)(name:ByteArray)(at_:Nat)(b:List UInt8):Nat × Ab :=
 if(A.find name ok).1=0 then match (A.find name ok).2.1 with
  | some f=>if(A.find name ok).2.2.room<(A.find name ok).2.2.used+(at_+b.length-((A.find name ok).2.2.now f).length)then(3,(A.find name ok).2.2)
   else(0,{ (A.find name ok).2.2 with fs:=BH (A.find name ok).2.2.fs f (bN ((A.find name ok).2.2.now f) at_ b),writes:=(A.find name ok).2.2.writes++[(f,at_,b)] })
  | none=>(0,(A.find name ok).2.2)
 else((A.find name ok).1,(A.find name ok).2.2)
def size(A:Ab)(name:ByteArray):Nat × Nat:=match A.look name with
 | none=>(0,4)
 | some f=>((A.now f).length,0)
def read(A:Ab)(name:ByteArray)(at_ n:Int):List UInt8 × Nat :=
 if A.off=true then([],7)else match A.look name with
  | none=>([],4)
  | some f=>if at_<0∨n<0∨((A.now f).length:Int)<at_∨((A.now f).length:Int)-at_<n then([],1)else(((A.now f).drop at_.toNat).take n.toNat,0)
def ct(A:Ab):Nat × Ab:=if(A.meet true).1=0 then(0,{ (A.meet true).2 with aw:=[(A.meet true).2.names] })else((A.meet true).1,(A.meet true).2)
def nG(fs:List (Nat × List UInt8 × List UInt8))(f:Nat):List (Nat × List UInt8 × List UInt8):=fs.map fun x=>if x.1=f then(x.1,x.2.1,x.2.1)else x
def sync(A:Ab)(ok:Bool)(name:ByteArray):Nat × Ab :=
 if(A.find name ok).1=0 then match (A.find name ok).2.1 with
  | some f=>(0,{ (A.find name ok).2.2 with fs:=nG (A.find name ok).2.2.fs f,writes:=(A.find name ok).2.2.writes.filter fun x => !decide (x.1=f) })
  | none=>(0,(A.find name ok).2.2)
 else((A.find name ok).1,(A.find name ok).2.2)
def kept(stay:List UInt8)(dK cut:Int)(i:Nat)(b:List UInt8):Option (List UInt8) :=
 if(i:Int)=dK then(let c:=b.take (max 0 (min cut b.length)).toNat;if c=[]then none else some c)
 else if(i/8<stay.length∧((stay.getD (i/8) 0).toNat/2 ^ (i%8))%2=1)then some b else none
def s9(fs:List (Nat × List UInt8 × List UInt8))(f:Nat)(s:List UInt8):List (Nat × List UInt8 × List UInt8):=fs.map fun x=>if x.1=f then(x.1,x.2.1,s)else x
def jE(stay:List UInt8)(dK cut:Int):Nat→List (Nat × Nat × List UInt8)→List (Nat × List UInt8 × List UInt8)→List (Nat × List UInt8 × List UInt8)
 | _,[],fs=>fs
 | i,w::ws,fs=>match kept stay dK cut i w.2.2 with
  | none=>jE stay dK cut (i+1) ws fs
  | some c=>jE stay dK cut (i+1) ws (s9 fs w.1 (bN (((fs.find? fun x=>decide (x.1=w.1)).map (·.2)).getD ([],[])).2 w.2.1 c))
def reach(kj:List (List (ByteArray × Nat))):List Nat:=kj.flatMap fun st=>st.map (·.2)
def dA(A:Ab)(last:Int)(stay:List UInt8)(dK cut:Int):Ab :=
 let nm:=A.aw.getD (max 0 (min last (A.aw.length-1))).toNat []
 let fs:=jE stay dK cut 0 A.writes A.fs
 { A with names:=nm,aw:=[nm],writes:=[],dS:=[],off:=false,fs:=fs.map fun x=>if x.1∈reach (A.aw++[nm])then(x.1,x.2.2,x.2.2)else x }
end Ab
section
variable{P:Program}{U:Tr}[hU:fV P U]{f:FuncId}{n:Nat}{R:Ending→World→Prop}{G:cI}{k:List Item}{L:fD}{H H':List HP}{S:World→Prop}{all:Array Oper}{rest:Pl}{ty:TypeId}{pos:String}{af:Array Edge}{gd:Option (Nat × Bool)}{m:Bool}{d:Tmp}
def xi(z:Value)(q:Nat):(Builtin.zeroCells z.cells q).toList=(List.replicate q (bo z)).flatten:=by
 have pE:z.cells.size=(bo z).length:=by rw[dP];simp
 unfold Builtin.zeroCells
 simp only[Array.toList_map,Array.toList_range,pE]
 rw[dP]
 induction q with
 | zero=>simp
 | succ q ih =>
  rw[List.replicate_succ',List.flatten_append,← ih,Nat.succ_mul,List.range_add,List.map_append]
  congr 1
  simp only[List.map_map,List.flatten_cons,List.flatten_nil,List.append_nil]
  apply List.ext_getElem?
  intro j
  by_cases hj:j<(bo z).length
  ·simp only[List.getElem?_map,List.getElem?_range hj,Option.map_some,Function.comp]
   rw[Nat.mul_comm,Nat.mul_add_mod,Nat.mod_eq_of_lt hj]
   simp[hj]
  ·rw[List.getElem?_eq_none (by simp;omega),List.getElem?_eq_none ag]
def DG{t t2 elem rty:TypeId}{bQ Ge te:Ty}{z:Value}{a0:Option Addr}{kk cap mm:Nat}{q:IntKind}{cs:List Value}{A:HP}{w:World}(i:Nat)(ht:U.get t=some bQ)(hu:bQ.gy = .slice elem)(h2:U.get t2=some Ge)(RX:Ge.gy = .int q)(he:U.get elem=some te)(hz:te.info.zero=some z)(ML:(bo z).length=te.info.size)(iY:0<te.info.size)(hw:Sat G w H)(hi:cE H i=some A)(hv:Vw A (.slice a0 kk cap) kk cs)(hl:cs.length=kk*te.info.size)(QC:cap<kk+mm)(zN:0<mm)(Lg:kk+mm≤9223372036854775807)(hmm:mm*te.info.bytes≤140737488355328)(qi:(kk+mm)*te.info.bytes≤140737488355328) :
  (Builtin.append_ #[t,t2] rty #[.slice a0 kk cap,.int .i64 (mm:Int)]).run P w = .ok (.slice (some ⟨w.heap.size,0,none⟩) (kk+mm) (grownCap w (kk+mm) cap elem))
   (w.drew.alloc (cl (cs++(List.replicate mm (bo z)).flatten++(Builtin.zeroCells z.cells (grownCap w (kk+mm) cap elem-(kk+mm))).toList) elem)):=by
 have u4:∀ {w:World},(underlying t2).run P w = .ok Ge.gy w:=fun {w}=>run_underlying h2 w
 have YL:(Ge.gy matches .int _)=true:=by rw[RX]
 have z7:¬kk+mm≤cap:=by omega
 have hgs:=growslice_fits (need:=kk+mm) (old:=cap) (bytes:=te.info.bytes) ag qi
 have Li:=nK (P:=P) (G:=G) (w:=w.drew) hv (hw.draw _) hi hl
 have Hw:¬((9223372036854775807:Int)<(kk:Int)+(mm:Int)):=by omega
 have XB:¬281474976710656<Builtin.nextslicecap (kk+mm) cap*te.info.bytes:=by omega
 have qd:IntKind.i64.wrap (mm:Int)=mm:=cQ (by simp only[gn];omega)
 have adm:¬((mm:Int)<0):=by omega
 have pF:¬((281474976710656:Int)<(mm:Int)*(te.info.bytes:Int)):=by
  have:((mm*te.info.bytes:Nat):Int)≤140737488355328:=by omega
  rw[Int.natCast_mul]at this;omega
 have bZ:¬(mm*te.info.size=0):=Nat.ne_of_gt (Nat.mul_pos zN iY)
 have hzc:=xi z mm
 simp[Builtin.append_,run_underlying ht,hu,run_sizeOf he,u4,YL,asInt,asIntOf,qd,adm,pF,z7,Hw,XB,Question.forced,run_typeInfo he,dX he hz,newRow,Li,grownCap,cl,bZ,RX]
 congr 2
 apply Array.ext'
 simp[hzc]
def Mu{x y:Operand}{t t2 elem:TypeId}{bQ Ge te:Ty}{z:Value}{a0:Option Addr}{kk cap mm:Nat}{q:IntKind}{cs:List Value}{A:HP}(i:Nat)(hd:Nat.blt d n=true)(hx:ev L x=some (.slice a0 kk cap))(hy:ev L y=some (.int .i64 (mm:Int)))(ht:U.get t=some bQ)(hu:bQ.gy = .slice elem)(h2:U.get t2=some Ge)(RX:Ge.gy = .int q)(he:U.get elem=some te)(hz:te.info.zero=some z)(ML:Nat.beq (bo z).length te.info.size=true)(iY:Nat.blt 0 te.info.size=true)(hi:cE H i=some A)(hv:Vw A (.slice a0 kk cap) kk cs)(hl:cs.length=kk*te.info.size)(QC:cap<kk+mm)(zN:0<mm)(Lg:kk+mm≤9223372036854775807)(hmm:mm*te.info.bytes≤140737488355328)(qi:(kk+mm)*te.info.bytes≤140737488355328)(hS:∀v' w,Sat G w (az elem te.info.size v' (kk+mm) (cs++(List.replicate mm (bo z)).flatten)::H)→Sx rest S w)(h:∀v',J P f n R G S all rest k ((d,v')::L) (az elem te.info.size v' (kk+mm) (cs++(List.replicate mm (bo z)).flatten)::H)) :
  J P f n R G S all (.cons false true ⟨some d,.call { callee := .builtin .append,args := #[x,y],argTypes := #[t,t2] },ty,pos,af,gd⟩ rest) k L H:=by
 refine oy hd (fun u H1=>H1=az elem te.info.size u (kk+mm) (cs++(List.replicate mm (bo z)).flatten)::H) (fun a w ha hw=>?_) ?_ ?_
 ·have hr:=DG (P:=P) (rty:=ty) i ht hu h2 RX he hz (Nat.eq_of_beq_eq_true ML) (by simpa[Nat.blt_eq]using iY) hw hi hv hl QC zN Lg hmm qi
  refine⟨.slice (some ⟨w.heap.size,0,none⟩) (kk+mm) (grownCap w (kk+mm) cap elem),w.drew.alloc (cl (cs++(List.replicate mm (bo z)).flatten++(Builtin.zeroCells z.cells (grownCap w (kk+mm) cap elem-(kk+mm))).toList) elem),_,?_,rfl,?_⟩
  ·simp[execOp,resolve,invoke,builtin,ha.ev hx,ha.ev hy,hr]
  ·have h5:=Sat.alloc (w:=w.drew) (hw.draw _) (cl (cs++(List.replicate mm (bo z)).flatten++(Builtin.zeroCells z.cells (grownCap w (kk+mm) cap elem-(kk+mm))).toList) elem)
   refine h5.cN (ao.fold (B:=[_]) fun h hs=>⟨h,sub.refl h,?_⟩)
   have fg:=grownCap_ge w (kk+mm) cap elem
   have OC:(List.replicate mm (bo z)).flatten.length=mm*te.info.size:=by rw[mw,Nat.eq_of_beq_eq_true ML]
   refine⟨by simp only[List.length_append,hl,OC,Nat.add_mul],.inr ⟨w.heap.size,0,_,[],_,rfl,rfl,fg,?_,by simpa using eU hs⟩⟩
   have h7:(Builtin.zeroCells z.cells (grownCap w (kk+mm) cap elem-(kk+mm))).size=(grownCap w (kk+mm) cap elem-(kk+mm))*te.info.size:=by rw[size_zeroCells,dP];simp[Nat.eq_of_beq_eq_true ML]
   rw[List.length_append,hl,OC,Array.length_toList,h7,← Nat.add_mul,← Nat.add_mul]
   exact Nat.le_of_eq (by congr 1;omega)
 ·rintro u H1 w rfl hw;exact hS u w hw
 ·rintro u H1 rfl;exact h u
def TD{x:Operand}{t:TypeId}{bQ:Ty}{e:TypeId}{a0:Option Addr}{len cap:Nat}(hd:Nat.blt d n=true)(hx:ev L x=some (.slice a0 len cap))(ht:U.get t=some bQ)(hu:bQ.gy = .slice e)(h:J P f n R G S all rest k ((d,.int .i64 (cap:Int))::L) H):J P f n R G S all (.cons m true ⟨some d,.call { callee := .builtin .cap,args := #[x],argTypes := #[t] },ty,pos,af,gd⟩ rest) k L H:=by
 refine du hd (fun a ha w=>?_) h
 simp[execOp,resolve,invoke,builtin,ha.ev hx,Builtin.cap_,run_underlying ht,hu,goInt]
end
end Go.SL
namespace Go.SL
def Vw.front{A:HP}{b o n cap:Nat}{cs:List Value}(h:Vw A (.slice (Option.some ⟨b,o,none⟩) n cap) n cs)(i gQ q:Nat):Vw A (.slice (Option.some ⟨b,o,none⟩) i gQ) i (cs.take q):=by
 obtain⟨a,o7,hv,h0|⟨b',o',ha,hc⟩⟩:=h
 ·subst h0;exact⟨_,gQ,rfl,.inl (by simp)⟩
 ·simp only[Value.slice.injEq,true_and]at hv
  obtain⟨rfl,_⟩:=hv
  simp only[Option.some.injEq,Addr.mk.injEq,and_true]at ha
  obtain⟨rfl,rfl⟩:=ha
  refine⟨_,gQ,rfl,.inr ⟨b,o,rfl,fun h hA j c hj=>?_⟩⟩
  rw[List.getElem?_take]at hj
  split at hj
  ·exact hc h hA j c hj
  ·cases hj
def Vw.back{A:HP}{b o n cap:Nat}{cs:List Value}(h:Vw A (.slice (Option.some ⟨b,o,none⟩) n cap) n cs)(i gQ q:Nat):Vw A (.slice (Option.some ⟨b,o+q,none⟩) i gQ) i (cs.drop q):=by
 obtain⟨a,o7,hv,h0|⟨b',o',ha,hc⟩⟩:=h
 ·subst h0;exact⟨_,gQ,rfl,.inl (by simp)⟩
 ·simp only[Value.slice.injEq,true_and]at hv
  obtain⟨rfl,_⟩:=hv
  simp only[Option.some.injEq,Addr.mk.injEq,and_true]at ha
  obtain⟨rfl,rfl⟩:=ha
  refine⟨_,gQ,rfl,.inr ⟨b,o+q,rfl,fun h hA j c hj=>?_⟩⟩
  rw[List.getElem?_drop]at hj
  rw[Nat.add_assoc]
  exact hc h hA (q+j) c hj
def tp(b o cap p sz:Nat)(h:p≠cap):sliceAt (some ⟨b,o,none⟩) cap p sz=some ⟨b,o+p*sz,none⟩:=by
 unfold sliceAt;rw[if_neg h,Option.map_some,Addr.add_eq]
section
variable{P:Program}{U:Tr}[hU:fV P U]{f:FuncId}{n:Nat}{R:Ending→World→Prop}{G:cI}{k:List Item}{L:fD}{H H':List HP}{S:World→Prop}{all:Array Oper}{rest:Pl}{ty:TypeId}{pos:String}{af:Array Edge}{gd:Option (Nat × Bool)}{m:Bool}{d:Tmp}
def Yo{e:TypeId}{sz nn:Nat}{v:Value}{cs:List Value}(i:Nat)(hi:cE H i=some (az e sz v nn cs))(h0:0<nn)(h:∀b o c,v = .slice (some ⟨b,o,none⟩) nn c→nn≤c→cs.length=nn*sz→Vw (az e sz v nn cs) v nn cs→K P f n R G k L H):K P f n R G k L H :=
 rX fun⟨w,hw⟩=>by
  obtain⟨h1,_,hA⟩:=hw.lj hi
  have hv:=Vw.oR e sz v nn cs ⟨h1,hA⟩
  obtain⟨hl,⟨a,rfl,rfl,_⟩|⟨b,o,cap,pre,bR,rfl,_,hc,_⟩⟩:=hA
  ·omega
  ·exact h _ _ _ rfl hc hl hv
def Kk{e:TypeId}{b o c nn sz:Nat}{cs:List Value}(h0:0<nn):∀h,az e sz (.slice (some ⟨b,o,none⟩) nn c) nn cs h→∃x:List Value × List Value,(x.1.length=o∧nn≤c∧c*sz≤cs.length+x.2.length∧cs.length=nn*sz)∧Sep [ae b (cl (x.1++cs++x.2) e)] h:=by
 rintro h⟨hl,⟨a,hv,rfl,he⟩|⟨b',o',cap,pre,bR,hv,hp,hn,hc,wM⟩⟩
 ·omega
 ·simp only[Value.slice.injEq,Option.some.injEq,Addr.mk.injEq,and_true,true_and]at hv
  obtain⟨⟨rfl,rfl⟩,rfl⟩:=hv
  exact⟨(pre,bR),⟨hp,hn,hc,hl⟩,gk wM⟩
def iO(b o cap sz:Nat):sliceAt (some ⟨b,o,none⟩) cap 0 sz=some ⟨b,o,none⟩:=by
 unfold sliceAt;split
 ·rfl
 ·rw[Option.map_some,Addr.add_eq];simp
def J0{x y:Operand}{t t2 elem:TypeId}{bQ te:Ty}{v2:Value}{b o dl dc mm:Nat}{l src l':List Value}{e:TypeId}{A:HP}(i j:Nat)(hd:Nat.blt d n=true)(hx:ev L x=some (.slice (some ⟨b,o,none⟩) dl dc))(hy:ev L y=some v2)(ht:U.get t=some bQ)(hu:bQ.gy = .slice elem)(he:U.get elem=some te)(hi:cE H i=some (ae b (cl l e)))(hj:cE H j=some A)(ry:Vw A v2 mm src)(rA:src.length=mm*te.info.size)(gI:∀u∈src.take (min mm dl*te.info.size),u.oneCell'=true)(yC:o+(min mm dl)*te.info.size≤l.length)(RC:l'=l.take o++src.take (min mm dl*te.info.size)++l.drop (o+min mm dl*te.info.size))(hp:lL i (ae b (cl l' e)) H [] = .mk H')(hS:∀w,Sat G w H'→Sx rest S w)(h:J P f n R G S all rest k ((d,.int .i64 (min mm dl:Nat))::L) H') :
  J P f n R G S all (.cons false true ⟨some d,.call { callee := .builtin .copy,args := #[x,y],argTypes := #[t,t2] },ty,pos,af,gd⟩ rest) k L H:=by
 refine oy hd (fun u H1=>u = .int .i64 (min mm dl:Nat)∧H1=H') (fun a w ha hw=>?_) ?_ ?_
 ·have hf:=xN (P:=P) (q:=min mm dl) ry hw hj rA (Nat.min_le_left _ _)
  obtain⟨a2,c2,hv',_⟩:=ry
  subst hv'
  have h3:(src.take (min mm dl*te.info.size)).length=min mm dl*te.info.size:=by rw[List.length_take,rA];exact Nat.min_eq_left (Nat.mul_le_mul_right _ (Nat.min_le_left _ _))
  have cL:=gE (P:=P) (src.take (min mm dl*te.info.size)) 0 o l w (hw.tS hi) (by rw[h3];simpa using yC) gI
  simp only[Nat.add_zero,h3,← RC]at cL
  refine⟨_,_,H',?_,⟨rfl,rfl⟩,hw.put hi hp⟩
  simp only[execOp,resolve,invoke,builtin,Sem.run_bind,Sem.run_pure,Result.andThen_ok,List.map_toArray,List.map_cons,List.map_nil,ha.ev hx,ha.ev hy,Builtin.copy_,List.getElem?_toArray,List.getElem?_cons_zero,List.getElem?_cons_succ,
   run_underlying ht,hu,Builtin.lenOf,run_sizeOf he]
  rw[show Nat.min mm dl=min mm dl from rfl]
  simp only[hf,Result.andThen_ok,cL,goInt]
 ·rintro u H1 w⟨rfl,rfl⟩ hw;exact hS w hw
 ·rintro u H1⟨rfl,rfl⟩;exact h
end
end Go.SL
namespace Go.SL
def Vw.ad1{A:HP}{a:Option Addr}{n cap s:Nat}{cs:List Value}(h:Vw A (.slice a n cap) n cs)(k:Nat):Vw A (.slice (sliceAt a cap 0 s) k cap) k (cs.take (k*s)):=by
 have h':=h
 obtain⟨a',o7,hv,h0|⟨b',o',ha,hc⟩⟩:=h
 ·subst h0;exact⟨_,cap,rfl,.inl (by simp)⟩
 ·simp only[Value.slice.injEq,true_and]at hv
  obtain⟨rfl,_⟩:=hv
  subst ha
  rw[iO]
  exact h'.front k cap (k*s)
def Vw.Pw{A:HP}{a:Option Addr}{n cap s:Nat}{cs:List Value}(h:Vw A (.slice a n cap) n cs)(hl:cs.length=n*s)(hn:n≤cap)(k:Nat)(hk:k≤n):Vw A (.slice (sliceAt a cap k s) (n-k) (cap-k)) (n-k) (cs.drop (k*s)):=by
 have h':=h
 obtain⟨a',o7,hv,h0|⟨b',o',ha,hc⟩⟩:=h
 ·subst h0;exact⟨_,_,rfl,.inl (by simp)⟩
 ·simp only[Value.slice.injEq,true_and]at hv
  obtain⟨rfl,_⟩:=hv
  subst ha
  by_cases MQ:k=cap
  ·have:cs.drop (k*s)=[]:=List.eq_nil_of_length_eq_zero (by rw[List.length_drop,hl,MQ,show n=cap from by omega];omega)
   rw[this];exact⟨_,_,rfl,.inl rfl⟩
  ·rw[tp _ _ _ _ _ MQ]
   exact h'.back (n-k) (cap-k) (k*s)
section
variable{P:Program}{U:Tr}[hU:fV P U]{f:FuncId}{n:Nat}{R:Ending→World→Prop}{G:cI}{k:List Item}{L:fD}{H H':List HP}{S:World→Prop}{all:Array Oper}{rest:Pl}{ty:TypeId}{pos:String}{af:Array Edge}{gd:Option (Nat × Bool)}{m:Bool}{d:Tmp}
def FN{t:TypeId}{x y:Operand}{b o q off c nn sz:Nat}{bQ:Ty}{u:Value}{e:TypeId}{cs:List Value}(i:Nat)(hS:∀w,Sat G w H'→Sx rest S w)(hx:ev L x=some (.pointer (some ⟨b,off,none⟩)))(ji:off=o+q)(hy:ev L y=some u)(ht:U.get t=some bQ)(iY:Nat.beq bQ.info.size 1=true)(hc:bo u=[u])(gI:iL [u]=true)(hi:cE H i=some (az e sz (.slice (some ⟨b,o,none⟩) nn c) nn cs))(h0:0<nn)(hq:q<nn*sz)(hp:lL i (az e sz (.slice (some ⟨b,o,none⟩) nn c) nn (cs.set q u)) H [] = .mk H')(h:J P f n R G S all rest k L H'):J P f n R G S all (.cons false true ⟨none,.store t x y,ty,pos,af,gd⟩ rest) k L H:=by
 subst ji
 refine aI (ao.perm (di (by rw[← dI];exact hi))) ?_
 refine Ir (B:=fun x:List Value × List Value=>[ae b (cl (x.1++cs++x.2) e)]) (fun h hs=>Kk h0 h hs) ?_
 rintro⟨pre,bR⟩⟨h1,h2,h3,h4⟩
 simp only at h1 h2 h3 h4
 have iq:(pre++cs++bR).set (o+q) u=pre++cs.set q u++bR:=by
  rw[List.append_assoc,List.set_append_right _ _ ag,show o+q-pre.length=q by omega,List.set_append_left _ _ ag,List.append_assoc]
 have hE:ao (ae b (cl (pre++cs.set q u++bR) e)::H.eraseIdx i) H':=by
  have h5:=oO i _ _ H [] H' hp hi
  exact(l7 h1 h2 (by rw[List.length_set];exact h3) (by rw[List.length_set];exact h4) _).trans (ao.perm (by simpa using h5.symm))
 refine eV (U:=U) (l':=pre++cs.set q u++bR) 0 (fun w hw=>hS w (hw.cN hE)) hx hy ht (by rw[hc,Nat.eq_of_beq_eq_true iY];rfl) (by rw[hc];rfl) (by rw[hc];exact gI) rfl ?_ rfl (aI hE h)
 rw[hc,IQ _ _ _ _ (by simp;omega),← iq]
 rfl
end
end Go.SL
namespace Go.SL
section
variable{P:Program}{U:Tr}[hU:fV P U]{f:FuncId}{n:Nat}{R:Ending→World→Prop}{G:cI}{k:List Item}{L:fD}{H H':List HP}{S:World→Prop}{all:Array Oper}{rest:Pl}{ty:TypeId}{pos:String}{af:Array Edge}{gd:Option (Nat × Bool)}{m:Bool}{d:Tmp}
def FM{Hs:List HP}{src dst e:TypeId}{ts td te:Ty}{x:Operand}{v:Value}{A:HP}{bs:List UInt8}(i:Nat)(hd:Nat.blt d n=true)(hx:ev L x=some v)(hs:U.get src=some ts)(Ey:ts.gy = .slice e)(he:U.get e=some te)(RL:te.gy = .int .u8)(ES:U.get dst=some td)(ER:td.gy = .string)(hi:cE Hs i=some A)(hv:Vw A v bs.length (bV bs))(h:J P f n R G (fun w=>Sat G w Hs) all rest k ((d,.string (strOf bs))::L) H):J P f n R G (fun w=>Sat G w Hs) all (.cons true true ⟨some d,.convert src dst x,ty,pos,af,gd⟩ rest) k L H:=by
 refine kU hd (fun a w ha hw=>?_) h
 have hw:Sat G w Hs:=hw
 obtain⟨a0,cap,rfl,h0|⟨b,o,rfl,hc⟩⟩:=hv.cells hw hi
 ·have hb:bs=[]:=by simpa[bV]using h0
  subst hb
  cases a0 with
  | none =>
   simp only[execOp,ha.ev hx,Sem.run_bind]
   rw[run_convert_bytes_string w src dst e _ _ _ (by rw[fF (P:=P) hs,Ey]) (by rw[fF (P:=P) he,RL]) (by rw[fF (P:=P) ES,ER])]
   simp[Conv.bytesToString,strOf]
   rfl
  | some a1 =>
   simp only[execOp,ha.ev hx,Sem.run_bind]
   rw[run_convert_bytes_string w src dst e _ _ _ (by rw[fF (P:=P) hs,Ey]) (by rw[fF (P:=P) he,RL]) (by rw[fF (P:=P) ES,ER])]
   rw[run_bytesToString w a1 _ _ [] (by simp[loadCells,loadCellsFrom])]
   simp[strOf]
   rfl
 ·have h1:=run_loadCells_list (P:=P) w ⟨b,o,none⟩ (bV bs) (fun j c hj=>by rw[Addr.add_eq];exact hc j c hj)
  rw[bt]at h1
  simp only[execOp,ha.ev hx,Sem.run_bind]
  rw[run_convert_bytes_string w src dst e _ _ _ (by rw[fF (P:=P) hs,Ey]) (by rw[fF (P:=P) he,RL]) (by rw[fF (P:=P) ES,ER])]
  rw[run_bytesToString w _ _ _ (bs.map fun x=>(x.toNat:Int)) (by rw[h1];simp[bV,u8]),foldl_push]
  simp[strOf]
end
end Go.SL
