/- Texts of one claim, joined: EngH, EngI, EngJ, EngM, EngU, EngY, EngX, Fm, EngN, EngO, EngP, EngQ, EngR, Pt, Tab, Lb. -/
import Derived.Test.YthjbidjmgbjkiaaGreatDoorQPH2
import Derived.Lib.MakeNoZero
import Derived.RangeFuncRecord
import Derived.RangeFuncIn
import GoSem.Extern.SlicesOverlaps
import Derived.Test.YthjbidjmgbjkiaaGreatDoorProg
set_option linter.unusedSectionVars false
set_option linter.unusedSimpArgs false
set_option linter.unusedVariables false
namespace Go.SL
def jy{α:Type}(p:α→Bool):List α→Int
 | [] => -1
 | x::l=>if p x then 0 else(if jy p l<0 then -1 else jy p l+1)
theorem FV{α:Type}(p:α→Bool)(l:List α) : -1≤jy p l:=by
 induction l with
 | nil=>simp[jy]
 | cons x l ih=>simp only[jy];split;omega;split <;> omega
theorem pE{α:Type}{p:α→Bool}{l:List α}(h:∀x∈l,p x=false):jy p l = -1:=by
 induction l with
 | nil=>rfl
 | cons x l ih=>simp[jy,h x (by simp),ih (fun y hy=>h y (by simp[hy]))]
theorem mD{α:Type}{p:α→Bool}{l:List α}{i:Nat}{x:α}(hi:l[i]?=some x)(hx:p x=true)(hb:∀y∈l.take i,p y=false):jy p l=i:=by
 induction l generalizing i with
 | nil=>simp at hi
 | cons y l ih =>
  cases i with
  | zero=>simp at hi;subst hi;simp[jy,hx]
  | succ i =>
   simp at hi hb
   have:=ih hi hb.2
   simp only[jy,hb.1,Bool.false_eq_true,if_false,this]
   split <;> omega
theorem mE{α:Type}{p:α→Bool}{l:List α}:jy p l<0↔l.any p=false:=by
 induction l with
 | nil=>simp[jy]
 | cons x l ih =>
  have:=FV p l
  simp only[jy,List.any_cons,Bool.or_eq_false_iff]
  cases hx:p x with
  | true=>simp
  | false =>
   simp only[Bool.false_eq_true,if_false,true_and]
   rw[← ih]
   split <;> omega
theorem Vw.cell{A:HP}{b o n cap:Nat}{cs:List Value}(h:Vw A (.slice (some ⟨b,o,none⟩) n cap) n cs){i:Nat}{c:Value}(hi:cs[i]?=some c):∀h,A h→cZ h b (o+i)=some c:=by
 obtain⟨a,fQ,hv,h0|⟨b',o',ha,hc⟩⟩:=h
 ·subst h0;simp at hi
 ·simp only[Value.slice.injEq]at hv
  obtain⟨rfl,_,rfl⟩:=hv
  simp only[Option.some.injEq,Addr.mk.injEq,and_true]at ha
  obtain⟨rfl,rfl⟩:=ha
  exact fun h hA=>hc h hA i c hi
theorem Vw.shape{A:HP}{v:Value}{n:Nat}{cs:List Value}(h:Vw A v n cs):∃a cap,v = .slice a n cap:=by
 obtain⟨a,cap,hv,_⟩:=h;exact⟨a,cap,hv⟩
theorem Vw.some{A:HP}{v:Value}{n:Nat}{cs:List Value}(h:Vw A v n cs)(h0:cs≠[]):∃b o cap,v = .slice (some ⟨b,o,none⟩) n cap:=by
 obtain⟨a,cap,hv,h1|⟨b,o,ha,hc⟩⟩:=h
 ·exact absurd h1 h0
 ·exact⟨b,o,cap,by rw[hv,ha]⟩
theorem oP{bs:List UInt8}{i:Nat}{x:UInt8}(h:bs[i]?=some x):(bV bs)[i]?=some (u8 x):=by simp[bV,h]
theorem aq.oQ(H:List HP):aq H (emp::H):=fun h hs=>⟨h,sub.refl h,dy (q8 hs)⟩
theorem aq.join(A B:HP)(H:List HP):aq (A::B::H) (star A B::H):=fun h hs=>⟨h,sub.refl h,jq hs⟩
theorem aq.part(A B:HP)(H:List HP):aq (star A B::H) (A::B::H):=fun h hs=>⟨h,sub.refl h,jL hs⟩
theorem Vw.left{A B:HP}{v:Value}{n:Nat}{cs:List Value}(h:Vw A v n cs):Vw (star A B) v n cs:=h.mono fun _ hs=>jo hs
theorem Vw.right{A B:HP}{v:Value}{n:Nat}{cs:List Value}(h:Vw B v n cs):Vw (star A B) v n cs:=h.mono fun _ hs=>vj hs
theorem UL(x:UInt8):((x.toNat:Nat):Int)<256:=by have:=x.toNat_lt;omega
theorem JD{x y:UInt8}(h:(x.toNat:Int)=y.toNat):x=y:=UInt8.toNat_inj.1 ai
def fJ{α β:Type}(q:α→β→Prop)(l:List α)(r:List β):Prop:=l.length=r.length∧∀(i:Nat) (x:α) (y:β),l[i]?=Option.some x→r[i]?=Option.some y→q x y
theorem fJ.nil{α β:Type}{q:α→β→Prop}:fJ q [] []:=⟨rfl,fun i x y h=>by simp at h⟩
theorem fJ.snoc{α β:Type}{q:α→β→Prop}{l:List α}{r:List β}{x:α}{y:β}(h:fJ q l r)(hq:q x y):fJ q (l++[x]) (r++[y]):=by
 obtain⟨hl,ha⟩:=h
 refine⟨by simp[hl],fun i u v hu hv=>?_⟩
 rcases Nat.lt_or_ge i l.length with h|h
 ·rw[List.getElem?_append_left h]at hu
  rw[List.getElem?_append_left ai]at hv
  exact ha i u v hu hv
 ·rw[List.getElem?_append_right h]at hu
  rw[List.getElem?_append_right ai]at hv
  have h0:i-l.length=0:=by
   rcases Nat.eq_zero_or_pos (i-l.length)with h|h
   ·exact h
   ·rw[List.getElem?_eq_none (by simp;omega)]at hu;cases hu
  rw[h0]at hu;rw[← hl,h0]at hv
  simp at hu hv;subst hu;subst hv;exact hq
theorem fJ.cons{α β:Type}{q:α→β→Prop}{l:List α}{r:List β}{x:α}{y:β}(h:fJ q l r)(hq:q x y):fJ q (x::l) (y::r):=by
 obtain⟨hl,ha⟩:=h
 refine⟨by simp[hl],fun i u v hu hv=>?_⟩
 cases i with
 | zero=>simp at hu hv;subst hu;subst hv;exact hq
 | succ i=>exact ha i u v (by simpa using hu) (by simpa using hv)
theorem fJ.one{α β:Type}{q:α→β→Prop}{x:α}{y:β}(hq:q x y):fJ q [x] [y]:=fJ.nil.cons hq
theorem fJ.mono{α β:Type}{q q':α→β→Prop}{l:List α}{r:List β}(h:fJ q l r)(hm:∀x y,q x y→q' x y):fJ q' l r:=⟨h.1,fun i x y hx hy=>hm x y (h.2 i x y hx hy)⟩
theorem fJ.left{α β:Type}{q:α→β→Prop}{l:List α}{r:List β}(h:fJ q l r){i:Nat}{x:α}(hi:l[i]?=Option.some x):∃y,r[i]?=Option.some y∧q x y:=by
 have cO:i<l.length:=by
  rcases Nat.lt_or_ge i l.length with h|h
  ·exact h
  ·rw[List.getElem?_eq_none h]at hi;cases hi
 have:i<r.length:=by have:=h.1;omega
 exact⟨r[i],by simp[this],h.2 i x _ hi (by simp[this])⟩
theorem fJ.right{α β:Type}{q:α→β→Prop}{l:List α}{r:List β}(h:fJ q l r){i:Nat}{y:β}(hi:r[i]?=Option.some y):∃x,l[i]?=Option.some x∧q x y:=by
 have cO:i<r.length:=by
  rcases Nat.lt_or_ge i r.length with h|h
  ·exact h
  ·rw[List.getElem?_eq_none h]at hi;cases hi
 have:i<l.length:=by have:=h.1;omega
 exact⟨l[i],by simp[this],h.2 i _ y (by simp[this]) hi⟩
theorem fJ.set{α β:Type}{q:α→β→Prop}{l:List α}{r:List β}(h:fJ q l r)(i:Nat){x:α}{y:β}(hq:q x y):fJ q (l.set i x) (r.set i y):=by
 refine⟨by simp[h.1],fun j u v hu hv=>?_⟩
 rw[List.getElem?_set]at hu hv
 by_cases B9:i=j
 ·rw[if_pos B9]at hu hv
  split at hu
  ·split at hv
   ·cases hu;cases hv;exact hq
   ·cases hv
  ·cases hu
 ·rw[if_neg B9]at hu hv;exact h.2 j u v hu hv
theorem aq.to{H pre rest F T:List HP}(is:List Nat)(m:Nat)(h:ru is [] H [] = .mk pre rest)(hd:rest.drop m=F)(ht:pre++F=T):aq H T:=ht ▸ aq.fin is m h hd
theorem bw(e:TypeId)(size:Nat)(a:Option Addr)(H:List HP):aq H (az e size (.slice a 0 0) 0 []::H):=fun h hs=>⟨h,sub.refl h,eB (M0 e size a) (fun _ h=>h) (dy (q8 hs))⟩
theorem dZ(e:TypeId)(size b:Nat)(n cap:Nat)(cs bM:List Value)(H:List HP)(hl:cs.length=n*size)(hn:n≤cap)(hc:cap*size≤cs.length+bM.length) :
  aq (ag b (cl (cs++bM) e)::H) (az e size (.slice (Option.some ⟨b,0,none⟩) n cap) n cs::H) :=
 aq.fold (B:=[_]) fun h hs=>⟨h,sub.refl h,hl,.inr ⟨b,0,cap,[],bM,rfl,rfl,hn,hc,ed hs⟩⟩
theorem se{α:Type}{q:α→Prop}{l:List α}{i:Nat}{x:α}(hb:∀y∈l.take i,q y)(hi:l[i]?=Option.some x)(hx:q x):∀y∈l.take (i+1),q y:=by
 intro y hy
 have cO:i<l.length:=by
  rcases Nat.lt_or_ge i l.length with h|h
  ·exact h
  ·rw[List.getElem?_eq_none h]at hi;cases hi
 rw[List.take_succ_eq_append_getElem cO]at hy
 rcases List.mem_append.1 hy with h|h
 ·exact hb y h
 ·simp at h
  have:l[i]=x:=by simpa[cO]using hi
  rw[h,this];exact hx
theorem BT{L:eN}:∀t v,dB ([]:eN) t=Option.some v→dB L t=Option.some v:=fun _ _ h=>by cases h
theorem yD{L L':eN}{t0:Nat}{v0:Value}(h:dB L t0=Option.some v0)(hr:∀t v,dB L' t=Option.some v→dB L t=Option.some v):∀t v,dB ((t0,v0)::L') t=Option.some v→dB L t=Option.some v:=by
 intro t v e
 simp only[dB]at e
 cases hb:Nat.beq t0 t with
 | true=>rw[← Nat.eq_of_beq_eq_true hb,h];simpa[hb]using e
 | false=>exact hr t v (by simpa[hb]using e)
theorem aM{P:Program}{f:FuncId}{n:Nat}{R:Ending→World→Prop}{G:cm}{k:List Item}{L:eN}{H:List HP}{S:World→Prop}{all:Array Oper}{rest:Pl}{e:TypeId}{size nn:Nat}{v:Value}{cs:List Value}(i:Nat)(hi:cf H i=some (az e size v nn cs))(h:∀a c,v = .slice a nn c→J P f n R G S all rest k L H):J P f n R G S all rest k L H :=
 zd fun w hw=>by
  obtain⟨h0,_,hA⟩:=hw.j7 hi
  obtain⟨_,⟨a,rfl,rfl,_⟩|⟨b,o,cap,pre,bM,rfl,_⟩⟩:=hA
  ·exact h _ _ rfl
  ·exact h _ _ rfl
theorem db{P:Program}{f:FuncId}{n:Nat}{R:Ending→World→Prop}{G:cm}{k:List Item}{L:eN}{H:List HP}{e:TypeId}{size nn:Nat}{v:Value}{cs:List Value}(i:Nat)(hi:cf H i=some (az e size v nn cs))(h:∀a c,v = .slice a nn c→K P f n R G k L H):K P f n R G k L H :=
 qj fun⟨w,hw⟩=>by
  obtain⟨h0,_,hA⟩:=hw.j7 hi
  obtain⟨_,⟨a,rfl,rfl,_⟩|⟨b,o,cap,pre,bM,rfl,_⟩⟩:=hA
  ·exact h _ _ rfl
  ·exact h _ _ rfl
def dJ(old:List UInt8)(at_:Nat)(b:List UInt8):List UInt8 :=
 let o:=old++List.replicate (at_+b.length-old.length) 0
 o.take at_++b++o.drop (at_+b.length)
section
variable{P:Program}{U:Tr}[hU:e7 P U]{f:FuncId}{n:Nat}{R:Ending→World→Prop}{G:cm}{k:List Item}{L:eN}{H H':List HP}{S:World→Prop}{all:Array Oper}{rest:Pl}{ty:TypeId}{pos:String}{af:Array Edge}{gd:Option (Nat × Bool)}{m:Bool}{d:Tmp}
theorem iu{e:TypeId}{sz nn:Nat}{v:Value}{cs:List Value}(i:Nat)(hi:cf H i=some (az e sz v nn cs))(h:Vw (az e sz v nn cs) v nn cs→J P f n R G S all rest k L H):J P f n R G S all rest k L H :=
 zd fun w hw=>by
  obtain⟨h1,_,hA⟩:=hw.j7 hi
  exact h (Vw.oh e sz v nn cs ⟨h1,hA⟩)
theorem bB{t:TypeId}{x:Operand}{b o off nn cap:Nat}{bJ:Ty}{c:Value}{A:HP}{cs:List Value}(i idx:Nat)(hd:Nat.blt d n=true)(hx:ev L x=some (.pointer (some ⟨b,off,none⟩)))(hi:cf H i=some A)(hv:Vw A (.slice (some ⟨b,o,none⟩) nn cap) nn cs)(ie:off=o+idx)(hc:cs[idx]?=some c)(ht:U.get t=some bJ)(hg:bJ.isAgg=false)(h:J P f n R G S all rest k ((d,c)::L) H):J P f n R G S all (.cons false true ⟨some d,.load t x,ty,pos,af,gd⟩ rest) k L H :=
 uY (U:=U) i hd (ie ▸ hx) hi (hv.cell hc) ht hg h
theorem cz{Hs:List HP}{t:TypeId}{x:Operand}{b o off nn cap:Nat}{bJ:Ty}{c:Value}{A:HP}{cs:List Value}(i idx:Nat)(hd:Nat.blt d n=true)(hx:ev L x=some (.pointer (some ⟨b,off,none⟩)))(hi:cf Hs i=some A)(hv:Vw A (.slice (some ⟨b,o,none⟩) nn cap) nn cs)(ie:off=o+idx)(hc:cs[idx]?=some c)(ht:U.get t=some bJ)(hg:bJ.isAgg=false)(h:J P f n R G (fun w=>Sat G w Hs) all rest k ((d,c)::L) H):J P f n R G (fun w=>Sat G w Hs) all (.cons true true ⟨some d,.load t x,ty,pos,af,gd⟩ rest) k L H :=
 lX (U:=U) hd (ie ▸ hx) (fun w hw=>by
  obtain⟨h,hh,hA⟩:=hw.j7 hi
  exact dw hh (hv.cell hc h hA)) ht hg h
theorem uP:∀(acc l:List Value),Ad acc l = .mk (acc.reverse++l)
 | [],l=>rfl
 | a::acc,l=>by simp only[Ad,uP acc (a::l)];simp
theorem FE(u:Value):∀(l acc:List Value) (off:Nat),off<l.length→l5 acc off l [u] = .mk (acc.reverse++l.set off u):=by
 intro l
 induction l with
 | nil=>intro acc off h;simp at h
 | cons y l ih =>
  intro acc off h
  cases off with
  | zero =>
   simp only[l5]
   cases l <;> simp[uP]
  | succ off=>simp only[l5];rw[ih _ _ (by simpa using h)];simp
theorem JO{e:TypeId}{b o c nn:Nat}{cs:List Value}:∀h,az e 1 (.slice (some ⟨b,o,none⟩) nn c) nn cs h→0<nn→∃x:List Value × List Value,(x.1.length=o∧nn≤c∧c≤cs.length+x.2.length∧cs.length=nn)∧Sep [ag b (cl (x.1++cs++x.2) e)] h:=by
 rintro h⟨hl,⟨a,hv,rfl,_⟩|⟨b',o',cap,pre,bM,hv,hp,hn,hc,tp⟩⟩ h0
 ·omega
 ·simp only[Value.slice.injEq,Option.some.injEq,Addr.mk.injEq,and_true,true_and]at hv
  obtain⟨⟨rfl,rfl⟩,rfl⟩:=hv
  exact⟨(pre,bM),⟨hp,hn,by simpa using hc,by simpa using hl⟩,fE tp⟩
theorem GY{e:TypeId}{b o c nn:Nat}{cs pre bM:List Value}(hp:pre.length=o)(hn:nn≤c)(hc:c≤cs.length+bM.length)(hl:cs.length=nn)(H:List HP) :
  aq (ag b (cl (pre++cs++bM) e)::H) (az e 1 (.slice (some ⟨b,o,none⟩) nn c) nn cs::H) :=
 aq.fold (B:=[_]) fun h hs=>⟨h,sub.refl h,by simpa using hl,.inr ⟨b,o,c,pre,bM,rfl,hp,hn,by simpa using hc,ed hs⟩⟩
theorem nC{t:TypeId}{x y:Operand}{b o q c nn:Nat}{bJ:Ty}{u:Value}{e:TypeId}{cs:List Value}(i:Nat)(hS:∀w,Sat G w H'→Sx rest S w)(hx:ev L x=some (.pointer (some ⟨b,o+q,none⟩)))(hy:ev L y=some u)(ht:U.get t=some bJ)(g8:Nat.beq bJ.info.size 1=true)(hc:aY u=[u])(fC:gJ [u]=true)(hi:cf H i=some (az e 1 (.slice (some ⟨b,o,none⟩) nn c) nn cs))(hq:q<nn)(hp:km i (az e 1 (.slice (some ⟨b,o,none⟩) nn c) nn (cs.set q u)) H [] = .mk H')(h:J P f n R G S all rest k L H'):J P f n R G S all (.cons false true ⟨none,.store t x y,ty,pos,af,gd⟩ rest) k L H:=by
 refine aG (aq.perm (cN (by rw[← df];exact hi))) ?_
 refine AA (B:=fun x:List Value × List Value=>[ag b (cl (x.1++cs++x.2) e)]) (fun h hs=>JO h hs ai) ?_
 rintro⟨pre,bM⟩⟨h1,h2,h3,h4⟩
 simp only at h1 h2 h3 h4
 have fM:(pre++cs++bM).set (o+q) u=pre++cs.set q u++bM:=by
  rw[List.append_assoc,List.set_append_right _ _ ai,show o+q-pre.length=q by omega,List.set_append_left _ _ ai,List.append_assoc]
 have hE:aq (ag b (cl (pre++cs.set q u++bM) e)::H.eraseIdx i) H':=by
  have h5:=ng i _ _ H [] H' hp hi
  exact(GY h1 h2 (by rw[List.length_set];exact h3) (by rw[List.length_set];exact h4) _).trans (aq.perm (by simpa using h5.symm))
 refine bI (U:=U) (l':=pre++cs.set q u++bM) 0 (fun w hw=>hS w (hw.aX hE)) hx hy ht (by rw[hc,Nat.eq_of_beq_eq_true g8];rfl) (by rw[hc];rfl) (by rw[hc];exact fC) rfl ?_ rfl (aG hE h)
 rw[hc,FE _ _ _ _ (by simp;omega),← fM]
 rfl
theorem GM{z:Int}(h0:0≤z)(h1:z<256):∃y:UInt8,Value.int .u8 z=u8 y:=⟨UInt8.ofNat z.toNat,by
  simp only[u8,UInt8.toNat_ofNat']
  congr 1
  omega⟩
theorem EW(l:List UInt8)(i:Nat)(y:UInt8):(bV l).set i (u8 y)=bV (l.set i y):=by simp[bV,List.map_set]
end
theorem aD.post{P:Program}{f:FuncId}{args:List Value}{Pre:List HP}{Post uk:Value→List HP→Prop}(c:aD P f args Pre Post)(h:∀v H,Post v H→uk v H):aD P f args Pre uk :=
 ⟨c.1,fun G w F hw=>(c.2 G w F hw).mono fun e w' h'=>let ⟨v,H,he,hp,hs⟩:=h';⟨v,H,he,h v H hp,hs⟩⟩
theorem aD.pre{P:Program}{f:FuncId}{args:List Value}{Pre L9:List HP}{Post:Value→List HP→Prop}(c:aD P f args Pre Post)(h:aq L9 Pre):aD P f args L9 Post :=
 ⟨c.1,fun G w F hw=>c.2 G w F (hw.aX (aq.append F h))⟩
structure Uc(A:Prop):Prop where
 out:A
theorem bY{p:Prop}(h:p:=by repeat(first|exact BT|refine yD rfl ?_)):p:=h
end Go.SL
namespace Go.SL
section
variable{P:Program}{U:Tr}[hU:e7 P U]{f:FuncId}{n:Nat}{R:Ending→World→Prop}{G:cm}{k:List Item}{L:eN}{H H':List HP}{S:World→Prop}{all:Array Oper}{rest:Pl}{ty:TypeId}{pos:String}{af:Array Edge}{gd:Option (Nat × Bool)}{m:Bool}{d:Tmp}
theorem wZ{t:TypeId}{x:Operand}{b off:Nat}{bJ:Ty}{cs:List Value}(hd:Nat.blt d n=true)(hx:ev L x=some (.pointer (some ⟨b,off,none⟩)))(ht:U.get t=some bJ)(hg:bJ.isAgg=true)(hl:Nat.beq cs.length bJ.info.size=true)(hc:∀w,Sat G w H→∀j v,cs[j]?=some v→w.cell? ⟨b,off+j,none⟩=some v)(h:J P f n R G S all rest k ((d,.agg cs.toArray)::L) H):J P f n R G S all (.cons false true ⟨some d,.load t x,ty,pos,af,gd⟩ rest) k L H :=
 jD hd (fun a w ha hw=>by
  simp[execOp,ha.ev hx,gE (P:=P) ht hg (Nat.eq_of_beq_eq_true hl) (hc w hw)]) h
theorem cQ{t:TypeId}{x:Operand}{b o off nn cap:Nat}{bJ:Ty}{es cs:List Value}{A:HP}(i idx:Nat)(hd:Nat.blt d n=true)(hx:ev L x=some (.pointer (some ⟨b,off,none⟩)))(hi:cf H i=some A)(hv:Vw A (.slice (some ⟨b,o,none⟩) nn cap) nn cs)(ie:off=o+idx)(qT:∀j v,es[j]?=some v→cs[idx+j]?=some v)(ht:U.get t=some bJ)(hg:bJ.isAgg=true)(hl:Nat.beq es.length bJ.info.size=true)(h:J P f n R G S all rest k ((d,.agg es.toArray)::L) H):J P f n R G S all (.cons false true ⟨some d,.load t x,ty,pos,af,gd⟩ rest) k L H :=
 wZ (U:=U) hd hx ht hg hl (fun w hw j v hj=>by
  obtain⟨h,hh,hA⟩:=hw.j7 hi
  have:=hv.cell (qT j v hj) h hA
  rw[ie,show o+idx+j=o+(idx+j) by omega]
  exact dw hh this) h
theorem G9:∀(l vs acc:List Value) (off:Nat),off+vs.length≤l.length→l5 acc off l vs = .mk (acc.reverse++(l.take off++vs++l.drop (off+vs.length))):=by
 intro l
 induction l with
 | nil =>
  intro vs acc off h
  simp only[List.length_nil]at h
  have h1:off=0:=by omega
  have h2:vs=[]:=List.eq_nil_of_length_eq_zero ai
  subst h1 h2
  simp[l5,uP]
 | cons y l ih =>
  intro vs acc off h
  cases vs with
  | nil=>cases off <;> simp[l5,uP]
  | cons v vs =>
   cases off with
   | zero =>
    simp only[l5]
    rw[ih vs _ 0 (by simp at h ⊢;omega)]
    simp
   | succ off =>
    simp only[l5]
    rw[ih (v::vs) _ off (by simp at h ⊢;omega)]
    simp[show off+1+(vs.length+1)=off+(vs.length+1)+1 by omega]
theorem jC{t:TypeId}{x y:Operand}{b off:Nat}{bJ:Ty}{l l':List Value}{e:TypeId}{v:Value}(i:Nat)(hS:∀w,Sat G w H'→Sx rest S w)(hx:ev L x=some (.pointer (some ⟨b,off,none⟩)))(hy:ev L y=some v)(ht:U.get t=some bJ)(g8:Nat.beq (aY v).length bJ.info.size=true)(ct:Nat.beq (aY v).length 0=false)(fC:gJ (aY v)=true)(hi:cf H i=some (ag b (cl l e)))(xO:off+(aY v).length≤l.length)(hl:l'=l.take off++aY v++l.drop (off+(aY v).length))(hp:km i (ag b (cl l' e)) H [] = .mk H')(h:J P f n R G S all rest k L H'):J P f n R G S all (.cons false true ⟨none,.store t x y,ty,pos,af,gd⟩ rest) k L H :=
 bI (U:=U) i hS hx hy ht g8 ct fC hi (by rw[G9 _ _ _ _ xO,hl];rfl) hp h
theorem qI{e:TypeId}{sz nn:Nat}{v:Value}{cs:List Value}{H:List HP}(h0:∀a,v = .slice a 0 0→nn=0→cs=[]→K P f n R G k L H)(h1:∀b o c pre bM,v = .slice (some ⟨b,o,none⟩) nn c→pre.length=o→nn≤c→c*sz≤cs.length+bM.length→cs.length=nn*sz→K P f n R G k L (ag b (cl (pre++cs++bM) e)::H)) :
  K P f n R G k L (az e sz v nn cs::H):=by
 intro a w ha hw
 obtain⟨t,o,u,hp,HS,hA,hB,⟨hl,ig⟩,TF,hd,he⟩:=hw
 rcases ig with⟨a0,hv,hn,Ce⟩|⟨b,oo,cap,pre,bM,hv,lE,hn,hc,tp⟩
 ·refine h0 a0 hv hn (List.eq_nil_of_length_eq_zero (by rw[hl,hn];simp)) a w ha ⟨t,o,u,hB,fun x y Em=>?_,TF⟩
  exact HS x y (by rw[he x];rw[Ce x];simpa using Em)
 ·exact h1 b oo cap pre bM hv lE hn hc hl a w ha ⟨t,o,u,hp,HS,hA,hB,tp,TF,hd,he⟩
end
theorem cF{α:Type}{g:α→List Value}{s:Nat}(hs:∀x,(g x).length=s){l:List α}{i:Nat}{x:α}(h:l[i]?=some x)(j:Nat)(hj:j<s):(l.flatMap g)[i*s+j]?=(g x)[j]? := by
 induction l generalizing i with
 | nil=>simp at h
 | cons y l ih =>
  have hy:=hs y
  rw[List.flatMap_cons]
  cases i with
  | zero=>simp at h;subst h;rw[List.getElem?_append_left ai];simp
  | succ i =>
   simp at h
   have e:(i+1)*s=i*s+s:=by rw[Nat.add_mul,Nat.one_mul]
   rw[List.getElem?_append_right ai,hy,show(i+1)*s+j-s=i*s+j by omega,ih h]
theorem bZ{α:Type}{g:α→List Value}{s:Nat}(hs:∀x,(g x).length=s)(l:List α):(l.flatMap g).length=l.length*s:=by
 induction l with
 | nil=>simp
 | cons y l ih=>rw[List.flatMap_cons,List.length_append,ih,hs,List.length_cons,Nat.add_mul,Nat.one_mul];omega
theorem tz{α:Type}{g:α→List Value}{s:Nat}(hs:∀x,(g x).length=s){l:List α}{i:Nat}(hi:i<l.length)(x:α):(l.set i x).flatMap g=(l.flatMap g).take (i*s)++g x++(l.flatMap g).drop (i*s+s):=by
 induction l generalizing i with
 | nil=>simp at hi
 | cons y l ih =>
  have hy:=hs y
  cases i with
  | zero =>
   rw[List.set_cons_zero,List.flatMap_cons,List.flatMap_cons,Nat.zero_mul,List.take_zero,List.nil_append,Nat.zero_add]
   rw[← hy,List.drop_left]
  | succ i =>
   have e:(i+1)*s=s+i*s:=by rw[Nat.add_mul,Nat.one_mul];omega
   rw[List.set_cons_succ,List.flatMap_cons,List.flatMap_cons,ih (by simpa using hi),e,← hy,List.take_length_add_append,show(g y).length+i*(g y).length+(g y).length=(g y).length+(i*(g y).length+(g y).length) by omega,List.drop_length_add_append]
   simp
theorem kU{e:TypeId}{sz b o c nn:Nat}{cs pre bM:List Value}(hp:pre.length=o)(hn:nn≤c)(hc:c*sz≤cs.length+bM.length)(hl:cs.length=nn*sz)(H:List HP) :
  aq (ag b (cl (pre++cs++bM) e)::H) (az e sz (.slice (some ⟨b,o,none⟩) nn c) nn cs::H) :=
 aq.fold (B:=[_]) fun h hs=>⟨h,sub.refl h,hl,.inr ⟨b,o,c,pre,bM,rfl,hp,hn,hc,ed hs⟩⟩
theorem vQ{α:Type}{p:α→Bool}{l:List α}(h:¬jy p l = -1):∃(i:Nat) (x:α),jy p l=i∧l[i]?=Option.some x∧p x=true∧∀y∈l.take i,p y=false:=by
 have hex:∃(i:Nat) (x:α),l[i]?=Option.some x∧p x=true∧∀y∈l.take i,p y=false:=by
  have ku:l.any p=true:=by
   cases ha:l.any p with
   | true=>rfl
   | false =>
    have h1:=mE.2 ha
    have h2:=FV p l
    omega
  clear h
  induction l with
  | nil=>simp at ku
  | cons y l ih =>
   cases hy:p y with
   | true=>exact⟨0,y,by simp,hy,by simp⟩
   | false =>
    simp only[List.any_cons,hy,Bool.false_or]at ku
    obtain⟨i,x,h1,h2,h3⟩:=ih ku
    refine⟨i+1,x,by simpa using h1,h2,fun z hz=>?_⟩
    rw[List.take_succ_cons]at hz
    rcases List.mem_cons.1 hz with rfl|hz
    ·exact hy
    ·exact h3 z hz
 obtain⟨i,x,h1,h2,h3⟩:=hex
 exact⟨i,x,mD h1 h2 h3,h1,h2,h3⟩
theorem m8(pre W bM vs:List Value)(q:Nat)(h:q+vs.length≤W.length):(pre++W++bM).take (pre.length+q)++vs++(pre++W++bM).drop (pre.length+q+vs.length)=pre++(W.take q++vs++W.drop (q+vs.length))++bM:=by
 rw[List.append_assoc pre W bM,List.take_length_add_append,Nat.add_assoc,List.drop_length_add_append,List.take_append_of_le_length ai,List.drop_append_of_le_length ai]
 simp only[List.append_assoc]
theorem EN{α:Type}{g:α→List Value}{s:Nat}(hs:∀x,(g x).length=s)(l:List α)(i:Nat)(hi:i≤l.length):(l.take i).flatMap g=(l.flatMap g).take (i*s):=by
 have h1:l.flatMap g=(l.take i).flatMap g++(l.drop i).flatMap g:=by rw[← List.flatMap_append,List.take_append_drop]
 have h2:((l.take i).flatMap g).length=i*s:=by rw[bZ hs,List.length_take,Nat.min_eq_left hi]
 rw[h1,← h2,List.take_left]
theorem ld(n:Nat)(x:List Value):(List.replicate n x).flatten.length=n*x.length:=by
 induction n with
 | zero=>simp
 | succ n ih=>rw[List.replicate_succ,List.flatten_cons,List.length_append,ih,Nat.add_mul,Nat.one_mul];omega
theorem r'(x n:Nat)(hx:x<9223372036854775808)(hn:n<63):IntKind.i64.wrap ((BitVec.ofInt IntKind.i64.bits (x:Int) &&& BitVec.ofInt IntKind.i64.bits ((2 ^ n-1:Nat):Int)).toNat:Int)=((x%2 ^ n:Nat):Int):=by
 have e1:(BitVec.ofInt IntKind.i64.bits (x:Int)).toNat=x:=by
  rw[BitVec.toNat_ofInt]
  have:IntKind.i64.bits=64:=rfl
  rw[this]
  omega
 have hp:2 ^ n<2 ^ 63:=Nat.pow_lt_pow_right ai hn
 have k6:0<2 ^ n:=Nat.pow_pos ai
 have e2:(BitVec.ofInt IntKind.i64.bits ((2 ^ n-1:Nat):Int)).toNat=2 ^ n-1:=by
  rw[BitVec.toNat_ofInt]
  have:IntKind.i64.bits=64:=rfl
  rw[this]
  omega
 rw[BitVec.toNat_and,e1,e2,Nat.and_two_pow_sub_one_eq_mod]
 have cO:x%2 ^ n<9223372036854775808:=Nat.lt_of_le_of_lt (Nat.mod_le _ _) hx
 exact cD (by simp only[fz];omega)
end Go.SL
namespace Go.SL
theorem ofInt64(x:Int):(BitVec.ofInt IntKind.i64.bits x).toNat=(x%18446744073709551616).toNat:=by
 rw[BitVec.toNat_ofInt];rfl
theorem sc(x:Int):IntKind.i64.wrap ((BitVec.ofInt IntKind.i64.bits x &&& BitVec.ofInt IntKind.i64.bits 1).toNat:Int)=x%2:=by
 have e2:(BitVec.ofInt IntKind.i64.bits (1:Int)).toNat=2 ^ 1-1:=by decide
 rw[BitVec.toNat_and,ofInt64,e2,Nat.and_two_pow_sub_one_eq_mod,cD (by simp only[fz];omega)]
 omega
def kE:Nat→Nat→Pt→Pt
 | _,0,p=>p
 | i,n+1,p => .st i (kE (i+1) n p)
theorem kA(n:Nat):Value.int .u8 (IntKind.u8.wrap (n:Int))=u8 (UInt8.ofNat n):=by
 have h:IntKind.u8.wrap (n:Int)=(n:Int)%256:=by simp[IntKind.wrap,IntKind.bits,IntKind.signed]
 rw[h]
 simp only[u8,UInt8.toNat_ofNat']
 congr 1
theorem nh{a c k:Nat}(ha:a<2 ^ k):a ||| c*2 ^ k=a+c*2 ^ k:=by
 have:=Nat.shiftLeft_add_eq_or_of_lt ha c
 rw[Nat.shiftLeft_eq]at this
 rw[Nat.or_comm,← this,Nat.add_comm]
theorem uK{a:Nat}(h:a<18446744073709551616):(BitVec.ofInt IntKind.i64.bits (a:Int)).toNat=a:=by
 rw[ofInt64];omega
theorem rA{a:Nat}(h:a<18446744073709551616):(BitVec.ofInt IntKind.u64.bits (a:Int)).toNat=a:=by
 rw[BitVec.toNat_ofInt]
 show((a:Int)%18446744073709551616).toNat=a
 omega
theorem rz{a:Nat}(h:a<256):(BitVec.ofInt IntKind.u8.bits (a:Int)).toNat=a:=by
 rw[BitVec.toNat_ofInt]
 show((a:Int)%256).toNat=a
 omega
theorem D8{a c k:Nat}(ha:a<2 ^ k)(h:a+c*2 ^ k<9223372036854775808) :
  IntKind.i64.wrap ((BitVec.ofInt IntKind.i64.bits (a:Int) ||| BitVec.ofInt IntKind.i64.bits ((c*2 ^ k:Nat):Int)).toNat:Int)=((a+c*2 ^ k:Nat):Int):=by
 rw[BitVec.toNat_or,uK ai,uK ai,nh ha]
 exact cD (by simp only[fz];omega)
theorem Sz{a c k:Nat}(ha:a<2 ^ k)(h:a+c*2 ^ k<18446744073709551616) :
  IntKind.u64.wrap ((BitVec.ofInt IntKind.u64.bits (a:Int) ||| BitVec.ofInt IntKind.u64.bits ((c*2 ^ k:Nat):Int)).toNat:Int)=((a+c*2 ^ k:Nat):Int):=by
 rw[BitVec.toNat_or,rA ai,rA ai,nh ha]
 exact cD (by simp only[fz];omega)
set_option maxRecDepth 10000 in
theorem Ko(x:Nat)(hx:x<256):IntKind.u8.wrap ((BitVec.ofInt IntKind.u8.bits (x:Int) ||| BitVec.ofInt IntKind.u8.bits 128).toNat:Int)=((x%128+128:Nat):Int):=by
 have e2:(BitVec.ofInt IntKind.u8.bits (128:Int)).toNat=128:=by decide
 have h:∀y,y<256→y ||| 128=y%128+128:=by decide
 rw[BitVec.toNat_or,rz hx,e2,h x hx]
 exact cD (by simp only[fz];omega)
theorem Am(x:Nat)(hx:x<256):IntKind.u8.wrap ((BitVec.ofInt IntKind.u8.bits (x:Int) &&& ~~~ BitVec.ofInt IntKind.u8.bits 128).toNat:Int)=((x%128:Nat):Int):=by
 have e2:(~~~ BitVec.ofInt IntKind.u8.bits (128:Int)).toNat=2 ^ 7-1:=by decide
 rw[BitVec.toNat_and,rz hx,e2,Nat.and_two_pow_sub_one_eq_mod]
 exact cD (by simp only[fz];omega)
theorem Al(x n:Nat)(hx:x<18446744073709551616)(hn:n<64):IntKind.u64.wrap ((BitVec.ofInt IntKind.u64.bits (x:Int) &&& BitVec.ofInt IntKind.u64.bits ((2 ^ n-1:Nat):Int)).toNat:Int)=((x%2 ^ n:Nat):Int):=by
 have hp:2 ^ n<2 ^ 64:=Nat.pow_lt_pow_right ai hn
 have k6:0<2 ^ n:=Nat.pow_pos ai
 rw[BitVec.toNat_and,rA hx,rA ai,Nat.and_two_pow_sub_one_eq_mod]
 have cO:x%2 ^ n<18446744073709551616:=Nat.lt_of_le_of_lt (Nat.mod_le _ _) hx
 exact cD (by simp only[fz];omega)
def BR(n:Nat):List UInt8:=[UInt8.ofNat n,UInt8.ofNat (n/256),UInt8.ofNat (n/65536),UInt8.ofNat (n/16777216)]
def pB(b:List UInt8):Nat:=(b.getD 0 0).toNat+(b.getD 1 0).toNat*256+(b.getD 2 0).toNat*65536+(b.getD 3 0).toNat*16777216
theorem zO(n:Nat):(BR n).length=4:=rfl
theorem KF(b:List UInt8):pB b<4294967296:=by
 unfold pB
 have h:∀x:UInt8,x.toNat<256:=fun x=>x.toNat_lt
 have h0:=h (b.getD 0 0);have h1:=h (b.getD 1 0);have h2:=h (b.getD 2 0);have h3:=h (b.getD 3 0)
 omega
end Go.SL
namespace Go.SL
open Go
theorem aq.kQ{H H' rest:List HP}{A:HP}(i:Nat)(h:Kq i H [] = .mk A rest)(hr:aq rest H'):aq H (A::H') :=
 (aq.perm (by simpa using yz i H [] A rest h)).trans (aq.cons A hr)
theorem aq.Oz(H:List HP):aq H []:=fun h hs=>⟨fun _=>none,⟨fun b o e=>(by cases e),fun _=>rfl⟩⟩
theorem ad{H H':List HP}(h:aq H H':=by(repeat'(first|exact aq.refl _|exact aq.Oz _|refine aq.kQ 0 rfl ?_|refine aq.kQ 1 rfl ?_|refine aq.kQ 2 rfl ?_|refine aq.kQ 3 rfl ?_|refine aq.kQ 4 rfl ?_|refine aq.kQ 5 rfl ?_|refine aq.kQ 6 rfl ?_|refine aq.kQ 7 rfl ?_|refine aq.kQ 8 rfl ?_|refine aq.kQ 9 rfl ?_|refine aq.kQ 10 rfl ?_|refine aq.kQ 11 rfl ?_|refine aq.kQ 12 rfl ?_|refine aq.kQ 13 rfl ?_|refine aq.kQ 14 rfl ?_|refine(aq.drop _ _).trans ?_))):aq H H':=h
section
variable{P:Program}{f:FuncId}{n:Nat}{R:Ending→World→Prop}{G:cm}{k:List Item}{L:eN}{H:List HP}{S:World→Prop}{all:Array Oper}{rest:Pl}{d:Tmp}{ty:TypeId}{pos:String}{af:Array Edge}{gd:Option (Nat × Bool)}
theorem ah{fo:Operand}{args:Array Operand}{DF:Array TypeId}{g:FuncId}{cap:Array Value}{vs:List Value}{Pre Fr:List HP}{Post:Value→List HP→Prop}(hd:Nat.blt d n=true)(hf:ev L fo=some (.func (.func g) #[] cap))(je:Jv L args.toList [] = .mk vs){T2:List Value}(has:T2=vs++cap.toList)(c:aD P g T2 Pre Post)(he:aq H (Pre++Fr))(h:∀v H',Post v H'→J P f n R G S all rest k ((d,v)::L) (H'++Fr))(hS:∀v H' w,Post v H'→Sat G w (H'++Fr)→Sx rest S w) :
  J P f n R G S all (.cons false true ⟨some d,.call { callee := .value fo,args:=args,argTypes:=DF },ty,pos,af,gd⟩ rest) k L H:=by
 intro a w ha hw _
 refine .inl ⟨.inl rfl,.inr ⟨rfl,?_⟩⟩
 have hr:(execOp a.eval ⟨some d,.call { callee := .value fo,args:=args,argTypes:=DF },ty,pos,af,gd⟩).run P w = .ok (.enter g T2.toArray) w:=by
  simp only[execOp,resolve,Sem.run_bind,ha.ev hf,Deferred.ofValue,Sem.run_pure,Result.andThen_ok,invoke]
  rw[kj c.1,lU ha.1 _ _ je,has]
  congr 2
  simp
 refine sL (fun c hc=>by cases hc) hr (Calls.mono (c.2 G w Fr (hw.aX he)) ?_)
 rintro e w'⟨v,H',rfl,eH,lR⟩
 exact⟨v,rfl,hS v H' w' eH lR,h v H' eH _ w' (ha.put hd v) lR (hS v H' w' eH lR)⟩
theorem zc{k0 k':List Item}{α:Type}(m:Nat)(I:α→Prop)(Lf:α→eN)(Hf:α→List HP)(hk:gK 1000 (k0.drop m) = .mk k')(tail:∀y,I y→K P f n R G k' (Lf y) (Hf y))(h:(∀y,I y→K P f n R G k' (Lf y) (Hf y))→K P f n R G k0 L H):K P f n R G k0 L H:=h tail
theorem nQ{k0 k':List Item}{α:Type}{I:α→Prop}{Lf:α→eN}{Hf:α→List HP}(ih:∀y,I y→K P f n R G k' (Lf y) (Hf y))(y:α)(hk:gK 1000 k0 = .mk k')(hI:I y)(hL:∀t v,dB (Lf y) t=some v→dB L t=some v)(hH:aq H (Hf y)):K P f n R G k0 L H:=fF 1000 hk (Gw hL (aj hH (ih y hI)))
theorem gL{k0 k':List Item}(hk:gK 1000 k0 = .mk k')(h:K P f n R G k' L H):K P f n R G k0 L H:=fF 1000 hk h
end
end Go.SL
namespace Go.SL
open Go
section
variable{P:Program}{U:Tr}[hU:e7 P U]{f:FuncId}{n:Nat}{R:Ending→World→Prop}{G:cm}{k:List Item}{L:eN}{H:List HP}{S:World→Prop}{all:Array Oper}{rest:Pl}{d:Tmp}{ty:TypeId}{pos:String}{af:Array Edge}{gd:Option (Nat × Bool)}{m:Bool}
theorem sD{fo:Operand}{args:Array Operand}{DF:Array TypeId}{g:FuncId}{fi cap:Array Value}{vs:List Value}{Pre Fr:List HP}{Post:Value→List HP→Prop}(hd:Nat.blt d n=true)(hf:ev L fo=some (.func (.func g) fi cap))(je:Jv L args.toList [] = .mk vs){T2:List Value}(has:T2=fi.toList++vs++cap.toList)(c:aD P g T2 Pre Post)(he:aq H (Pre++Fr))(h:∀v H',Post v H'→J P f n R G S all rest k ((d,v)::L) (H'++Fr))(hS:∀v H' w,Post v H'→Sat G w (H'++Fr)→Sx rest S w) :
  J P f n R G S all (.cons false true ⟨some d,.call { callee := .value fo,args:=args,argTypes:=DF },ty,pos,af,gd⟩ rest) k L H:=by
 intro a w ha hw _
 refine .inl ⟨.inl rfl,.inr ⟨rfl,?_⟩⟩
 have hr:(execOp a.eval ⟨some d,.call { callee := .value fo,args:=args,argTypes:=DF },ty,pos,af,gd⟩).run P w = .ok (.enter g T2.toArray) w:=by
  simp only[execOp,resolve,Sem.run_bind,ha.ev hf,Deferred.ofValue,Sem.run_pure,Result.andThen_ok,invoke]
  rw[kj c.1,lU ha.1 _ _ je,has]
  congr 2
  apply Array.ext'
  simp
 refine sL (fun c hc=>by cases hc) hr (Calls.mono (c.2 G w Fr (hw.aX he)) ?_)
 rintro e w'⟨v,H',rfl,eH,lR⟩
 exact⟨v,rfl,hS v H' w' eH lR,h v H' eH _ w' (ha.put hd v) lR (hS v H' w' eH lR)⟩
theorem wX{t yt:TypeId}{x y:Operand}{p q:ByteArray}(hd:Nat.blt d n=true)(hx:ev L x=some (.string p))(hy:ev L y=some (.string q))(hr:p.size+q.size≤9223372036854775807)(h:J P f n R G S all rest k ((d,.string (p++q))::L) H):J P f n R G S all (.cons m true ⟨some d,.binOp .add t x y yt,ty,pos,af,gd⟩ rest) k L H :=
  cT hd (fun a ha w=>by
    have h0 : ¬ (((p.size + q.size : Nat) : Int) > IntKind.i64.max) := by have : IntKind.i64.max = 9223372036854775807 := by decide
                                                                          omega
    simp only[execOp,ha.ev hx,ha.ev hy,eqGuard,Sem.run_bind,Sem.run_pure,Result.andThen_ok,binOp_string_add,Op.stringOp]
    rw[if_neg h0]
    rfl) h
theorem AB{g:FuncId}{fn:Func}{args:Array Operand}{DF:Array TypeId}{t elem:TypeId}{bJ:Ty}{q:Nat}(hd:Nat.blt d n=true)(hf:P.funcs[g]?=some fn)(hb:fn.body=none)(hn:(fn.name == "runtime.NumGoroutine")=false)(pF:(Extern.findNext fn).isNone=true)(he:Extern.find fn=some (Extern.BytealgMakeNoZero.makeNoZero fn.params #[t]))(ht:U.get t=some bJ)(hu:bJ.fK = .slice elem)(je:Jv L args.toList [] = .mk [.int .i64 (q:Int)])(hq:q≤281474976710656)(hS:∀b l w,Sat G w (ag b (cl l elem)::H)→Sx rest S w)(h:∀b c l,q≤c→List.length l=c→J P f n R G S all rest k ((d,.slice (some ⟨b,0,none⟩) q c)::L) (ag b (cl l elem)::H)) :
  J P f n R G S all (.cons false true ⟨some d,.call { callee := .value (.func g),args:=args,argTypes:=DF },ty,pos,af,gd⟩ rest) k L H:=by
 refine mT hd (fun u H1=>∃b c l,(q≤c∧List.length l=c)∧u = .slice (some ⟨b,0,none⟩) q c∧H1=ag b (cl l elem)::H) (fun a w ha hw=>?_) ?_ ?_
 ·have hav:=lU ha _ _ je
  obtain⟨cs,hr,h1,_⟩:=Lib.run_makeNoZero (P:=P) w fn.params t elem (by rw[← hu];exact iL ht) q hq
  have KP:Sat G w.drew.drew H:=(hw.draw _).draw _
  refine⟨_,w.drew.drew.alloc (.cells cs elem),_,?_,⟨w.heap.size,cs.size,cs.toList,⟨h1,by simp⟩,rfl,rfl⟩,?_⟩
  ·simp only[execOp,resolve,Sem.run_bind,Act.eval,Deferred.ofValue,Sem.run_pure,Result.andThen_ok,invoke]
   rw[show Array.map (fun x=>a.eval x) args = #[.int .i64 (q:Int)]from hav]
   simp only[Array.empty_append,Array.append_empty]
   rw[vt hf hb hn pF he,hr]
   rfl
  ·have:=KP.alloc (cl cs.toList elem)
   have e:cl cs.toList elem = .cells cs elem:=by simp[cl]
   rw[e]at this ⊢
   exact this
 ·rintro u H1 w⟨b,c,l,_,rfl,rfl⟩ hw;exact hS b l w hw
 ·rintro u H1⟨b,c,l,⟨h1,h2⟩,rfl,rfl⟩;exact h b c l h1 h2
theorem IX{t elem:TypeId}{bJ te:Ty}{x hi mx:Operand}{a0:Option Addr}{len cap:Nat}{q r:Int}{j2 j3:IntKind}(hd:Nat.blt d n=true)(ht:U.get t=some bJ)(hu:bJ.fK = .slice elem)(he:U.get elem=some te)(hx:ev L x=some (.slice a0 len cap))(Dt:ev L hi=some (.int j2 q))(WO:ev L mx=some (.int j3 r))(h0:0≤q)(hqr:q≤r)(MH:r≤(cap:Int))(h:J P f n R G S all rest k ((d,.slice (sliceAt a0 r.toNat 0 te.info.size) q.toNat r.toNat)::L) H) :
  J P f n R G S all (.cons m true ⟨some d,.slice t x none (some hi) (some mx),ty,pos,af,gd⟩ rest) k L H:=by
 refine cT hd (fun a ha w=>?_) h
 have hb:(Instr.sliceBounds true len cap none (some (a.eval hi)) (some (a.eval mx))).run P w = .ok (0,q.toNat,r.toNat) w:=by
  unfold Instr.sliceBounds
  have e1:0≤r∧r≤(cap:Int):=⟨ai,MH⟩
  have e2:0≤q∧q≤((r.toNat:Nat):Int):=⟨ai,ai⟩
  have e4:q≤max r 0:=by omega
  simp[ha.ev Dt,ha.ev WO,Instr.sliceBound,asIntOf,e1,e2,e4,h0]
 simp only[execOp,ha.ev hx,Instr.sliceAt,Sem.run_bind,run_underlying ht,Result.andThen_ok,hu,Instr.slice,Option.map_some,Option.map_none,hb,run_sizeOf he,Sem.run_pure,sliceAt]
 by_cases hc:(0:Nat)=r.toNat
 ·simp[← hc]
 ·simp[hc]
  intro YA
  exfalso;omega
end
end Go.SL
namespace Go.SL
open Go
def bg(l:Nat)(st:LoopState)(pd:Option Code)(f:FuncId)(n:Nat)(L:eN)(ps:Array Tmp)(assign body:Code)(r:Nat):HP:=fun h =>
 ∃tmps:Array Value,(tmps.size=n∧∀t v,dB L t=some v→tmps[t]?=some v)∧ag l (.loop { state:=st,pending:=pd,fn:=f,tmps:=tmps,params:=ps,assign:=assign,body:=body,defers:=r }) h
def bQ(P:Program)(l:Nat)(args:List Value)(Pre:List HP)(Post:Value→List HP→Prop):Prop :=
 ∀G w F,Sat G w (Pre++F)→∃fn tmps assign body,(Instr.yield l args.toArray).run P w = .ok (.round l fn tmps assign body) w ∧
  ∀ro,RoundIn (fw ro) 0 P l fn tmps assign body w fun e w'=>∃v H,e = .returned v∧Post v H∧Sat G w' (H++F)
def J':List Nat→List Value→eN→eN
 | p::ps,v::vs,L=>J' ps vs ((p,v)::L)
 | _,_,L=>L
def Yp(n:Nat):List Nat→Bool
 | []=>true
 | p::ps=>Nat.blt p n && Yp n ps
theorem Ga{n:Nat}:∀(ps:List Nat) (vs:List Value) (L:eN) (tmps:Array Value),Yp n ps=true→tmps.size=n→(∀t v,dB L t=some v→tmps[t]?=some v) →
  Has n (J' ps vs L) { tmps:=(ps.zip vs).foldl (fun tmps (x:Nat × Value)=>tmps.setIfInBounds x.1 x.2) tmps,defers:=[] }
 | [],vs,L,tmps,_,hs,hg=>⟨hs,trivial,hg⟩
 | p::ps,[],L,tmps,_,hs,hg=>⟨by simpa using hs,trivial,by simpa[J']using hg⟩
 | p::ps,v::vs,L,tmps,hb,hs,hg=>by
  simp only[Yp,Bool.and_eq_true]at hb
  have h1:Has n L { tmps:=tmps,defers:=[] }:=⟨hs,trivial,hg⟩
  have h2:=h1.put hb.1 v
  exact Ga ps vs _ _ hb.2 h2.1 h2.2.2
def GD(R:Ending→World→Prop)(G:cm)(l:Nat)(F:List HP)(Post:Value→List HP→Prop):Prop :=
 (G.ro=some l∧G.ds=[])∧∀v H w,Post v H→Sat G w (H++F)→R (.returned v) w
section
variable{P:Program}{f:FuncId}{n:Nat}{R:Ending→World→Prop}{G:cm}{k:List Item}{L:eN}{H:List HP}{l r:Nat}{st:LoopState}{pd:Option Code}{n0:Nat}{f0:FuncId}{L0:eN}{ps:Array Tmp}{assign body:Code}
theorem py{w:World}(hs:Sat G w (bg l st pd f0 n0 L0 ps assign body r::H)):∃tmps:Array Value,(tmps.size=n0∧∀t v,dB L0 t=some v→tmps[t]?=some v)∧Sat G w (ag l (.loop { state:=st,pending:=pd,fn:=f0,tmps:=tmps,params:=ps,assign:=assign,body:=body,defers:=r })::H):=by
 obtain⟨t,o,u,hp,HS,h1,h2,⟨tmps,ht,hA⟩,hH,hd,he⟩:=hs
 exact⟨tmps,ht,t,o,u,hp,HS,h1,h2,hA,hH,hd,he⟩
theorem px{tmps:Array Value}(ht:tmps.size=n0∧∀t v,dB L0 t=some v→tmps[t]?=some v):aq (ag l (.loop { state:=st,pending:=pd,fn:=f0,tmps:=tmps,params:=ps,assign:=assign,body:=body,defers:=r })::H) (bg l st pd f0 n0 L0 ps assign body r::H) :=
 fun h hs=>⟨h,sub.refl h,eB (fun h hp=>⟨tmps,ht,hp⟩) (fun _ h=>h) hs⟩
theorem bQ.BA{args:List Value}{Pre:List HP}{Post:Value→List HP→Prop}(SW:Nat.beq ps.toList.length args.length=true)(qR:Yp n0 ps.toList=true)(h:∀G F R,GD R G l F Post→K P f0 n0 R G [.code assign,.beginRound,.code body] (J' ps.toList args L0) (bg l .ready none f0 n0 L0 ps assign body r::(Pre++F))) :
  bQ P l args (bg l .ready none f0 n0 L0 ps assign body r::Pre) Post:=by
 intro G w F hw
 obtain⟨tmps,ht,uM⟩:=py (H:=Pre++F) hw
 have hg:=uM.get (i:=0) rfl
 have g8:args.toArray.size=ps.size:=by have:=Nat.eq_of_beq_eq_true SW;simpa using this.symm
 refine⟨_,_,_,_,run_yield hg g8,fun ro=>⟨trivial,fun c cs _=>?_⟩⟩
 have hk:=h { G with ro:=some l,ds:=[] } F (fun e w'=>∃v H,e = .returned v∧Post v H∧Sat G w' (H++F)) ⟨⟨rfl,rfl⟩,fun v H w' hp hs=>⟨v,H,rfl,hp,hs⟩⟩
 have hz:(ps.zip args.toArray).foldl (fun(tmps:Array Value) (x:Tmp × Value)=>tmps.setIfInBounds x.1 x.2) tmps=(ps.toList.zip args).foldl (fun tmps (x:Nat × Value)=>tmps.setIfInBounds x.1 x.2) tmps:=by
  rw[← Array.foldl_toList,Array.toList_zip]
 have ha:qL { G with ro:=some l,ds:=[] } n0 (J' ps.toList args L0) { tmps:=(ps.zip args.toArray).foldl (fun(tmps:Array Value) (x:Tmp × Value)=>tmps.setIfInBounds x.1 x.2) tmps,defers:=[] }:=⟨by rw[hz];exact Ga ps.toList args L0 tmps qR ht.1 ht.2,rfl⟩
 obtain⟨v,w',⟨v',H',he,hp,hs⟩,cE⟩:=hk _ w ha (uM.aX (px ht)) (c::cs) c cs rfl
 cases he
 exact⟨.returned v,w',⟨v,H',rfl,hp,hs⟩,(StepsIn.of_steps cE).mono fun m _=>tt P ro m⟩
theorem e8{k0:List Item}(hk:gK 1000 k0 = .mk (.beginRound::k)){F:List HP}{Post:Value→List HP→Prop}(hR:GD R G l F Post)(h:K P f n R G k L (bg l .busy pd f0 n0 L0 ps assign body r::H)):K P f n R G k0 L (bg l .ready pd f0 n0 L0 ps assign body r::H):=by
 refine fF 1000 hk ?_
 intro a w ha hw cs
 obtain⟨tmps,ht,uM⟩:=py hw
 have hg:=uM.get (i:=0) rfl
 have hb:=run_beginRound (P:=P) hg rfl
 have KP:=(uM.zw (o' := .loop { state := .busy,pending:=pd,fn:=f0,tmps:=tmps,params:=ps,assign:=assign,body:=body,defers:=r })).aX (px ht)
 exact(h a _ ha KP cs).of_steps (.one (stepR_beginRound (b:=({ (default:Frame)with fn:=f,kind := .normal,roundOf:=G.ro }:Frame)) hR.1.1 hb))
theorem yp{a:Act}{w w':World}{k1:List Item}{cs:List Frame}{v:Value}(KV:G.ro=some l)(hR:R (.returned v) w')(hs:∀c wx,step P (lone (bf G.ro f a k1) (c::wx) w) = .next (lone (c.finish v) wx w')):IN P f R cs (lone (bf G.ro f a k1) cs w) G.ro:=by
 rw[KV]at hs ⊢
 intro c wx pH
 subst pH
 exact⟨v,w',hR,.one (hs c wx)⟩
theorem rU{w:World}(jump:Option Code)(hw:Sat G w (bg l st pd f0 n0 L0 ps assign body r::H)):∃w',(Instr.endRound l jump).run P w = .ok (.bool jump.isNone) w'∧Sat G w' (bg l (if jump.isNone then .ready else .done) jump f0 n0 L0 ps assign body r::H):=by
 obtain⟨tmps,ht,uM⟩:=py hw
 have hg:=uM.get (i:=0) rfl
 exact⟨_,run_endRound (P:=P) jump hg,(uM.zw (o' := .loop { state:=if jump.isNone then .ready else .done,pending:=jump,fn:=f0,tmps:=tmps,params:=ps,assign:=assign,body:=body,defers:=r })).aX (px ht)⟩
theorem eK{k0:List Item}{F Hq:List HP}{Post:Value→List HP→Prop}(hR:GD R G l F Post)(hk:gK 1000 k0 = .mk [])(he:aq H (bg l st pd f0 n0 L0 ps assign body r::(Hq++F)))(hp:Post (.bool true) (bg l .ready none f0 n0 L0 ps assign body r::Hq)):K P f n R G k0 L H:=by
 refine fF 1000 hk ?_
 intro a w ha hw cs
 obtain⟨w',h1,h2⟩:=rU (P:=P) none (hw.aX he)
 exact yp hR.1.1 (hR.2 _ _ w' hp h2) fun c wx=>stepR_round_end (b:=({ (default:Frame)with fn:=f,kind := .normal,roundOf:=G.ro }:Frame)) hR.1.1 rfl h1
theorem wW{k0:List Item}{F Hq:List HP}{Post:Value→List HP→Prop}(hR:GD R G l F Post)(hk:gK 1000 k0 = .mk (.code .ret::k))(he:aq H (bg l st pd f0 n0 L0 ps assign body r::(Hq++F)))(hp:Post (.bool false) (bg l .done (some .ret) f0 n0 L0 ps assign body r::Hq)):K P f n R G k0 L H:=by
 refine fF 1000 hk ?_
 intro a w ha hw cs
 obtain⟨w',h1,h2⟩:=rU (P:=P) (some .ret) (hw.aX he)
 exact yp hR.1.1 (hR.2 _ _ w' hp h2) fun c wx=>stepR_round_ret (b:=({ (default:Frame)with fn:=f,kind := .normal,roundOf:=G.ro }:Frame)) hR.1.1 rfl h1
theorem uU{k0:List Item}{g:Operand}{gid:FuncId}{cap:Array Value}{Pre:Nat→Nat→List HP}{Fr:List HP}{Post:Nat→Nat→Value→List HP→Prop}(hk:gK 1000 k0 = .mk (.code (.rangeFunc g ps assign body)::k))(KV:G.ro=none)(hg:ev L g=some (.func (.func gid) #[] cap))(c:∀l r,aD P gid (.func (.yield l) #[] #[]::cap.toList) (bg l .ready none f n L ps assign body r::Pre l r) (Post l r))(he:∀l r,aq H (Pre l r++Fr))(fN:∀l r v H',Post l r v H'→∃st pd Ud,H'=bg l st pd f n L ps assign body r::Ud∧st ≠ .busy ∧
   K P f n R { G with ds:=r::G.ds } ((pd.map Item.code).toList++k) L (Ud++(ag r (.deferred (some []))::Fr))):K P f n R G k0 L H:=by
 refine fF 1000 hk ?_
 intro a w ha hw cs
 let b:Frame:={ (default:Frame)with fn:=f,kind := .normal,roundOf:=G.ro }
 have YR:=run_enterLoop_outer (P:=P) (w:=w) f a.tmps ps assign body
 rw[← KV]at YR
 have uM:Sat G ((w.alloc (.deferred (some []))).alloc (.loop { state := .ready,pending:=none,fn:=f,tmps:=a.tmps,params:=ps,assign,body,defers:=w.heap.size }))
   (bg (w.heap.size+1) .ready none f n L ps assign body w.heap.size::(Pre (w.heap.size+1) w.heap.size++(ag w.heap.size (.deferred (some []))::Fr))):=by
  have h1:=hw.alloc (.deferred (some []))
  have h2:=h1.alloc (.loop { state := .ready,pending:=none,fn:=f,tmps:=a.tmps,params:=ps,assign:=assign,body:=body,defers:=w.heap.size })
  have g8:({ w with heap:=w.heap.push (.deferred (some [])) }:World).heap.size=w.heap.size+1:=by simp
  rw[g8]at h2
  refine Sat.aX h2 ?_
  refine(px ⟨ha.1.1,ha.1.2.2⟩).trans (aq.cons _ ?_)
  refine(aq.cons _ (he (w.heap.size+1) w.heap.size)).trans ?_
  exact aq.perm (List.perm_middle.symm)
 have Ep:(resolve a.eval (rangeCall g (w.heap.size+1)) 0).run P ((w.alloc (.deferred (some []))).alloc (.loop { state := .ready,pending:=none,fn:=f,tmps:=a.tmps,params:=ps,assign,body,defers:=w.heap.size })) = .ok { target := .fn (.func gid) cap,args := #[.func (.yield (w.heap.size+1)) #[] #[]] } ((w.alloc (.deferred (some []))).alloc (.loop { state := .ready,pending:=none,fn:=f,tmps:=a.tmps,params:=ps,assign,body,defers:=w.heap.size })):=by
  simp only[resolve,rangeCall,Sem.run_bind,ha.ev hg,Deferred.ofValue,Sem.run_pure,Result.andThen_ok]
  simp[Act.eval]
 have hinv:(invoke (.fn (.func gid) cap) #[.func (.yield (w.heap.size+1)) #[] #[]]).run P ((w.alloc (.deferred (some []))).alloc (.loop { state := .ready,pending:=none,fn:=f,tmps:=a.tmps,params:=ps,assign,body,defers:=w.heap.size })) = .ok (.enter gid (Value.func (.yield (w.heap.size+1)) #[] #[]::cap.toList).toArray) ((w.alloc (.deferred (some []))).alloc (.loop { state := .ready,pending:=none,fn:=f,tmps:=a.tmps,params:=ps,assign,body,defers:=w.heap.size })):=by
  simp only[invoke]
  rw[kj (c (w.heap.size+1) w.heap.size).1]
  congr 2
  apply Array.ext';simp
 have Ex:=stepR_rangeFunc (P:=P) (b:=b) (a:=a) (k:=k) (cs:=cs) (w:=w) (ps:=ps) (assign:=assign) (body:=body) (g:=g) YR Ep hinv
 obtain⟨e,w3,fr,⟨v,H',rfl,eH,Wy⟩,To,Xm,S9⟩:=(c (w.heap.size+1) w.heap.size).2 G _ (ag w.heap.size (.deferred (some []))::Fr) uM (b.atR { a with defers:=[{ target := .collected w.heap.size,args := #[] }]++a.defers } (.inRangeFunc (w.heap.size+1)::k)::cs)
 obtain⟨st,pd,Ud,rfl,cE,hK⟩:=fN _ _ _ _ eH
 obtain⟨tmps,ht,Wx⟩:=py (H:=Ud++(ag w.heap.size (.deferred (some []))::Fr)) Wy
 have hg4:=Wx.get (i:=0) rfl
 have Xu:=run_endLoop (P:=P) hg4 cE
 have hs5:=(Wx.zw (o' := .loop { state := .exhausted,pending:=pd,fn:=f,tmps:=tmps,params:=ps,assign:=assign,body:=body,defers:=w.heap.size })).aX (aq.drop _ _)
 have gg:step P (lone fr (b.atR { a with defers:=[{ target := .collected w.heap.size,args := #[] }]++a.defers } (.inRangeFunc (w.heap.size+1)::k)::cs) w3) = .next (lone (b.atR { a with defers:=[{ target := .collected w.heap.size,args := #[] }]++a.defers } (.endRangeFunc (w.heap.size+1)::k)) cs w3):=by
  rw[← finish_atR_inRangeFunc (w.heap.size+1) v];exact step_leave_returned S9
 have jS:=stepR_endRangeFunc (P:=P) (b:=b) (a:={ a with defers:=[{ target := .collected w.heap.size,args := #[] }]++a.defers }) (k:=k) (cs:=cs) Xu
 have lF:=hK { a with defers:=[{ target := .collected w.heap.size,args := #[] }]++a.defers } _ ⟨⟨ha.1.1,trivial,ha.1.2.2⟩,by rw[show({ G with ds:=w.heap.size::G.ds }:cm).ds=w.heap.size::G.ds from rfl,List.map_cons,ha.2];rfl⟩ hs5 cs
 exact IN.of_steps (Steps.trans (.one Ex) (Steps.trans To (Steps.trans (.one gg) (.one jS)))) lF
variable{S:World→Prop}{all:Array Oper}{rest:Pl}{d:Tmp}{ty:TypeId}{pos:String}{af:Array Edge}{gd:Option (Nat × Bool)}
theorem jH{fo:Operand}{args:Array Operand}{DF:Array TypeId}{vs:List Value}{Pre Fr:List HP}{Post:Value→List HP→Prop}(hd:Nat.blt d n=true)(hf:ev L fo=some (.func (.yield l) #[] #[]))(je:Jv L args.toList [] = .mk vs)(c:bQ P l vs Pre Post)(he:aq H (Pre++Fr))(h:∀v H',Post v H'→J P f n R G S all rest k ((d,v)::L) (H'++Fr))(hS:∀v H' w,Post v H'→Sat G w (H'++Fr)→Sx rest S w) :
  J P f n R G S all (.cons false true ⟨some d,.call { callee := .value fo,args:=args,argTypes:=DF },ty,pos,af,gd⟩ rest) k L H:=by
 intro a w ha hw _
 refine .inl ⟨.inl rfl,.inr ⟨rfl,?_⟩⟩
 obtain⟨fn,tmps,asg,bdy,hy,hr⟩:=c G w Fr (hw.aX he)
 have uw:(execOp a.eval ⟨some d,.call { callee := .value fo,args:=args,argTypes:=DF },ty,pos,af,gd⟩).run P w = .ok (.round l fn tmps asg bdy) w:=by
  simp only[execOp,resolve,Sem.run_bind,ha.ev hf,Deferred.ofValue,Sem.run_pure,Result.andThen_ok,invoke]
  rw[lU ha.1 _ _ je]
  simpa using hy
 refine kM (fun c hc=>by cases hc) uw ⟨fun h=>by simp[fw]at h,RoundIn.mono (hr G.ro) ?_⟩
 rintro e w'⟨v,H',rfl,eH,lR⟩
 exact⟨hS v H' w' eH lR,h v H' eH _ w' (ha.put hd v) lR (hS v H' w' eH lR)⟩
end
end Go.SL
namespace Go.SL
theorem aq.cg(l H:List HP):aq (Sep l::H) (l++H):=fun h hs=>⟨h,sub.refl h,iI hs⟩
theorem aq.bL(l H:List HP):aq (l++H) (Sep l::H):=fun h hs=>⟨h,sub.refl h,lp hs⟩
abbrev fH:=List (Nat × List Value)
def aV(e:TypeId)(M:fH):HP:=Sep (M.map fun x=>ag x.1 (cl x.2 e))
def lY(M:fH)(v:Value)(bs:List UInt8):Prop :=
 ∃a cap,v = .slice a bs.length cap∧bs.length≤cap∧(bs=[]∨∃b o cs,a=Option.some ⟨b,o,none⟩∧(b,cs)∈M∧(cs.drop o).take bs.length=bV bs)
theorem lY.mono{M M':fH}{v:Value}{bs:List UInt8}(h:lY M v bs)(hs:∀x∈M,x∈M'):lY M' v bs:=by
 obtain⟨a,cap,hv,hc,h0|⟨b,o,cs,ha,hm,ht⟩⟩:=h
 ·exact⟨a,cap,hv,hc,.inl h0⟩
 ·exact⟨a,cap,hv,hc,.inr ⟨b,o,cs,ha,hs _ hm,ht⟩⟩
theorem lY.nil(M:fH)(a:Option Addr)(cap:Nat):lY M (.slice a 0 cap) []:=⟨a,cap,rfl,Nat.zero_le _,.inl rfl⟩
theorem Ao{l:List HP}{A:HP}{h:Hp}(hA:A∈l)(hs:Sep l h):∃h',sub h' h∧A h':=by
 obtain⟨i,hi⟩:=List.getElem?_of_mem hA
 exact jo (sj (cN hi) h hs)
theorem lY.view{M:fH}{v:Value}{bs:List UInt8}(h:lY M v bs)(e:TypeId):Vw (aV e M) v bs.length (bV bs):=by
 obtain⟨a,cap,rfl,_,h0|⟨b,o,cs,ha,hm,ht⟩⟩:=h
 ·subst h0;exact⟨a,cap,rfl,.inl rfl⟩
 ·have h1:Vw (ag b (cl cs e)) (.slice a bs.length cap) bs.length (bV bs):=by
   rw[ha];exact Vw.ag (by rw[bt];exact ht)
  refine h1.mono fun h hs=>?_
  exact Ao (List.mem_map.2 ⟨(b,cs),hm,rfl⟩) hs
theorem lY.shape{M:fH}{v:Value}{bs:List UInt8}(h:lY M v bs):∃a cap,v = .slice a bs.length cap∧bs.length≤cap:=by
 obtain⟨a,cap,hv,hc,_⟩:=h;exact⟨a,cap,hv,hc⟩
theorem LV(e:TypeId)(b:Nat)(cs:List Value)(M:fH)(H:List HP):aq (ag b (cl cs e)::aV e M::H) (aV e ((b,cs)::M)::H) :=
 aq.fold (B:=[_,_]) fun h hs=>⟨h,sub.refl h,eB (fun _ h=>h) (fun _ h=>ed h) hs⟩
theorem lY.row{M:fH}{b cap:Nat}{bs:List UInt8}(hc:bs.length≤cap):lY ((b,bV bs)::M) (.slice (Option.some ⟨b,0,none⟩) bs.length cap) bs :=
 ⟨_,cap,rfl,hc,.inr ⟨b,0,bV bs,rfl,by simp,by rw[← bt];simp⟩⟩
theorem LU(e:TypeId)(v:Value)(bs:List UInt8)(M:fH):∀h,star (az e 1 v bs.length (bV bs)) (aV e M) h→∃M',lY M' v bs∧(∀x∈M,x∈M')∧aV e M' h:=by
 rintro h⟨h1,h2,⟨hl,⟨a,rfl,hn,he⟩|⟨b,o,cap,pre,bM,rfl,hp,hn,hc,tp⟩⟩,hM,hd,hj⟩
 ·have hb:bs=[]:=List.eq_nil_of_length_eq_zero hn
  subst hb
  exact⟨M,lY.nil M a 0,fun _ h=>h,wk ⟨h1,h2,he,hM,hd,hj⟩⟩
 ·refine⟨(b,pre++bV bs++bM)::M,⟨_,cap,rfl,hn,.inr ⟨b,o,pre++bV bs++bM,rfl,by simp,?_⟩⟩,fun x hx=>by simp[hx],⟨h1,h2,tp,hM,hd,hj⟩⟩
  subst hp
  rw[List.append_assoc,List.drop_left,← bt bs,List.take_left]
theorem lY.tail{M:fH}{b o n cap:Nat}{x:UInt8}{bs:List UInt8}(h:lY M (.slice (Option.some ⟨b,o,none⟩) n cap) (x::bs))(o' fQ:Nat)(h1:bs≠[]→o'=o+1)(kH:bs.length≤fQ):lY M (.slice (Option.some ⟨b,o',none⟩) bs.length fQ) bs:=by
 by_cases h0:bs=[]
 ·subst h0;exact lY.nil _ _ _
 ·have:=h1 h0
  subst this
  obtain⟨a,tB,hv,_,h2|⟨b',o2,cs,ha,hm,ht⟩⟩:=h
  ·cases h2
  ·simp only[Value.slice.injEq]at hv
   obtain⟨rfl,_,rfl⟩:=hv
   simp only[Option.some.injEq,Addr.mk.injEq,and_true]at ha
   obtain⟨rfl,rfl⟩:=ha
   refine⟨_,fQ,rfl,kH,.inr ⟨b,o+1,cs,rfl,hm,?_⟩⟩
   rw[List.length_cons]at ht
   rw[show o+1=1+o by omega,← List.drop_drop]
   have h3:=congrArg (List.drop 1) ht
   rw[List.drop_take]at h3
   simpa[bV,Nat.add_comm]using h3
theorem lY.piece{M:fH}{b o n cap:Nat}{bs:List UInt8}(h:lY M (.slice (Option.some ⟨b,o,none⟩) n cap) bs)(o' fQ p k:Nat)(Dq:p+k≤bs.length)(h1:k≠0→o'=o+p)(kH:k≤fQ):lY M (.slice (Option.some ⟨b,o',none⟩) k fQ) ((bs.drop p).take k):=by
 have hl:((bs.drop p).take k).length=k:=by rw[List.length_take,List.length_drop];omega
 by_cases h0:k=0
 ·subst h0;rw[List.take_zero];exact lY.nil _ _ _
 ·have:=h1 h0
  subst this
  obtain⟨a,tB,hv,_,h2|⟨b',o2,cs,ha,hm,ht⟩⟩:=h
  ·subst h2;simp only[List.length_nil]at Dq;omega
  ·simp only[Value.slice.injEq]at hv
   obtain⟨rfl,_,rfl⟩:=hv
   simp only[Option.some.injEq,Addr.mk.injEq,and_true]at ha
   obtain⟨rfl,rfl⟩:=ha
   refine⟨_,fQ,by rw[hl],by rw[hl];exact kH,.inr ⟨b,o+p,cs,rfl,hm,?_⟩⟩
   rw[hl,← List.drop_drop]
   have h3:=congrArg (fun l=>(l.drop p).take k) ht
   simp only[List.drop_take,List.take_take]at h3
   rw[show min k (bs.length-p)=k by omega]at h3
   rw[h3]
   simp only[bV,List.map_drop,List.map_take]
theorem lY.cut{M:fH}{a:Option Addr}{n cap:Nat}{bs:List UInt8}(h:lY M (.slice a n cap) bs)(p k:Nat)(Dq:p+k≤bs.length):lY M (.slice (sliceAt a cap p 1) k (cap-p)) ((bs.drop p).take k):=by
 obtain⟨a',fQ,hv,hc,h0⟩:=h
 simp only[Value.slice.injEq]at hv
 obtain⟨rfl,hn,rfl⟩:=hv
 by_cases hk:k=0
 ·subst hk;rw[List.take_zero];exact lY.nil _ _ _
 ·rcases h0 with h0|⟨b,o,cs,rfl,hm,ht⟩
  ·subst h0;simp only[List.length_nil]at Dq;omega
  ·have e:sliceAt (Option.some ⟨b,o,none⟩) cap p 1=Option.some ⟨b,o+p,none⟩:=by
    unfold sliceAt
    rw[if_neg ai,Option.map_some,Addr.add_eq,Nat.mul_one]
   rw[e]
   exact lY.piece (o:=o) (n:=bs.length) (cap:=cap) ⟨_,_,rfl,hc,.inr ⟨b,o,cs,rfl,hm,ht⟩⟩ _ _ p k Dq (fun _=>rfl) ai
def aQ{α:Type}(g:α→HP)(l:List α):HP:=Sep (l.map g)
theorem kF{α:Type}(g:α→HP){l:List α}{i:Nat}{x:α}(hi:l[i]?=Option.some x)(H:List HP):aq (aQ g l::H) (g x::aQ g (l.eraseIdx i)::H):=fun h hs=>by
 refine⟨h,sub.refl h,jL (eB (fun h hs=>?_) (fun _ h=>h) hs)⟩
 have h1:(l.map g)[i]?=Option.some (g x):=by simp[hi]
 have h2:=sj (cN h1) h hs
 rw[← gj]at h2
 exact h2
theorem q7{α:Type}(g:α→HP){l:List α}{i:Nat}{x:α}(hi:l[i]?=Option.some x)(H:List HP):aq (g x::aQ g (l.eraseIdx i)::H) (aQ g l::H):=fun h hs=>by
 refine⟨h,sub.refl h,eB (fun h hs=>?_) (fun _ h=>h) (jq hs)⟩
 have h1:(l.map g)[i]?=Option.some (g x):=by simp[hi]
 refine sj (cN h1).symm h ?_
 rw[← gj]
 exact hs
theorem yh{α:Type}(g:α→HP){l:List α}{i:Nat}{x y:α}(hi:l[i]?=Option.some x)(H:List HP):aq (g y::aQ g (l.eraseIdx i)::H) (aQ g (l.set i y)::H):=by
 have cO:i<l.length:=by
  rcases Nat.lt_or_ge i l.length with h|h
  ·exact h
  ·rw[List.getElem?_eq_none h]at hi;cases hi
 have h1:(l.set i y)[i]?=Option.some y:=by simp[cO]
 have h2:=q7 g h1 H
 have h3:(l.set i y).eraseIdx i=l.eraseIdx i:=by
  clear hi h1 h2
  induction l generalizing i with
  | nil=>simp
  | cons z l ih=>cases i with
   | zero=>simp
   | succ i=>simp at cO ⊢;exact ih cO
 rw[h3]at h2
 exact h2
theorem pj{α:Type}(g:α→HP)(x:α)(l:List α)(H:List HP):aq (g x::aQ g l::H) (aQ g (x::l)::H):=fun h hs=>⟨h,sub.refl h,jq hs⟩
theorem yj{α:Type}{g:α→HP}{l:List α}{x:α}(hx:x∈l){h:Hp}(hs:aQ g l h):∃h',sub h' h∧g x h':=Ao (List.mem_map.2 ⟨x,hx,rfl⟩) hs
theorem wK(e:TypeId)(H:List HP):aq H (aV e []::H):=aq.oQ H
theorem yi{α:Type}(g:α→HP)(H:List HP):aq H (aQ g []::H):=aq.oQ H
structure Ab where
 room:Nat
 fs:List (Nat × List UInt8 × List UInt8)
 names:List (ByteArray × Nat)
 aH:List (List (ByteArray × Nat))
 writes:List (Nat × Nat × List UInt8)
 dY:List UInt8
 off:Bool
namespace Ab
def meet(A:Ab)(may:Bool):Nat × Ab :=
 if may=false then(1,A)else if A.off=true then(7,A)else match A.dY with
 | []=>(0,A)
 | x::p=>if x=1 then(6,{ A with dY:=p })else if x=2 then(7,{ A with dY:=p,off:=true })else(0,{ A with dY:=p })
def du(l:List (ByteArray × Nat))(name:ByteArray):Option Nat:=(l.find? fun x=>decide (x.1=name)).map (·.2)
def look(A:Ab)(name:ByteArray):Option Nat:=du A.names name
def file(A:Ab)(f:Nat):List UInt8 × List UInt8:=((A.fs.find? fun x=>decide (x.1=f)).map (·.2)).getD ([],[])
def now(A:Ab)(f:Nat):List UInt8:=(A.file f).1
def sure(A:Ab)(f:Nat):List UInt8:=(A.file f).2
def find(A:Ab)(name:ByteArray)(may:Bool):Nat × Option Nat × Ab :=
 if(A.meet may).1=0 then match (A.meet may).2.look name with
  | none=>(4,none,(A.meet may).2)
  | some f=>(0,some f,(A.meet may).2)
 else((A.meet may).1,none,(A.meet may).2)
def used(A:Ab):Nat:=(A.names.map fun x=>(A.now x.2).length).sum
def new(room:Nat):Ab:=⟨room,[],[],[[]],[],[],false⟩
def jt(l:List (ByteArray × Nat))(k:ByteArray)(f:Nat):List (ByteArray × Nat):=if(du l k).isSome then l.map (fun x=>if x.1=k then(k,f)else x)else l++[(k,f)]
def dD(l:List (ByteArray × Nat))(k:ByteArray):List (ByteArray × Nat):=l.filter fun x => !decide (x.1=k)
def nH(A:Ab)(nm:List (ByteArray × Nat)):Ab:={ A with names:=nm,aH:=A.aH++[nm] }
def create(A:Ab)(ok:Bool)(name:ByteArray)(f:Nat):Nat × Ab :=
 if(A.meet ok).1=0 then
  if((A.meet ok).2.look name).isSome then(5,(A.meet ok).2)
  else if 200≤(A.meet ok).2.names.length then(3,(A.meet ok).2)
  else(0,{ (A.meet ok).2.nH ((A.meet ok).2.names++[(name,f)])with fs:=(f,[],[])::(A.meet ok).2.fs })
 else((A.meet ok).1,(A.meet ok).2)
def remove(A:Ab)(ok:Bool)(name:ByteArray):Nat × Ab:=match A.find name ok with
 | (0,some _,A1)=>(0,A1.nH (dD A1.names name))
 | (e,_,A1)=>(e,A1)
def rename(A:Ab)(ok:Bool)(old name:ByteArray):Nat × Ab:=match A.find old ok with
 | (0,some f,A1)=>(0,A1.nH (jt (dD A1.names old) name f))
 | (e,_,A1)=>(e,A1)
def Dm(fs:List (Nat × List UInt8 × List UInt8))(f:Nat)(n:List UInt8):List (Nat × List UInt8 × List UInt8):=fs.map fun x=>if x.1=f then(x.1,n,x.2.2)else x
def write(A:Ab)(ok:Bool)(name:ByteArray)(at_:Nat)(b:List UInt8):Nat × Ab :=
 if(A.find name ok).1=0 then match (A.find name ok).2.1 with
  | some f=>if(A.find name ok).2.2.room<(A.find name ok).2.2.used+(at_+b.length-((A.find name ok).2.2.now f).length)then(3,(A.find name ok).2.2)
   else(0,{ (A.find name ok).2.2 with fs:=Dm (A.find name ok).2.2.fs f (dJ ((A.find name ok).2.2.now f) at_ b),writes:=(A.find name ok).2.2.writes++[(f,at_,b)] })
  | none=>(0,(A.find name ok).2.2)
 else((A.find name ok).1,(A.find name ok).2.2)
def size(A:Ab)(name:ByteArray):Nat × Nat:=match A.look name with
 | none=>(0,4)
 | some f=>((A.now f).length,0)
def read(A:Ab)(name:ByteArray)(at_ n:Int):List UInt8 × Nat :=
 if A.off=true then([],7)else match A.look name with
  | none=>([],4)
  | some f=>if at_<0∨n<0∨((A.now f).length:Int)<at_∨((A.now f).length:Int)-at_<n then([],1)else(((A.now f).drop at_.toNat).take n.toNat,0)
def cp(A:Ab):Nat × Ab:=if(A.meet true).1=0 then(0,{ (A.meet true).2 with aH:=[(A.meet true).2.names] })else((A.meet true).1,(A.meet true).2)
def nV(fs:List (Nat × List UInt8 × List UInt8))(f:Nat):List (Nat × List UInt8 × List UInt8):=fs.map fun x=>if x.1=f then(x.1,x.2.1,x.2.1)else x
def sync(A:Ab)(ok:Bool)(name:ByteArray):Nat × Ab :=
 if(A.find name ok).1=0 then match (A.find name ok).2.1 with
  | some f=>(0,{ (A.find name ok).2.2 with fs:=nV (A.find name ok).2.2.fs f,writes:=(A.find name ok).2.2.writes.filter fun x => !decide (x.1=f) })
  | none=>(0,(A.find name ok).2.2)
 else((A.find name ok).1,(A.find name ok).2.2)
def kept(stay:List UInt8)(Y' cut:Int)(i:Nat)(b:List UInt8):Option (List UInt8) :=
 if(i:Int)=Y' then(let c:=b.take (max 0 (min cut b.length)).toNat;if c=[]then none else some c)
 else if(i/8<stay.length∧((stay.getD (i/8) 0).toNat/2 ^ (i%8))%2=1)then some b else none
end Ab
section
variable{P:Program}{U:Tr}[hU:e7 P U]{f:FuncId}{n:Nat}{R:Ending→World→Prop}{G:cm}{k:List Item}{L:eN}{H H':List HP}{S:World→Prop}{all:Array Oper}{rest:Pl}{ty:TypeId}{pos:String}{af:Array Edge}{gd:Option (Nat × Bool)}{m:Bool}{d:Tmp}
theorem u0(z:Value)(q:Nat):(Builtin.zeroCells z.cells q).toList=(List.replicate q (aY z)).flatten:=by
 have pH:z.cells.size=(aY z).length:=by rw[dq];simp
 unfold Builtin.zeroCells
 simp only[Array.toList_map,Array.toList_range,pH]
 rw[dq]
 induction q with
 | zero=>simp
 | succ q ih =>
  rw[List.replicate_succ',List.flatten_append,← ih,Nat.succ_mul,List.range_add,List.map_append]
  congr 1
  simp only[List.map_map,List.flatten_cons,List.flatten_nil,List.append_nil]
  apply List.ext_getElem?
  intro j
  by_cases hj:j<(aY z).length
  ·simp only[List.getElem?_map,List.getElem?_range hj,Option.map_some,Function.comp]
   rw[Nat.mul_comm,Nat.mul_add_mod,Nat.mod_eq_of_lt hj]
   simp[hj]
  ·rw[List.getElem?_eq_none (by simp;omega),List.getElem?_eq_none ai]
theorem Bb{t t2 elem rty:TypeId}{bJ Dn te:Ty}{z:Value}{a0:Option Addr}{kk cap mm:Nat}{q:IntKind}{cs:List Value}{A:HP}{w:World}(i:Nat)(ht:U.get t=some bJ)(hu:bJ.fK = .slice elem)(h2:U.get t2=some Dn)(NW:Dn.fK = .int q)(he:U.get elem=some te)(hz:te.info.zero=some z)(Jd:(aY z).length=te.info.size)(g8:0<te.info.size)(hw:Sat G w H)(hi:cf H i=some A)(hv:Vw A (.slice a0 kk cap) kk cs)(hl:cs.length=kk*te.info.size)(ML:cap<kk+mm)(yG:0<mm)(HZ:kk+mm≤9223372036854775807)(YI:mm*te.info.bytes≤140737488355328)(oE:(kk+mm)*te.info.bytes≤140737488355328) :
  (Builtin.append_ #[t,t2] rty #[.slice a0 kk cap,.int .i64 (mm:Int)]).run P w = .ok (.slice (some ⟨w.heap.size,0,none⟩) (kk+mm) (grownCap w (kk+mm) cap elem))
   (w.drew.alloc (cl (cs++(List.replicate mm (aY z)).flatten++(Builtin.zeroCells z.cells (grownCap w (kk+mm) cap elem-(kk+mm))).toList) elem)):=by
 have tj:∀ {w:World},(underlying t2).run P w = .ok Dn.fK w:=fun {w}=>run_underlying h2 w
 have Ut:(Dn.fK matches .int _)=true:=by rw[NW]
 have xM:¬kk+mm≤cap:=by omega
 have YO:=growslice_fits (need:=kk+mm) (old:=cap) (bytes:=te.info.bytes) ai oE
 have H4:=mq (P:=P) (G:=G) (w:=w.drew) hv (hw.draw _) hi hl
 have Eu:¬((9223372036854775807:Int)<(kk:Int)+(mm:Int)):=by omega
 have Tf:¬281474976710656<Builtin.nextslicecap (kk+mm) cap*te.info.bytes:=by omega
 have zR:IntKind.i64.wrap (mm:Int)=mm:=cD (by simp only[fz];omega)
 have aas:¬((mm:Int)<0):=by omega
 have qe:¬((281474976710656:Int)<(mm:Int)*(te.info.bytes:Int)):=by
  have:((mm*te.info.bytes:Nat):Int)≤140737488355328:=by omega
  rw[Int.natCast_mul]at this;omega
 have ct:¬(mm*te.info.size=0):=Nat.ne_of_gt (Nat.mul_pos yG g8)
 have Zx:=u0 z mm
 simp[Builtin.append_,run_underlying ht,hu,run_sizeOf he,tj,Ut,asInt,asIntOf,zR,aas,qe,xM,Eu,Tf,Question.forced,run_typeInfo he,dv he hz,newRow,H4,grownCap,cl,ct,NW]
 congr 2
 apply Array.ext'
 simp[Zx]
theorem I1{x y:Operand}{t t2 elem:TypeId}{bJ Dn te:Ty}{z:Value}{a0:Option Addr}{kk cap mm:Nat}{q:IntKind}{cs:List Value}{A:HP}(i:Nat)(hd:Nat.blt d n=true)(hx:ev L x=some (.slice a0 kk cap))(hy:ev L y=some (.int .i64 (mm:Int)))(ht:U.get t=some bJ)(hu:bJ.fK = .slice elem)(h2:U.get t2=some Dn)(NW:Dn.fK = .int q)(he:U.get elem=some te)(hz:te.info.zero=some z)(Jd:Nat.beq (aY z).length te.info.size=true)(g8:Nat.blt 0 te.info.size=true)(hi:cf H i=some A)(hv:Vw A (.slice a0 kk cap) kk cs)(hl:cs.length=kk*te.info.size)(ML:cap<kk+mm)(yG:0<mm)(HZ:kk+mm≤9223372036854775807)(YI:mm*te.info.bytes≤140737488355328)(oE:(kk+mm)*te.info.bytes≤140737488355328)(hS:∀v' w,Sat G w (az elem te.info.size v' (kk+mm) (cs++(List.replicate mm (aY z)).flatten)::H)→Sx rest S w)(h:∀v',J P f n R G S all rest k ((d,v')::L) (az elem te.info.size v' (kk+mm) (cs++(List.replicate mm (aY z)).flatten)::H)) :
  J P f n R G S all (.cons false true ⟨some d,.call { callee := .builtin .append,args := #[x,y],argTypes := #[t,t2] },ty,pos,af,gd⟩ rest) k L H:=by
 refine mT hd (fun u H1=>H1=az elem te.info.size u (kk+mm) (cs++(List.replicate mm (aY z)).flatten)::H) (fun a w ha hw=>?_) ?_ ?_
 ·have hr:=Bb (P:=P) (rty:=ty) i ht hu h2 NW he hz (Nat.eq_of_beq_eq_true Jd) (by simpa[Nat.blt_eq]using g8) hw hi hv hl ML yG HZ YI oE
  refine⟨.slice (some ⟨w.heap.size,0,none⟩) (kk+mm) (grownCap w (kk+mm) cap elem),w.drew.alloc (cl (cs++(List.replicate mm (aY z)).flatten++(Builtin.zeroCells z.cells (grownCap w (kk+mm) cap elem-(kk+mm))).toList) elem),_,?_,rfl,?_⟩
  ·simp[execOp,resolve,invoke,builtin,ha.ev hx,ha.ev hy,hr]
  ·have h5:=Sat.alloc (w:=w.drew) (hw.draw _) (cl (cs++(List.replicate mm (aY z)).flatten++(Builtin.zeroCells z.cells (grownCap w (kk+mm) cap elem-(kk+mm))).toList) elem)
   refine h5.aX (aq.fold (B:=[_]) fun h hs=>⟨h,sub.refl h,?_⟩)
   have eQ:=grownCap_ge w (kk+mm) cap elem
   have KO:(List.replicate mm (aY z)).flatten.length=mm*te.info.size:=by rw[ld,Nat.eq_of_beq_eq_true Jd]
   refine⟨by simp only[List.length_append,hl,KO,Nat.add_mul],.inr ⟨w.heap.size,0,_,[],_,rfl,rfl,eQ,?_,by simpa using ed hs⟩⟩
   have h7:(Builtin.zeroCells z.cells (grownCap w (kk+mm) cap elem-(kk+mm))).size=(grownCap w (kk+mm) cap elem-(kk+mm))*te.info.size:=by rw[size_zeroCells,dq];simp[Nat.eq_of_beq_eq_true Jd]
   rw[List.length_append,hl,KO,Array.length_toList,h7,← Nat.add_mul,← Nat.add_mul]
   exact Nat.le_of_eq (by congr 1;omega)
 ·rintro u H1 w rfl hw;exact hS u w hw
 ·rintro u H1 rfl;exact h u
theorem Pf{x:Operand}{t:TypeId}{bJ:Ty}{e:TypeId}{a0:Option Addr}{len cap:Nat}(hd:Nat.blt d n=true)(hx:ev L x=some (.slice a0 len cap))(ht:U.get t=some bJ)(hu:bJ.fK = .slice e)(h:J P f n R G S all rest k ((d,.int .i64 (cap:Int))::L) H):J P f n R G S all (.cons m true ⟨some d,.call { callee := .builtin .cap,args := #[x],argTypes := #[t] },ty,pos,af,gd⟩ rest) k L H:=by
 refine cT hd (fun a ha w=>?_) h
 simp[execOp,resolve,invoke,builtin,ha.ev hx,Builtin.cap_,run_underlying ht,hu,goInt]
end
end Go.SL
namespace Go.SL
theorem Vw.front{A:HP}{b o n cap:Nat}{cs:List Value}(h:Vw A (.slice (Option.some ⟨b,o,none⟩) n cap) n cs)(i fQ q:Nat):Vw A (.slice (Option.some ⟨b,o,none⟩) i fQ) i (cs.take q):=by
 obtain⟨a,tB,hv,h0|⟨b',o',ha,hc⟩⟩:=h
 ·subst h0;exact⟨_,fQ,rfl,.inl (by simp)⟩
 ·simp only[Value.slice.injEq,true_and]at hv
  obtain⟨rfl,_⟩:=hv
  simp only[Option.some.injEq,Addr.mk.injEq,and_true]at ha
  obtain⟨rfl,rfl⟩:=ha
  refine⟨_,fQ,rfl,.inr ⟨b,o,rfl,fun h hA j c hj=>?_⟩⟩
  rw[List.getElem?_take]at hj
  split at hj
  ·exact hc h hA j c hj
  ·cases hj
theorem Vw.back{A:HP}{b o n cap:Nat}{cs:List Value}(h:Vw A (.slice (Option.some ⟨b,o,none⟩) n cap) n cs)(i fQ q:Nat):Vw A (.slice (Option.some ⟨b,o+q,none⟩) i fQ) i (cs.drop q):=by
 obtain⟨a,tB,hv,h0|⟨b',o',ha,hc⟩⟩:=h
 ·subst h0;exact⟨_,fQ,rfl,.inl (by simp)⟩
 ·simp only[Value.slice.injEq,true_and]at hv
  obtain⟨rfl,_⟩:=hv
  simp only[Option.some.injEq,Addr.mk.injEq,and_true]at ha
  obtain⟨rfl,rfl⟩:=ha
  refine⟨_,fQ,rfl,.inr ⟨b,o+q,rfl,fun h hA j c hj=>?_⟩⟩
  rw[List.getElem?_drop]at hj
  rw[Nat.add_assoc]
  exact hc h hA (q+j) c hj
theorem rh(b o cap p sz:Nat)(h:p≠cap):sliceAt (some ⟨b,o,none⟩) cap p sz=some ⟨b,o+p*sz,none⟩:=by
 unfold sliceAt;rw[if_neg h,Option.map_some,Addr.add_eq]
section
variable{P:Program}{U:Tr}[hU:e7 P U]{f:FuncId}{n:Nat}{R:Ending→World→Prop}{G:cm}{k:List Item}{L:eN}{H H':List HP}{S:World→Prop}{all:Array Oper}{rest:Pl}{ty:TypeId}{pos:String}{af:Array Edge}{gd:Option (Nat × Bool)}{m:Bool}{d:Tmp}
theorem T5{e:TypeId}{sz nn:Nat}{v:Value}{cs:List Value}(i:Nat)(hi:cf H i=some (az e sz v nn cs))(h0:0<nn)(h:∀b o c,v = .slice (some ⟨b,o,none⟩) nn c→nn≤c→cs.length=nn*sz→Vw (az e sz v nn cs) v nn cs→K P f n R G k L H):K P f n R G k L H :=
 qj fun⟨w,hw⟩=>by
  obtain⟨h1,_,hA⟩:=hw.j7 hi
  have hv:=Vw.oh e sz v nn cs ⟨h1,hA⟩
  obtain⟨hl,⟨a,rfl,rfl,_⟩|⟨b,o,cap,pre,bM,rfl,_,hc,_⟩⟩:=hA
  ·omega
  ·exact h _ _ _ rfl hc hl hv
theorem GX{e:TypeId}{b o c nn sz:Nat}{cs:List Value}(h0:0<nn):∀h,az e sz (.slice (some ⟨b,o,none⟩) nn c) nn cs h→∃x:List Value × List Value,(x.1.length=o∧nn≤c∧c*sz≤cs.length+x.2.length∧cs.length=nn*sz)∧Sep [ag b (cl (x.1++cs++x.2) e)] h:=by
 rintro h⟨hl,⟨a,hv,rfl,he⟩|⟨b',o',cap,pre,bM,hv,hp,hn,hc,tp⟩⟩
 ·omega
 ·simp only[Value.slice.injEq,Option.some.injEq,Addr.mk.injEq,and_true,true_and]at hv
  obtain⟨⟨rfl,rfl⟩,rfl⟩:=hv
  exact⟨(pre,bM),⟨hp,hn,hc,hl⟩,fE tp⟩
theorem gP(b o cap sz:Nat):sliceAt (some ⟨b,o,none⟩) cap 0 sz=some ⟨b,o,none⟩:=by
 unfold sliceAt;split
 ·rfl
 ·rw[Option.map_some,Addr.add_eq];simp
theorem Gz{x y:Operand}{t t2 elem:TypeId}{bJ te:Ty}{v2:Value}{b o dl dc mm:Nat}{l src l':List Value}{e:TypeId}{A:HP}(i j:Nat)(hd:Nat.blt d n=true)(hx:ev L x=some (.slice (some ⟨b,o,none⟩) dl dc))(hy:ev L y=some v2)(ht:U.get t=some bJ)(hu:bJ.fK = .slice elem)(he:U.get elem=some te)(hi:cf H i=some (ag b (cl l e)))(hj:cf H j=some A)(tm:Vw A v2 mm src)(qC:src.length=mm*te.info.size)(fC:∀u∈src.take (min mm dl*te.info.size),u.oneCell'=true)(xO:o+(min mm dl)*te.info.size≤l.length)(NC:l'=l.take o++src.take (min mm dl*te.info.size)++l.drop (o+min mm dl*te.info.size))(hp:km i (ag b (cl l' e)) H [] = .mk H')(hS:∀w,Sat G w H'→Sx rest S w)(h:J P f n R G S all rest k ((d,.int .i64 (min mm dl:Nat))::L) H') :
  J P f n R G S all (.cons false true ⟨some d,.call { callee := .builtin .copy,args := #[x,y],argTypes := #[t,t2] },ty,pos,af,gd⟩ rest) k L H:=by
 refine mT hd (fun u H1=>u = .int .i64 (min mm dl:Nat)∧H1=H') (fun a w ha hw=>?_) ?_ ?_
 ·have hf:=vr (P:=P) (q:=min mm dl) tm hw hj qC (Nat.min_le_left _ _)
  obtain⟨a2,c2,Wq,_⟩:=tm
  subst Wq
  have h3:(src.take (min mm dl*te.info.size)).length=min mm dl*te.info.size:=by rw[List.length_take,qC];exact Nat.min_eq_left (Nat.mul_le_mul_right _ (Nat.min_le_left _ _))
  have cE:=fy (P:=P) (src.take (min mm dl*te.info.size)) 0 o l w (hw.rR hi) (by rw[h3];simpa using xO) fC
  simp only[Nat.add_zero,h3,← NC]at cE
  refine⟨_,_,H',?_,⟨rfl,rfl⟩,hw.put hi hp⟩
  simp only[execOp,resolve,invoke,builtin,Sem.run_bind,Sem.run_pure,Result.andThen_ok,List.map_toArray,List.map_cons,List.map_nil,ha.ev hx,ha.ev hy,Builtin.copy_,List.getElem?_toArray,List.getElem?_cons_zero,List.getElem?_cons_succ,
   run_underlying ht,hu,Builtin.lenOf,run_sizeOf he]
  rw[show Nat.min mm dl=min mm dl from rfl]
  simp only[hf,Result.andThen_ok,cE,goInt]
 ·rintro u H1 w⟨rfl,rfl⟩ hw;exact hS w hw
 ·rintro u H1⟨rfl,rfl⟩;exact h
end
end Go.SL
namespace Go.SL
theorem Vw.aa1{A:HP}{a:Option Addr}{n cap s:Nat}{cs:List Value}(h:Vw A (.slice a n cap) n cs)(k:Nat):Vw A (.slice (sliceAt a cap 0 s) k cap) k (cs.take (k*s)):=by
 have h':=h
 obtain⟨a',tB,hv,h0|⟨b',o',ha,hc⟩⟩:=h
 ·subst h0;exact⟨_,cap,rfl,.inl (by simp)⟩
 ·simp only[Value.slice.injEq,true_and]at hv
  obtain⟨rfl,_⟩:=hv
  subst ha
  rw[gP]
  exact h'.front k cap (k*s)
theorem Vw.LG{A:HP}{a:Option Addr}{n cap s:Nat}{cs:List Value}(h:Vw A (.slice a n cap) n cs)(hl:cs.length=n*s)(hn:n≤cap)(k:Nat)(hk:k≤n):Vw A (.slice (sliceAt a cap k s) (n-k) (cap-k)) (n-k) (cs.drop (k*s)):=by
 have h':=h
 obtain⟨a',tB,hv,h0|⟨b',o',ha,hc⟩⟩:=h
 ·subst h0;exact⟨_,_,rfl,.inl (by simp)⟩
 ·simp only[Value.slice.injEq,true_and]at hv
  obtain⟨rfl,_⟩:=hv
  subst ha
  by_cases Jl:k=cap
  ·have:cs.drop (k*s)=[]:=List.eq_nil_of_length_eq_zero (by rw[List.length_drop,hl,Jl,show n=cap from by omega];omega)
   rw[this];exact⟨_,_,rfl,.inl rfl⟩
  ·rw[rh _ _ _ _ _ Jl]
   exact h'.back (n-k) (cap-k) (k*s)
section
variable{P:Program}{U:Tr}[hU:e7 P U]{f:FuncId}{n:Nat}{R:Ending→World→Prop}{G:cm}{k:List Item}{L:eN}{H H':List HP}{S:World→Prop}{all:Array Oper}{rest:Pl}{ty:TypeId}{pos:String}{af:Array Edge}{gd:Option (Nat × Bool)}{m:Bool}{d:Tmp}
theorem CV{t:TypeId}{x y:Operand}{b o q off c nn sz:Nat}{bJ:Ty}{u:Value}{e:TypeId}{cs:List Value}(i:Nat)(hS:∀w,Sat G w H'→Sx rest S w)(hx:ev L x=some (.pointer (some ⟨b,off,none⟩)))(ie:off=o+q)(hy:ev L y=some u)(ht:U.get t=some bJ)(g8:Nat.beq bJ.info.size 1=true)(hc:aY u=[u])(fC:gJ [u]=true)(hi:cf H i=some (az e sz (.slice (some ⟨b,o,none⟩) nn c) nn cs))(h0:0<nn)(hq:q<nn*sz)(hp:km i (az e sz (.slice (some ⟨b,o,none⟩) nn c) nn (cs.set q u)) H [] = .mk H')(h:J P f n R G S all rest k L H'):J P f n R G S all (.cons false true ⟨none,.store t x y,ty,pos,af,gd⟩ rest) k L H:=by
 subst ie
 refine aG (aq.perm (cN (by rw[← df];exact hi))) ?_
 refine AA (B:=fun x:List Value × List Value=>[ag b (cl (x.1++cs++x.2) e)]) (fun h hs=>GX h0 h hs) ?_
 rintro⟨pre,bM⟩⟨h1,h2,h3,h4⟩
 simp only at h1 h2 h3 h4
 have fM:(pre++cs++bM).set (o+q) u=pre++cs.set q u++bM:=by
  rw[List.append_assoc,List.set_append_right _ _ ai,show o+q-pre.length=q by omega,List.set_append_left _ _ ai,List.append_assoc]
 have hE:aq (ag b (cl (pre++cs.set q u++bM) e)::H.eraseIdx i) H':=by
  have h5:=ng i _ _ H [] H' hp hi
  exact(kU h1 h2 (by rw[List.length_set];exact h3) (by rw[List.length_set];exact h4) _).trans (aq.perm (by simpa using h5.symm))
 refine bI (U:=U) (l':=pre++cs.set q u++bM) 0 (fun w hw=>hS w (hw.aX hE)) hx hy ht (by rw[hc,Nat.eq_of_beq_eq_true g8];rfl) (by rw[hc];rfl) (by rw[hc];exact fC) rfl ?_ rfl (aG hE h)
 rw[hc,FE _ _ _ _ (by simp;omega),← fM]
 rfl
end
end Go.SL
namespace Go.Proofs.YthjbidjmgbjkiaaGreatDoor
open Go Go.SL
def ptr(f:Nat):Value := .pointer (some ⟨f,0,none⟩)
end Go.Proofs.YthjbidjmgbjkiaaGreatDoor
namespace Go.Proofs.YthjbidjmgbjkiaaGreatDoor
open Go.SL
def TP(i:TypeId)(a b:TypeInfo):Prop:=Tryz.prog.underlying i=some a.desc∧Tryz.prog.info? i=some b
theorem Zi:TP 1 Tryz.t1 Tryz.t1:=⟨ak,ak⟩
theorem Zh:TP 2 Tryz.t2 Tryz.t2:=⟨ak,ak⟩
theorem Zg:TP 3 Tryz.t3 Tryz.t3:=⟨ak,ak⟩
theorem Zf:TP 4 Tryz.t4 Tryz.t4:=⟨ak,ak⟩
theorem Ze:TP 5 Tryz.t5 Tryz.t5:=⟨ak,ak⟩
theorem Zd:TP 6 Tryz.t5 Tryz.t6:=⟨ak,ak⟩
theorem Zc:TP 7 Tryz.t7 Tryz.t7:=⟨ak,ak⟩
theorem Zb:TP 8 Tryz.t7 Tryz.t8:=⟨ak,ak⟩
theorem Za:TP 9 Tryz.t9 Tryz.t9:=⟨ak,ak⟩
theorem V5:TP 10 Tryz.t9 Tryz.t10:=⟨ak,ak⟩
theorem V4:TP 11 Tryz.t9 Tryz.t11:=⟨ak,ak⟩
theorem V3:TP 12 Tryz.t12 Tryz.t12:=⟨ak,ak⟩
theorem V2:TP 13 Tryz.t13 Tryz.t13:=⟨ak,ak⟩
theorem V1:TP 14 Tryz.t13 Tryz.t14:=⟨ak,ak⟩
theorem V0:TP 15 Tryz.t15 Tryz.t15:=⟨ak,ak⟩
theorem VZ:TP 16 Tryz.t16 Tryz.t16:=⟨ak,ak⟩
theorem VY:TP 17 Tryz.t17 Tryz.t17:=⟨ak,ak⟩
theorem VX:TP 18 Tryz.t18 Tryz.t18:=⟨ak,ak⟩
theorem VW:TP 19 Tryz.t18 Tryz.t19:=⟨ak,ak⟩
theorem VV:TP 20 Tryz.t20 Tryz.t20:=⟨ak,ak⟩
theorem VU:TP 21 Tryz.t21 Tryz.t21:=⟨ak,ak⟩
theorem VT:TP 22 Tryz.t22 Tryz.t22:=⟨ak,ak⟩
theorem VS:TP 23 Tryz.t23 Tryz.t23:=⟨ak,ak⟩
theorem VR:TP 24 Tryz.t24 Tryz.t24:=⟨ak,ak⟩
theorem VQ:TP 25 Tryz.t25 Tryz.t25:=⟨ak,ak⟩
theorem VP:TP 26 Tryz.t3 Tryz.t26:=⟨ak,ak⟩
theorem VO:TP 28 Tryz.t28 Tryz.t28:=⟨ak,ak⟩
theorem VN:TP 29 Tryz.t29 Tryz.t29:=⟨ak,ak⟩
theorem VM:TP 30 Tryz.t30 Tryz.t30:=⟨ak,ak⟩
theorem VL:TP 31 Tryz.t31 Tryz.t31:=⟨ak,ak⟩
theorem VK:TP 32 Tryz.t32 Tryz.t32:=⟨ak,ak⟩
theorem VJ:TP 33 Tryz.t32 Tryz.t33:=⟨ak,ak⟩
theorem VI:TP 34 Tryz.t34 Tryz.t34:=⟨ak,ak⟩
theorem VH:TP 35 Tryz.t35 Tryz.t35:=⟨ak,ak⟩
theorem VG:TP 36 Tryz.t35 Tryz.t36:=⟨ak,ak⟩
theorem VF:TP 37 Tryz.t37 Tryz.t37:=⟨ak,ak⟩
theorem VE:TP 38 Tryz.t37 Tryz.t38:=⟨ak,ak⟩
theorem VD:TP 39 Tryz.t39 Tryz.t39:=⟨ak,ak⟩
theorem VC:TP 40 Tryz.t40 Tryz.t40:=⟨ak,ak⟩
theorem VB:TP 42 Tryz.t42 Tryz.t42:=⟨ak,ak⟩
theorem VA:TP 43 Tryz.t43 Tryz.t43:=⟨ak,ak⟩
theorem Vz:TP 44 Tryz.t43 Tryz.t44:=⟨ak,ak⟩
theorem Vy:TP 45 Tryz.t45 Tryz.t45:=⟨ak,ak⟩
theorem Vx:TP 46 Tryz.t46 Tryz.t46:=⟨ak,ak⟩
theorem Vv:TP 47 Tryz.t47 Tryz.t47:=⟨ak,ak⟩
theorem Vu:TP 48 Tryz.t48 Tryz.t48:=⟨ak,ak⟩
theorem Vt:TP 49 Tryz.t49 Tryz.t49:=⟨ak,ak⟩
theorem Vs:TP 51 Tryz.t51 Tryz.t51:=⟨ak,ak⟩
theorem Vr:TP 53 Tryz.t53 Tryz.t53:=⟨ak,ak⟩
theorem Vq:TP 55 Tryz.t55 Tryz.t55:=⟨ak,ak⟩
theorem Vp:TP 56 Tryz.t56 Tryz.t56:=⟨ak,ak⟩
theorem Vo:TP 57 Tryz.t57 Tryz.t57:=⟨ak,ak⟩
theorem Vn:TP 59 Tryz.t59 Tryz.t59:=⟨ak,ak⟩
theorem Vl:TP 60 Tryz.t60 Tryz.t60:=⟨ak,ak⟩
theorem Vk:TP 61 Tryz.t60 Tryz.t61:=⟨ak,ak⟩
theorem Vj:TP 62 Tryz.t62 Tryz.t62:=⟨ak,ak⟩
theorem Vi:TP 63 Tryz.t63 Tryz.t63:=⟨ak,ak⟩
theorem Vh:TP 64 Tryz.t64 Tryz.t64:=⟨ak,ak⟩
theorem Vg:TP 65 Tryz.t64 Tryz.t65:=⟨ak,ak⟩
theorem Vf:TP 67 Tryz.t67 Tryz.t67:=⟨ak,ak⟩
theorem Ve:TP 69 Tryz.t69 Tryz.t69:=⟨ak,ak⟩
theorem Vd:TP 71 Tryz.t71 Tryz.t71:=⟨ak,ak⟩
theorem Vc:TP 73 Tryz.t73 Tryz.t73:=⟨ak,ak⟩
theorem Vb:TP 74 Tryz.t74 Tryz.t74:=⟨ak,ak⟩
theorem Va:TP 75 Tryz.t75 Tryz.t75:=⟨ak,ak⟩
theorem U':TP 76 Tryz.t76 Tryz.t76:=⟨ak,ak⟩
theorem U9:TP 77 Tryz.t77 Tryz.t77:=⟨ak,ak⟩
theorem U8:TP 78 Tryz.t77 Tryz.t78:=⟨ak,ak⟩
theorem U7:TP 79 Tryz.t79 Tryz.t79:=⟨ak,ak⟩
theorem U6:TP 80 Tryz.t80 Tryz.t80:=⟨ak,ak⟩
theorem U5:TP 81 Tryz.t81 Tryz.t81:=⟨ak,ak⟩
theorem U4:TP 82 Tryz.t82 Tryz.t82:=⟨ak,ak⟩
theorem U3:TP 83 Tryz.t82 Tryz.t83:=⟨ak,ak⟩
theorem U2:TP 84 Tryz.t84 Tryz.t84:=⟨ak,ak⟩
theorem U1:TP 85 Tryz.t85 Tryz.t85:=⟨ak,ak⟩
theorem U0:TP 86 Tryz.t86 Tryz.t86:=⟨ak,ak⟩
theorem UZ:TP 87 Tryz.t87 Tryz.t87:=⟨ak,ak⟩
theorem UY:TP 88 Tryz.t88 Tryz.t88:=⟨ak,ak⟩
theorem UX:TP 89 Tryz.t89 Tryz.t89:=⟨ak,ak⟩
theorem UW:TP 90 Tryz.t90 Tryz.t90:=⟨ak,ak⟩
theorem UU:TP 91 Tryz.t91 Tryz.t91:=⟨ak,ak⟩
theorem UT:TP 92 Tryz.t92 Tryz.t92:=⟨ak,ak⟩
theorem US:TP 93 Tryz.t93 Tryz.t93:=⟨ak,ak⟩
theorem UR:TP 94 Tryz.t94 Tryz.t94:=⟨ak,ak⟩
theorem UQ:TP 95 Tryz.t95 Tryz.t95:=⟨ak,ak⟩
theorem UP:TP 97 Tryz.t97 Tryz.t97:=⟨ak,ak⟩
theorem UO:TP 98 Tryz.t98 Tryz.t98:=⟨ak,ak⟩
theorem UN:TP 99 Tryz.t99 Tryz.t99:=⟨ak,ak⟩
theorem Sn:TP 100 Tryz.t100 Tryz.t100:=⟨ak,ak⟩
theorem Sm:TP 101 Tryz.t100 Tryz.t101:=⟨ak,ak⟩
theorem Sl:TP 102 Tryz.t102 Tryz.t102:=⟨ak,ak⟩
theorem Sk:TP 103 Tryz.t103 Tryz.t103:=⟨ak,ak⟩
theorem Sj:TP 104 Tryz.t104 Tryz.t104:=⟨ak,ak⟩
theorem Si:TP 105 Tryz.t105 Tryz.t105:=⟨ak,ak⟩
theorem Sh:TP 106 Tryz.t106 Tryz.t106:=⟨ak,ak⟩
theorem Sg:TP 107 Tryz.t107 Tryz.t107:=⟨ak,ak⟩
theorem Sf:TP 108 Tryz.t107 Tryz.t108:=⟨ak,ak⟩
theorem Se:TP 109 Tryz.t109 Tryz.t109:=⟨ak,ak⟩
theorem Sd:TP 110 Tryz.t110 Tryz.t110:=⟨ak,ak⟩
theorem Sc:TP 111 Tryz.t111 Tryz.t111:=⟨ak,ak⟩
theorem Sb:TP 112 Tryz.t112 Tryz.t112:=⟨ak,ak⟩
theorem Sa:TP 113 Tryz.t113 Tryz.t113:=⟨ak,ak⟩
theorem R':TP 115 Tryz.t115 Tryz.t115:=⟨ak,ak⟩
theorem R9:TP 116 Tryz.t116 Tryz.t116:=⟨ak,ak⟩
theorem R8:TP 117 Tryz.t117 Tryz.t117:=⟨ak,ak⟩
theorem R7:TP 118 Tryz.t118 Tryz.t118:=⟨ak,ak⟩
theorem R6:TP 119 Tryz.t119 Tryz.t119:=⟨ak,ak⟩
theorem R5:TP 120 Tryz.t120 Tryz.t120:=⟨ak,ak⟩
theorem R4:TP 122 Tryz.t122 Tryz.t122:=⟨ak,ak⟩
theorem R3:TP 123 Tryz.t123 Tryz.t123:=⟨ak,ak⟩
theorem R1:TP 124 Tryz.t124 Tryz.t124:=⟨ak,ak⟩
theorem R0:TP 125 Tryz.t125 Tryz.t125:=⟨ak,ak⟩
theorem RZ:TP 126 Tryz.t126 Tryz.t126:=⟨ak,ak⟩
theorem RY:TP 127 Tryz.t127 Tryz.t127:=⟨ak,ak⟩
theorem RX:TP 128 Tryz.t128 Tryz.t128:=⟨ak,ak⟩
theorem RW:TP 129 Tryz.t129 Tryz.t129:=⟨ak,ak⟩
theorem RV:TP 130 Tryz.t130 Tryz.t130:=⟨ak,ak⟩
theorem RU:TP 131 Tryz.t131 Tryz.t131:=⟨ak,ak⟩
theorem RT:TP 132 Tryz.t132 Tryz.t132:=⟨ak,ak⟩
theorem RS:TP 133 Tryz.t133 Tryz.t133:=⟨ak,ak⟩
theorem RR:TP 135 Tryz.t135 Tryz.t135:=⟨ak,ak⟩
theorem RQ:TP 136 Tryz.t136 Tryz.t136:=⟨ak,ak⟩
theorem RP:TP 137 Tryz.t137 Tryz.t137:=⟨ak,ak⟩
theorem RO:TP 138 Tryz.t138 Tryz.t138:=⟨ak,ak⟩
theorem RN:TP 139 Tryz.t139 Tryz.t139:=⟨ak,ak⟩
theorem RM:TP 140 Tryz.t140 Tryz.t140:=⟨ak,ak⟩
theorem RL:TP 141 Tryz.t141 Tryz.t141:=⟨ak,ak⟩
theorem RK:TP 142 Tryz.t142 Tryz.t142:=⟨ak,ak⟩
theorem RJ:TP 143 Tryz.t143 Tryz.t143:=⟨ak,ak⟩
theorem RH:TP 144 Tryz.t144 Tryz.t144:=⟨ak,ak⟩
theorem RG:TP 145 Tryz.t145 Tryz.t145:=⟨ak,ak⟩
theorem RF:TP 146 Tryz.t146 Tryz.t146:=⟨ak,ak⟩
theorem RE:TP 147 Tryz.t147 Tryz.t147:=⟨ak,ak⟩
theorem RD:TP 148 Tryz.t148 Tryz.t148:=⟨ak,ak⟩
theorem RC:TP 149 Tryz.t148 Tryz.t149:=⟨ak,ak⟩
theorem RB:TP 150 Tryz.t150 Tryz.t150:=⟨ak,ak⟩
theorem RA:TP 151 Tryz.t151 Tryz.t151:=⟨ak,ak⟩
theorem Rz:TP 153 Tryz.t153 Tryz.t153:=⟨ak,ak⟩
theorem Ry:TP 154 Tryz.t154 Tryz.t154:=⟨ak,ak⟩
theorem Rx:TP 155 Tryz.t154 Tryz.t155:=⟨ak,ak⟩
theorem Rw:TP 157 Tryz.t157 Tryz.t157:=⟨ak,ak⟩
theorem Rv:TP 159 Tryz.t159 Tryz.t159:=⟨ak,ak⟩
theorem Ru:TP 160 Tryz.t160 Tryz.t160:=⟨ak,ak⟩
theorem Rt:TP 161 Tryz.t161 Tryz.t161:=⟨ak,ak⟩
theorem Rs:TP 162 Tryz.t162 Tryz.t162:=⟨ak,ak⟩
theorem Rr:TP 163 Tryz.t163 Tryz.t163:=⟨ak,ak⟩
theorem Rq:TP 164 Tryz.t163 Tryz.t164:=⟨ak,ak⟩
theorem Rp:TP 165 Tryz.t165 Tryz.t165:=⟨ak,ak⟩
theorem Ro:TP 166 Tryz.t166 Tryz.t166:=⟨ak,ak⟩
theorem Rn:TP 167 Tryz.t166 Tryz.t167:=⟨ak,ak⟩
theorem Rm:TP 169 Tryz.t169 Tryz.t169:=⟨ak,ak⟩
theorem Rl:TP 171 Tryz.t171 Tryz.t171:=⟨ak,ak⟩
theorem Rk:TP 172 Tryz.t172 Tryz.t172:=⟨ak,ak⟩
theorem Rj:TP 173 Tryz.t173 Tryz.t173:=⟨ak,ak⟩
theorem Ri:TP 174 Tryz.t174 Tryz.t174:=⟨ak,ak⟩
theorem Rh:TP 175 Tryz.t175 Tryz.t175:=⟨ak,ak⟩
theorem Rg:TP 176 Tryz.t176 Tryz.t176:=⟨ak,ak⟩
theorem Rf:TP 177 Tryz.t177 Tryz.t177:=⟨ak,ak⟩
theorem Re:TP 178 Tryz.t178 Tryz.t178:=⟨ak,ak⟩
theorem Rc:TP 179 Tryz.t179 Tryz.t179:=⟨ak,ak⟩
theorem Rb:TP 181 Tryz.t181 Tryz.t181:=⟨ak,ak⟩
theorem Ra:TP 182 Tryz.t182 Tryz.t182:=⟨ak,ak⟩
theorem Q':TP 183 Tryz.t182 Tryz.t183:=⟨ak,ak⟩
theorem Q9:TP 184 Tryz.t184 Tryz.t184:=⟨ak,ak⟩
theorem Q8:TP 185 Tryz.t185 Tryz.t185:=⟨ak,ak⟩
theorem Q7:TP 186 Tryz.t186 Tryz.t186:=⟨ak,ak⟩
theorem Q6:TP 187 Tryz.t186 Tryz.t187:=⟨ak,ak⟩
theorem Q5:TP 188 Tryz.t188 Tryz.t188:=⟨ak,ak⟩
theorem Q4:TP 189 Tryz.t189 Tryz.t189:=⟨ak,ak⟩
theorem Q3:TP 190 Tryz.t190 Tryz.t190:=⟨ak,ak⟩
theorem Q2:TP 191 Tryz.t191 Tryz.t191:=⟨ak,ak⟩
theorem Q1:TP 192 Tryz.t191 Tryz.t192:=⟨ak,ak⟩
theorem Q0:TP 193 Tryz.t193 Tryz.t193:=⟨ak,ak⟩
theorem QZ:TP 194 Tryz.t194 Tryz.t194:=⟨ak,ak⟩
theorem QY:TP 196 Tryz.t196 Tryz.t196:=⟨ak,ak⟩
theorem QX:TP 197 Tryz.t197 Tryz.t197:=⟨ak,ak⟩
theorem QW:TP 198 Tryz.t198 Tryz.t198:=⟨ak,ak⟩
theorem QV:TP 199 Tryz.t198 Tryz.t199:=⟨ak,ak⟩
theorem QU:TP 200 Tryz.t200 Tryz.t200:=⟨ak,ak⟩
theorem QT:TP 201 Tryz.t201 Tryz.t201:=⟨ak,ak⟩
theorem QS:TP 202 Tryz.t202 Tryz.t202:=⟨ak,ak⟩
theorem QR:TP 203 Tryz.t203 Tryz.t203:=⟨ak,ak⟩
theorem QQ:TP 204 Tryz.t204 Tryz.t204:=⟨ak,ak⟩
theorem QP:TP 205 Tryz.t205 Tryz.t205:=⟨ak,ak⟩
theorem QO:TP 206 Tryz.t206 Tryz.t206:=⟨ak,ak⟩
theorem QN:TP 207 Tryz.t207 Tryz.t207:=⟨ak,ak⟩
theorem QM:TP 208 Tryz.t208 Tryz.t208:=⟨ak,ak⟩
theorem QL:TP 209 Tryz.t209 Tryz.t209:=⟨ak,ak⟩
theorem QK:TP 210 Tryz.t210 Tryz.t210:=⟨ak,ak⟩
theorem QJ:TP 211 Tryz.t211 Tryz.t211:=⟨ak,ak⟩
theorem QI:TP 212 Tryz.t212 Tryz.t212:=⟨ak,ak⟩
theorem QH:TP 213 Tryz.t213 Tryz.t213:=⟨ak,ak⟩
theorem QG:TP 214 Tryz.t144 Tryz.t214:=⟨ak,ak⟩
theorem QF:TP 215 Tryz.t215 Tryz.t215:=⟨ak,ak⟩
theorem QE:TP 217 Tryz.t217 Tryz.t217:=⟨ak,ak⟩
theorem QD:TP 218 Tryz.t218 Tryz.t218:=⟨ak,ak⟩
theorem QC:TP 219 Tryz.t219 Tryz.t219:=⟨ak,ak⟩
theorem QB:TP 220 Tryz.t220 Tryz.t220:=⟨ak,ak⟩
theorem QA:TP 222 Tryz.t222 Tryz.t222:=⟨ak,ak⟩
theorem Qz:TP 223 Tryz.t223 Tryz.t223:=⟨ak,ak⟩
theorem Qy:TP 224 Tryz.t224 Tryz.t224:=⟨ak,ak⟩
theorem Qx:TP 225 Tryz.t225 Tryz.t225:=⟨ak,ak⟩
theorem Qw:TP 227 Tryz.t227 Tryz.t227:=⟨ak,ak⟩
theorem Qv:TP 229 Tryz.t229 Tryz.t229:=⟨ak,ak⟩
theorem Qu:TP 230 Tryz.t230 Tryz.t230:=⟨ak,ak⟩
theorem Qt:TP 231 Tryz.t231 Tryz.t231:=⟨ak,ak⟩
theorem Qs:TP 232 Tryz.t232 Tryz.t232:=⟨ak,ak⟩
theorem Qr:TP 233 Tryz.t233 Tryz.t233:=⟨ak,ak⟩
theorem Qq:TP 234 Tryz.t234 Tryz.t234:=⟨ak,ak⟩
theorem Qp:TP 235 Tryz.t235 Tryz.t235:=⟨ak,ak⟩
theorem Qo:TP 236 Tryz.t236 Tryz.t236:=⟨ak,ak⟩
theorem Qn:TP 237 Tryz.t237 Tryz.t237:=⟨ak,ak⟩
theorem Qm:TP 238 Tryz.t238 Tryz.t238:=⟨ak,ak⟩
theorem Ql:TP 240 Tryz.t240 Tryz.t240:=⟨ak,ak⟩
theorem Qj:TP 241 Tryz.t241 Tryz.t241:=⟨ak,ak⟩
theorem Qi:TP 242 Tryz.t242 Tryz.t242:=⟨ak,ak⟩
theorem Qh:TP 243 Tryz.t243 Tryz.t243:=⟨ak,ak⟩
theorem Qg:TP 244 Tryz.t244 Tryz.t244:=⟨ak,ak⟩
theorem Qf:TP 245 Tryz.t244 Tryz.t245:=⟨ak,ak⟩
theorem Qe:TP 246 Tryz.t246 Tryz.t246:=⟨ak,ak⟩
theorem Qd:TP 248 Tryz.t248 Tryz.t248:=⟨ak,ak⟩
theorem Qc:TP 249 Tryz.t249 Tryz.t249:=⟨ak,ak⟩
theorem Qb:TP 250 Tryz.t250 Tryz.t250:=⟨ak,ak⟩
theorem Qa:TP 252 Tryz.t252 Tryz.t252:=⟨ak,ak⟩
theorem P':TP 253 Tryz.t253 Tryz.t253:=⟨ak,ak⟩
theorem P9:TP 254 Tryz.t254 Tryz.t254:=⟨ak,ak⟩
theorem P8:TP 255 Tryz.t254 Tryz.t255:=⟨ak,ak⟩
theorem P7:TP 256 Tryz.t256 Tryz.t256:=⟨ak,ak⟩
theorem P6:TP 257 Tryz.t257 Tryz.t257:=⟨ak,ak⟩
theorem P5:TP 258 Tryz.t257 Tryz.t258:=⟨ak,ak⟩
theorem P4:TP 259 Tryz.t259 Tryz.t259:=⟨ak,ak⟩
theorem P3:TP 260 Tryz.t260 Tryz.t260:=⟨ak,ak⟩
theorem P2:TP 261 Tryz.t3 Tryz.t261:=⟨ak,ak⟩
theorem P1:TP 263 Tryz.t263 Tryz.t263:=⟨ak,ak⟩
theorem P0:TP 264 Tryz.t264 Tryz.t264:=⟨ak,ak⟩
theorem PZ:TP 265 Tryz.t265 Tryz.t265:=⟨ak,ak⟩
theorem PY:TP 266 Tryz.t266 Tryz.t266:=⟨ak,ak⟩
theorem PX:TP 267 Tryz.t267 Tryz.t267:=⟨ak,ak⟩
theorem PW:TP 268 Tryz.t268 Tryz.t268:=⟨ak,ak⟩
theorem PV:TP 269 Tryz.t269 Tryz.t269:=⟨ak,ak⟩
theorem PU:TP 270 Tryz.t270 Tryz.t270:=⟨ak,ak⟩
theorem PT:TP 272 Tryz.t272 Tryz.t272:=⟨ak,ak⟩
theorem PR:TP 274 Tryz.t274 Tryz.t274:=⟨ak,ak⟩
theorem PO:TP 275 Tryz.t275 Tryz.t275:=⟨ak,ak⟩
theorem PN:TP 276 Tryz.t276 Tryz.t276:=⟨ak,ak⟩
theorem PM:TP 277 Tryz.t277 Tryz.t277:=⟨ak,ak⟩
theorem PL:TP 278 Tryz.t102 Tryz.t278:=⟨ak,ak⟩
theorem PK:TP 279 Tryz.t279 Tryz.t279:=⟨ak,ak⟩
theorem PJ:TP 280 Tryz.t280 Tryz.t280:=⟨ak,ak⟩
theorem PH:TP 281 Tryz.t281 Tryz.t281:=⟨ak,ak⟩
theorem PG:TP 282 Tryz.t282 Tryz.t282:=⟨ak,ak⟩
theorem PF:TP 283 Tryz.t283 Tryz.t283:=⟨ak,ak⟩
theorem PE:TP 284 Tryz.t284 Tryz.t284:=⟨ak,ak⟩
theorem PD:TP 286 Tryz.t286 Tryz.t286:=⟨ak,ak⟩
theorem PC:TP 287 Tryz.t287 Tryz.t287:=⟨ak,ak⟩
theorem PB:TP 288 Tryz.t288 Tryz.t288:=⟨ak,ak⟩
theorem PA:TP 289 Tryz.t288 Tryz.t289:=⟨ak,ak⟩
theorem Pz:TP 290 Tryz.t290 Tryz.t290:=⟨ak,ak⟩
theorem Py:TP 291 Tryz.t291 Tryz.t291:=⟨ak,ak⟩
theorem Px:TP 292 Tryz.t291 Tryz.t292:=⟨ak,ak⟩
theorem Pw:TP 293 Tryz.t5 Tryz.t293:=⟨ak,ak⟩
theorem Pv:TP 294 Tryz.t5 Tryz.t294:=⟨ak,ak⟩
theorem Pu:TP 295 Tryz.t295 Tryz.t295:=⟨ak,ak⟩
theorem Ps:TP 296 Tryz.t296 Tryz.t296:=⟨ak,ak⟩
theorem Pr:TP 297 Tryz.t21 Tryz.t297:=⟨ak,ak⟩
theorem Pq:TP 298 Tryz.t21 Tryz.t298:=⟨ak,ak⟩
theorem Pp:TP 299 Tryz.t299 Tryz.t299:=⟨ak,ak⟩
theorem Pn:TP 300 Tryz.t299 Tryz.t300:=⟨ak,ak⟩
theorem Pm:TP 301 Tryz.t301 Tryz.t301:=⟨ak,ak⟩
noncomputable def ao:Tr:=(.node 149 ⟨Tryz.t148.desc,Tryz.t149⟩ (.node 78 ⟨Tryz.t77.desc,Tryz.t78⟩ (.node 35 ⟨Tryz.t35.desc,Tryz.t35⟩ (.node 17 ⟨Tryz.t17.desc,Tryz.t17⟩ (.node 9 ⟨Tryz.t9.desc,Tryz.t9⟩ (.node 5 ⟨Tryz.t5.desc,Tryz.t5⟩ (.node 3 ⟨Tryz.t3.desc,Tryz.t3⟩ (.node 2 ⟨Tryz.t2.desc,Tryz.t2⟩ (.node 1 ⟨Tryz.t1.desc,Tryz.t1⟩ .leaf .leaf) .leaf) (.node 4 ⟨Tryz.t4.desc,Tryz.t4⟩ .leaf .leaf)) (.node 7 ⟨Tryz.t7.desc,Tryz.t7⟩ (.node 6 ⟨Tryz.t5.desc,Tryz.t6⟩ .leaf .leaf) (.node 8 ⟨Tryz.t7.desc,Tryz.t8⟩ .leaf .leaf))) (.node 13 ⟨Tryz.t13.desc,Tryz.t13⟩ (.node 11 ⟨Tryz.t9.desc,Tryz.t11⟩ (.node 10 ⟨Tryz.t9.desc,Tryz.t10⟩ .leaf .leaf) (.node 12 ⟨Tryz.t12.desc,Tryz.t12⟩ .leaf .leaf)) (.node 15 ⟨Tryz.t15.desc,Tryz.t15⟩ (.node 14 ⟨Tryz.t13.desc,Tryz.t14⟩ .leaf .leaf) (.node 16 ⟨Tryz.t16.desc,Tryz.t16⟩ .leaf .leaf)))) (.node 26 ⟨Tryz.t3.desc,Tryz.t26⟩ (.node 22 ⟨Tryz.t22.desc,Tryz.t22⟩ (.node 20 ⟨Tryz.t20.desc,Tryz.t20⟩ (.node 19 ⟨Tryz.t18.desc,Tryz.t19⟩ (.node 18 ⟨Tryz.t18.desc,Tryz.t18⟩ .leaf .leaf) .leaf) (.node 21 ⟨Tryz.t21.desc,Tryz.t21⟩ .leaf .leaf)) (.node 24 ⟨Tryz.t24.desc,Tryz.t24⟩ (.node 23 ⟨Tryz.t23.desc,Tryz.t23⟩ .leaf .leaf) (.node 25 ⟨Tryz.t25.desc,Tryz.t25⟩ .leaf .leaf))) (.node 31 ⟨Tryz.t31.desc,Tryz.t31⟩ (.node 29 ⟨Tryz.t29.desc,Tryz.t29⟩ (.node 28 ⟨Tryz.t28.desc,Tryz.t28⟩ .leaf .leaf) (.node 30 ⟨Tryz.t30.desc,Tryz.t30⟩ .leaf .leaf)) (.node 33 ⟨Tryz.t32.desc,Tryz.t33⟩ (.node 32 ⟨Tryz.t32.desc,Tryz.t32⟩ .leaf .leaf) (.node 34 ⟨Tryz.t34.desc,Tryz.t34⟩ .leaf .leaf))))) (.node 56 ⟨Tryz.t56.desc,Tryz.t56⟩ (.node 45 ⟨Tryz.t45.desc,Tryz.t45⟩ (.node 40 ⟨Tryz.t40.desc,Tryz.t40⟩ (.node 38 ⟨Tryz.t37.desc,Tryz.t38⟩ (.node 37 ⟨Tryz.t37.desc,Tryz.t37⟩ (.node 36 ⟨Tryz.t35.desc,Tryz.t36⟩ .leaf .leaf) .leaf) (.node 39 ⟨Tryz.t39.desc,Tryz.t39⟩ .leaf .leaf)) (.node 43 ⟨Tryz.t43.desc,Tryz.t43⟩ (.node 42 ⟨Tryz.t42.desc,Tryz.t42⟩ .leaf .leaf) (.node 44 ⟨Tryz.t43.desc,Tryz.t44⟩ .leaf .leaf))) (.node 49 ⟨Tryz.t49.desc,Tryz.t49⟩ (.node 47 ⟨Tryz.t47.desc,Tryz.t47⟩ (.node 46 ⟨Tryz.t46.desc,Tryz.t46⟩ .leaf .leaf) (.node 48 ⟨Tryz.t48.desc,Tryz.t48⟩ .leaf .leaf)) (.node 53 ⟨Tryz.t53.desc,Tryz.t53⟩ (.node 51 ⟨Tryz.t51.desc,Tryz.t51⟩ .leaf .leaf) (.node 55 ⟨Tryz.t55.desc,Tryz.t55⟩ .leaf .leaf)))) (.node 67 ⟨Tryz.t67.desc,Tryz.t67⟩ (.node 62 ⟨Tryz.t62.desc,Tryz.t62⟩ (.node 60 ⟨Tryz.t60.desc,Tryz.t60⟩ (.node 59 ⟨Tryz.t59.desc,Tryz.t59⟩ (.node 57 ⟨Tryz.t57.desc,Tryz.t57⟩ .leaf .leaf) .leaf) (.node 61 ⟨Tryz.t60.desc,Tryz.t61⟩ .leaf .leaf)) (.node 64 ⟨Tryz.t64.desc,Tryz.t64⟩ (.node 63 ⟨Tryz.t63.desc,Tryz.t63⟩ .leaf .leaf) (.node 65 ⟨Tryz.t64.desc,Tryz.t65⟩ .leaf .leaf))) (.node 74 ⟨Tryz.t74.desc,Tryz.t74⟩ (.node 71 ⟨Tryz.t71.desc,Tryz.t71⟩ (.node 69 ⟨Tryz.t69.desc,Tryz.t69⟩ .leaf .leaf) (.node 73 ⟨Tryz.t73.desc,Tryz.t73⟩ .leaf .leaf)) (.node 76 ⟨Tryz.t76.desc,Tryz.t76⟩ (.node 75 ⟨Tryz.t75.desc,Tryz.t75⟩ .leaf .leaf) (.node 77 ⟨Tryz.t77.desc,Tryz.t77⟩ .leaf .leaf)))))) (.node 113 ⟨Tryz.t113.desc,Tryz.t113⟩ (.node 95 ⟨Tryz.t95.desc,Tryz.t95⟩ (.node 87 ⟨Tryz.t87.desc,Tryz.t87⟩ (.node 83 ⟨Tryz.t82.desc,Tryz.t83⟩ (.node 81 ⟨Tryz.t81.desc,Tryz.t81⟩ (.node 80 ⟨Tryz.t80.desc,Tryz.t80⟩ (.node 79 ⟨Tryz.t79.desc,Tryz.t79⟩ .leaf .leaf) .leaf) (.node 82 ⟨Tryz.t82.desc,Tryz.t82⟩ .leaf .leaf)) (.node 85 ⟨Tryz.t85.desc,Tryz.t85⟩ (.node 84 ⟨Tryz.t84.desc,Tryz.t84⟩ .leaf .leaf) (.node 86 ⟨Tryz.t86.desc,Tryz.t86⟩ .leaf .leaf))) (.node 91 ⟨Tryz.t91.desc,Tryz.t91⟩ (.node 89 ⟨Tryz.t89.desc,Tryz.t89⟩ (.node 88 ⟨Tryz.t88.desc,Tryz.t88⟩ .leaf .leaf) (.node 90 ⟨Tryz.t90.desc,Tryz.t90⟩ .leaf .leaf)) (.node 93 ⟨Tryz.t93.desc,Tryz.t93⟩ (.node 92 ⟨Tryz.t92.desc,Tryz.t92⟩ .leaf .leaf) (.node 94 ⟨Tryz.t94.desc,Tryz.t94⟩ .leaf .leaf)))) (.node 105 ⟨Tryz.t105.desc,Tryz.t105⟩ (.node 101 ⟨Tryz.t100.desc,Tryz.t101⟩ (.node 99 ⟨Tryz.t99.desc,Tryz.t99⟩ (.node 98 ⟨Tryz.t98.desc,Tryz.t98⟩ (.node 97 ⟨Tryz.t97.desc,Tryz.t97⟩ .leaf .leaf) .leaf) (.node 100 ⟨Tryz.t100.desc,Tryz.t100⟩ .leaf .leaf)) (.node 103 ⟨Tryz.t103.desc,Tryz.t103⟩ (.node 102 ⟨Tryz.t102.desc,Tryz.t102⟩ .leaf .leaf) (.node 104 ⟨Tryz.t104.desc,Tryz.t104⟩ .leaf .leaf))) (.node 109 ⟨Tryz.t109.desc,Tryz.t109⟩ (.node 107 ⟨Tryz.t107.desc,Tryz.t107⟩ (.node 106 ⟨Tryz.t106.desc,Tryz.t106⟩ .leaf .leaf) (.node 108 ⟨Tryz.t107.desc,Tryz.t108⟩ .leaf .leaf)) (.node 111 ⟨Tryz.t111.desc,Tryz.t111⟩ (.node 110 ⟨Tryz.t110.desc,Tryz.t110⟩ .leaf .leaf) (.node 112 ⟨Tryz.t112.desc,Tryz.t112⟩ .leaf .leaf))))) (.node 132 ⟨Tryz.t132.desc,Tryz.t132⟩ (.node 124 ⟨Tryz.t124.desc,Tryz.t124⟩ (.node 119 ⟨Tryz.t119.desc,Tryz.t119⟩ (.node 117 ⟨Tryz.t117.desc,Tryz.t117⟩ (.node 116 ⟨Tryz.t116.desc,Tryz.t116⟩ (.node 115 ⟨Tryz.t115.desc,Tryz.t115⟩ .leaf .leaf) .leaf) (.node 118 ⟨Tryz.t118.desc,Tryz.t118⟩ .leaf .leaf)) (.node 122 ⟨Tryz.t122.desc,Tryz.t122⟩ (.node 120 ⟨Tryz.t120.desc,Tryz.t120⟩ .leaf .leaf) (.node 123 ⟨Tryz.t123.desc,Tryz.t123⟩ .leaf .leaf))) (.node 128 ⟨Tryz.t128.desc,Tryz.t128⟩ (.node 126 ⟨Tryz.t126.desc,Tryz.t126⟩ (.node 125 ⟨Tryz.t125.desc,Tryz.t125⟩ .leaf .leaf) (.node 127 ⟨Tryz.t127.desc,Tryz.t127⟩ .leaf .leaf)) (.node 130 ⟨Tryz.t130.desc,Tryz.t130⟩ (.node 129 ⟨Tryz.t129.desc,Tryz.t129⟩ .leaf .leaf) (.node 131 ⟨Tryz.t131.desc,Tryz.t131⟩ .leaf .leaf)))) (.node 141 ⟨Tryz.t141.desc,Tryz.t141⟩ (.node 137 ⟨Tryz.t137.desc,Tryz.t137⟩ (.node 135 ⟨Tryz.t135.desc,Tryz.t135⟩ (.node 133 ⟨Tryz.t133.desc,Tryz.t133⟩ .leaf .leaf) (.node 136 ⟨Tryz.t136.desc,Tryz.t136⟩ .leaf .leaf)) (.node 139 ⟨Tryz.t139.desc,Tryz.t139⟩ (.node 138 ⟨Tryz.t138.desc,Tryz.t138⟩ .leaf .leaf) (.node 140 ⟨Tryz.t140.desc,Tryz.t140⟩ .leaf .leaf))) (.node 145 ⟨Tryz.t145.desc,Tryz.t145⟩ (.node 143 ⟨Tryz.t143.desc,Tryz.t143⟩ (.node 142 ⟨Tryz.t142.desc,Tryz.t142⟩ .leaf .leaf) (.node 144 ⟨Tryz.t144.desc,Tryz.t144⟩ .leaf .leaf)) (.node 147 ⟨Tryz.t147.desc,Tryz.t147⟩ (.node 146 ⟨Tryz.t146.desc,Tryz.t146⟩ .leaf .leaf) (.node 148 ⟨Tryz.t148.desc,Tryz.t148⟩ .leaf .leaf))))))) (.node 227 ⟨Tryz.t227.desc,Tryz.t227⟩ (.node 189 ⟨Tryz.t189.desc,Tryz.t189⟩ (.node 171 ⟨Tryz.t171.desc,Tryz.t171⟩ (.node 161 ⟨Tryz.t161.desc,Tryz.t161⟩ (.node 155 ⟨Tryz.t154.desc,Tryz.t155⟩ (.node 153 ⟨Tryz.t153.desc,Tryz.t153⟩ (.node 151 ⟨Tryz.t151.desc,Tryz.t151⟩ (.node 150 ⟨Tryz.t150.desc,Tryz.t150⟩ .leaf .leaf) .leaf) (.node 154 ⟨Tryz.t154.desc,Tryz.t154⟩ .leaf .leaf)) (.node 159 ⟨Tryz.t159.desc,Tryz.t159⟩ (.node 157 ⟨Tryz.t157.desc,Tryz.t157⟩ .leaf .leaf) (.node 160 ⟨Tryz.t160.desc,Tryz.t160⟩ .leaf .leaf))) (.node 165 ⟨Tryz.t165.desc,Tryz.t165⟩ (.node 163 ⟨Tryz.t163.desc,Tryz.t163⟩ (.node 162 ⟨Tryz.t162.desc,Tryz.t162⟩ .leaf .leaf) (.node 164 ⟨Tryz.t163.desc,Tryz.t164⟩ .leaf .leaf)) (.node 167 ⟨Tryz.t166.desc,Tryz.t167⟩ (.node 166 ⟨Tryz.t166.desc,Tryz.t166⟩ .leaf .leaf) (.node 169 ⟨Tryz.t169.desc,Tryz.t169⟩ .leaf .leaf)))) (.node 181 ⟨Tryz.t181.desc,Tryz.t181⟩ (.node 176 ⟨Tryz.t176.desc,Tryz.t176⟩ (.node 174 ⟨Tryz.t174.desc,Tryz.t174⟩ (.node 173 ⟨Tryz.t173.desc,Tryz.t173⟩ (.node 172 ⟨Tryz.t172.desc,Tryz.t172⟩ .leaf .leaf) .leaf) (.node 175 ⟨Tryz.t175.desc,Tryz.t175⟩ .leaf .leaf)) (.node 178 ⟨Tryz.t178.desc,Tryz.t178⟩ (.node 177 ⟨Tryz.t177.desc,Tryz.t177⟩ .leaf .leaf) (.node 179 ⟨Tryz.t179.desc,Tryz.t179⟩ .leaf .leaf))) (.node 185 ⟨Tryz.t185.desc,Tryz.t185⟩ (.node 183 ⟨Tryz.t182.desc,Tryz.t183⟩ (.node 182 ⟨Tryz.t182.desc,Tryz.t182⟩ .leaf .leaf) (.node 184 ⟨Tryz.t184.desc,Tryz.t184⟩ .leaf .leaf)) (.node 187 ⟨Tryz.t186.desc,Tryz.t187⟩ (.node 186 ⟨Tryz.t186.desc,Tryz.t186⟩ .leaf .leaf) (.node 188 ⟨Tryz.t188.desc,Tryz.t188⟩ .leaf .leaf))))) (.node 207 ⟨Tryz.t207.desc,Tryz.t207⟩ (.node 199 ⟨Tryz.t198.desc,Tryz.t199⟩ (.node 194 ⟨Tryz.t194.desc,Tryz.t194⟩ (.node 192 ⟨Tryz.t191.desc,Tryz.t192⟩ (.node 191 ⟨Tryz.t191.desc,Tryz.t191⟩ (.node 190 ⟨Tryz.t190.desc,Tryz.t190⟩ .leaf .leaf) .leaf) (.node 193 ⟨Tryz.t193.desc,Tryz.t193⟩ .leaf .leaf)) (.node 197 ⟨Tryz.t197.desc,Tryz.t197⟩ (.node 196 ⟨Tryz.t196.desc,Tryz.t196⟩ .leaf .leaf) (.node 198 ⟨Tryz.t198.desc,Tryz.t198⟩ .leaf .leaf))) (.node 203 ⟨Tryz.t203.desc,Tryz.t203⟩ (.node 201 ⟨Tryz.t201.desc,Tryz.t201⟩ (.node 200 ⟨Tryz.t200.desc,Tryz.t200⟩ .leaf .leaf) (.node 202 ⟨Tryz.t202.desc,Tryz.t202⟩ .leaf .leaf)) (.node 205 ⟨Tryz.t205.desc,Tryz.t205⟩ (.node 204 ⟨Tryz.t204.desc,Tryz.t204⟩ .leaf .leaf) (.node 206 ⟨Tryz.t206.desc,Tryz.t206⟩ .leaf .leaf)))) (.node 217 ⟨Tryz.t217.desc,Tryz.t217⟩ (.node 212 ⟨Tryz.t212.desc,Tryz.t212⟩ (.node 210 ⟨Tryz.t210.desc,Tryz.t210⟩ (.node 209 ⟨Tryz.t209.desc,Tryz.t209⟩ (.node 208 ⟨Tryz.t208.desc,Tryz.t208⟩ .leaf .leaf) .leaf) (.node 211 ⟨Tryz.t211.desc,Tryz.t211⟩ .leaf .leaf)) (.node 214 ⟨Tryz.t144.desc,Tryz.t214⟩ (.node 213 ⟨Tryz.t213.desc,Tryz.t213⟩ .leaf .leaf) (.node 215 ⟨Tryz.t215.desc,Tryz.t215⟩ .leaf .leaf))) (.node 222 ⟨Tryz.t222.desc,Tryz.t222⟩ (.node 219 ⟨Tryz.t219.desc,Tryz.t219⟩ (.node 218 ⟨Tryz.t218.desc,Tryz.t218⟩ .leaf .leaf) (.node 220 ⟨Tryz.t220.desc,Tryz.t220⟩ .leaf .leaf)) (.node 224 ⟨Tryz.t224.desc,Tryz.t224⟩ (.node 223 ⟨Tryz.t223.desc,Tryz.t223⟩ .leaf .leaf) (.node 225 ⟨Tryz.t225.desc,Tryz.t225⟩ .leaf .leaf)))))) (.node 266 ⟨Tryz.t266.desc,Tryz.t266⟩ (.node 246 ⟨Tryz.t246.desc,Tryz.t246⟩ (.node 237 ⟨Tryz.t237.desc,Tryz.t237⟩ (.node 233 ⟨Tryz.t233.desc,Tryz.t233⟩ (.node 231 ⟨Tryz.t231.desc,Tryz.t231⟩ (.node 230 ⟨Tryz.t230.desc,Tryz.t230⟩ (.node 229 ⟨Tryz.t229.desc,Tryz.t229⟩ .leaf .leaf) .leaf) (.node 232 ⟨Tryz.t232.desc,Tryz.t232⟩ .leaf .leaf)) (.node 235 ⟨Tryz.t235.desc,Tryz.t235⟩ (.node 234 ⟨Tryz.t234.desc,Tryz.t234⟩ .leaf .leaf) (.node 236 ⟨Tryz.t236.desc,Tryz.t236⟩ .leaf .leaf))) (.node 242 ⟨Tryz.t242.desc,Tryz.t242⟩ (.node 240 ⟨Tryz.t240.desc,Tryz.t240⟩ (.node 238 ⟨Tryz.t238.desc,Tryz.t238⟩ .leaf .leaf) (.node 241 ⟨Tryz.t241.desc,Tryz.t241⟩ .leaf .leaf)) (.node 244 ⟨Tryz.t244.desc,Tryz.t244⟩ (.node 243 ⟨Tryz.t243.desc,Tryz.t243⟩ .leaf .leaf) (.node 245 ⟨Tryz.t244.desc,Tryz.t245⟩ .leaf .leaf)))) (.node 257 ⟨Tryz.t257.desc,Tryz.t257⟩ (.node 253 ⟨Tryz.t253.desc,Tryz.t253⟩ (.node 250 ⟨Tryz.t250.desc,Tryz.t250⟩ (.node 249 ⟨Tryz.t249.desc,Tryz.t249⟩ (.node 248 ⟨Tryz.t248.desc,Tryz.t248⟩ .leaf .leaf) .leaf) (.node 252 ⟨Tryz.t252.desc,Tryz.t252⟩ .leaf .leaf)) (.node 255 ⟨Tryz.t254.desc,Tryz.t255⟩ (.node 254 ⟨Tryz.t254.desc,Tryz.t254⟩ .leaf .leaf) (.node 256 ⟨Tryz.t256.desc,Tryz.t256⟩ .leaf .leaf))) (.node 261 ⟨Tryz.t3.desc,Tryz.t261⟩ (.node 259 ⟨Tryz.t259.desc,Tryz.t259⟩ (.node 258 ⟨Tryz.t257.desc,Tryz.t258⟩ .leaf .leaf) (.node 260 ⟨Tryz.t260.desc,Tryz.t260⟩ .leaf .leaf)) (.node 264 ⟨Tryz.t264.desc,Tryz.t264⟩ (.node 263 ⟨Tryz.t263.desc,Tryz.t263⟩ .leaf .leaf) (.node 265 ⟨Tryz.t265.desc,Tryz.t265⟩ .leaf .leaf))))) (.node 286 ⟨Tryz.t286.desc,Tryz.t286⟩ (.node 277 ⟨Tryz.t277.desc,Tryz.t277⟩ (.node 272 ⟨Tryz.t272.desc,Tryz.t272⟩ (.node 269 ⟨Tryz.t269.desc,Tryz.t269⟩ (.node 268 ⟨Tryz.t268.desc,Tryz.t268⟩ (.node 267 ⟨Tryz.t267.desc,Tryz.t267⟩ .leaf .leaf) .leaf) (.node 270 ⟨Tryz.t270.desc,Tryz.t270⟩ .leaf .leaf)) (.node 275 ⟨Tryz.t275.desc,Tryz.t275⟩ (.node 274 ⟨Tryz.t274.desc,Tryz.t274⟩ .leaf .leaf) (.node 276 ⟨Tryz.t276.desc,Tryz.t276⟩ .leaf .leaf))) (.node 281 ⟨Tryz.t281.desc,Tryz.t281⟩ (.node 279 ⟨Tryz.t279.desc,Tryz.t279⟩ (.node 278 ⟨Tryz.t102.desc,Tryz.t278⟩ .leaf .leaf) (.node 280 ⟨Tryz.t280.desc,Tryz.t280⟩ .leaf .leaf)) (.node 283 ⟨Tryz.t283.desc,Tryz.t283⟩ (.node 282 ⟨Tryz.t282.desc,Tryz.t282⟩ .leaf .leaf) (.node 284 ⟨Tryz.t284.desc,Tryz.t284⟩ .leaf .leaf)))) (.node 294 ⟨Tryz.t5.desc,Tryz.t294⟩ (.node 290 ⟨Tryz.t290.desc,Tryz.t290⟩ (.node 288 ⟨Tryz.t288.desc,Tryz.t288⟩ (.node 287 ⟨Tryz.t287.desc,Tryz.t287⟩ .leaf .leaf) (.node 289 ⟨Tryz.t288.desc,Tryz.t289⟩ .leaf .leaf)) (.node 292 ⟨Tryz.t291.desc,Tryz.t292⟩ (.node 291 ⟨Tryz.t291.desc,Tryz.t291⟩ .leaf .leaf) (.node 293 ⟨Tryz.t5.desc,Tryz.t293⟩ .leaf .leaf))) (.node 298 ⟨Tryz.t21.desc,Tryz.t298⟩ (.node 296 ⟨Tryz.t296.desc,Tryz.t296⟩ (.node 295 ⟨Tryz.t295.desc,Tryz.t295⟩ .leaf .leaf) (.node 297 ⟨Tryz.t21.desc,Tryz.t297⟩ .leaf .leaf)) (.node 300 ⟨Tryz.t299.desc,Tryz.t300⟩ (.node 299 ⟨Tryz.t299.desc,Tryz.t299⟩ .leaf .leaf) (.node 301 ⟨Tryz.t301.desc,Tryz.t301⟩ .leaf .leaf))))))))
instance aa':e7 Tryz.prog ao:=⟨⟨RC,⟨U8,⟨VH,⟨VY,⟨Za,⟨Ze,⟨Zg,⟨Zh,⟨Zi,trivial,trivial⟩,trivial⟩,⟨Zf,trivial,trivial⟩⟩,⟨Zc,⟨Zd,trivial,trivial⟩,⟨Zb,trivial,trivial⟩⟩⟩,⟨V2,⟨V4,⟨V5,trivial,trivial⟩,⟨V3,trivial,trivial⟩⟩,⟨V0,⟨V1,trivial,trivial⟩,⟨VZ,trivial,trivial⟩⟩⟩⟩,⟨VP,⟨VT,⟨VV,⟨VW,⟨VX,trivial,trivial⟩,trivial⟩,⟨VU,trivial,trivial⟩⟩,⟨VR,⟨VS,trivial,trivial⟩,⟨VQ,trivial,trivial⟩⟩⟩,⟨VL,⟨VN,⟨VO,trivial,trivial⟩,⟨VM,trivial,trivial⟩⟩,⟨VJ,⟨VK,trivial,trivial⟩,⟨VI,trivial,trivial⟩⟩⟩⟩⟩,⟨Vp,⟨Vy,⟨VC,⟨VE,⟨VF,⟨VG,trivial,trivial⟩,trivial⟩,⟨VD,trivial,trivial⟩⟩,⟨VA,⟨VB,trivial,trivial⟩,⟨Vz,trivial,trivial⟩⟩⟩,⟨Vt,⟨Vv,⟨Vx,trivial,trivial⟩,⟨Vu,trivial,trivial⟩⟩,⟨Vr,⟨Vs,trivial,trivial⟩,⟨Vq,trivial,trivial⟩⟩⟩⟩,⟨Vf,⟨Vj,⟨Vl,⟨Vn,⟨Vo,trivial,trivial⟩,trivial⟩,⟨Vk,trivial,trivial⟩⟩,⟨Vh,⟨Vi,trivial,trivial⟩,⟨Vg,trivial,trivial⟩⟩⟩,⟨Vb,⟨Vd,⟨Ve,trivial,trivial⟩,⟨Vc,trivial,trivial⟩⟩,⟨U',⟨Va,trivial,trivial⟩,⟨U9,trivial,trivial⟩⟩⟩⟩⟩⟩,⟨Sa,⟨UQ,⟨UZ,⟨U3,⟨U5,⟨U6,⟨U7,trivial,trivial⟩,trivial⟩,⟨U4,trivial,trivial⟩⟩,⟨U1,⟨U2,trivial,trivial⟩,⟨U0,trivial,trivial⟩⟩⟩,⟨UU,⟨UX,⟨UY,trivial,trivial⟩,⟨UW,trivial,trivial⟩⟩,⟨US,⟨UT,trivial,trivial⟩,⟨UR,trivial,trivial⟩⟩⟩⟩,⟨Si,⟨Sm,⟨UN,⟨UO,⟨UP,trivial,trivial⟩,trivial⟩,⟨Sn,trivial,trivial⟩⟩,⟨Sk,⟨Sl,trivial,trivial⟩,⟨Sj,trivial,trivial⟩⟩⟩,⟨Se,⟨Sg,⟨Sh,trivial,trivial⟩,⟨Sf,trivial,trivial⟩⟩,⟨Sc,⟨Sd,trivial,trivial⟩,⟨Sb,trivial,trivial⟩⟩⟩⟩⟩,⟨RT,⟨R1,⟨R6,⟨R8,⟨R9,⟨R',trivial,trivial⟩,trivial⟩,⟨R7,trivial,trivial⟩⟩,⟨R4,⟨R5,trivial,trivial⟩,⟨R3,trivial,trivial⟩⟩⟩,⟨RX,⟨RZ,⟨R0,trivial,trivial⟩,⟨RY,trivial,trivial⟩⟩,⟨RV,⟨RW,trivial,trivial⟩,⟨RU,trivial,trivial⟩⟩⟩⟩,⟨RL,⟨RP,⟨RR,⟨RS,trivial,trivial⟩,⟨RQ,trivial,trivial⟩⟩,⟨RN,⟨RO,trivial,trivial⟩,⟨RM,trivial,trivial⟩⟩⟩,⟨RG,⟨RJ,⟨RK,trivial,trivial⟩,⟨RH,trivial,trivial⟩⟩,⟨RE,⟨RF,trivial,trivial⟩,⟨RD,trivial,trivial⟩⟩⟩⟩⟩⟩⟩,⟨Qw,⟨Q4,⟨Rl,⟨Rt,⟨Rx,⟨Rz,⟨RA,⟨RB,trivial,trivial⟩,trivial⟩,⟨Ry,trivial,trivial⟩⟩,⟨Rv,⟨Rw,trivial,trivial⟩,⟨Ru,trivial,trivial⟩⟩⟩,⟨Rp,⟨Rr,⟨Rs,trivial,trivial⟩,⟨Rq,trivial,trivial⟩⟩,⟨Rn,⟨Ro,trivial,trivial⟩,⟨Rm,trivial,trivial⟩⟩⟩⟩,⟨Rb,⟨Rg,⟨Ri,⟨Rj,⟨Rk,trivial,trivial⟩,trivial⟩,⟨Rh,trivial,trivial⟩⟩,⟨Re,⟨Rf,trivial,trivial⟩,⟨Rc,trivial,trivial⟩⟩⟩,⟨Q8,⟨Q',⟨Ra,trivial,trivial⟩,⟨Q9,trivial,trivial⟩⟩,⟨Q6,⟨Q7,trivial,trivial⟩,⟨Q5,trivial,trivial⟩⟩⟩⟩⟩,⟨QN,⟨QV,⟨QZ,⟨Q1,⟨Q2,⟨Q3,trivial,trivial⟩,trivial⟩,⟨Q0,trivial,trivial⟩⟩,⟨QX,⟨QY,trivial,trivial⟩,⟨QW,trivial,trivial⟩⟩⟩,⟨QR,⟨QT,⟨QU,trivial,trivial⟩,⟨QS,trivial,trivial⟩⟩,⟨QP,⟨QQ,trivial,trivial⟩,⟨QO,trivial,trivial⟩⟩⟩⟩,⟨QE,⟨QI,⟨QK,⟨QL,⟨QM,trivial,trivial⟩,trivial⟩,⟨QJ,trivial,trivial⟩⟩,⟨QG,⟨QH,trivial,trivial⟩,⟨QF,trivial,trivial⟩⟩⟩,⟨QA,⟨QC,⟨QD,trivial,trivial⟩,⟨QB,trivial,trivial⟩⟩,⟨Qy,⟨Qz,trivial,trivial⟩,⟨Qx,trivial,trivial⟩⟩⟩⟩⟩⟩,⟨PY,⟨Qe,⟨Qn,⟨Qr,⟨Qt,⟨Qu,⟨Qv,trivial,trivial⟩,trivial⟩,⟨Qs,trivial,trivial⟩⟩,⟨Qp,⟨Qq,trivial,trivial⟩,⟨Qo,trivial,trivial⟩⟩⟩,⟨Qi,⟨Ql,⟨Qm,trivial,trivial⟩,⟨Qj,trivial,trivial⟩⟩,⟨Qg,⟨Qh,trivial,trivial⟩,⟨Qf,trivial,trivial⟩⟩⟩⟩,⟨P6,⟨P',⟨Qb,⟨Qc,⟨Qd,trivial,trivial⟩,trivial⟩,⟨Qa,trivial,trivial⟩⟩,⟨P8,⟨P9,trivial,trivial⟩,⟨P7,trivial,trivial⟩⟩⟩,⟨P2,⟨P4,⟨P5,trivial,trivial⟩,⟨P3,trivial,trivial⟩⟩,⟨P0,⟨P1,trivial,trivial⟩,⟨PZ,trivial,trivial⟩⟩⟩⟩⟩,⟨PD,⟨PM,⟨PT,⟨PV,⟨PW,⟨PX,trivial,trivial⟩,trivial⟩,⟨PU,trivial,trivial⟩⟩,⟨PO,⟨PR,trivial,trivial⟩,⟨PN,trivial,trivial⟩⟩⟩,⟨PH,⟨PK,⟨PL,trivial,trivial⟩,⟨PJ,trivial,trivial⟩⟩,⟨PF,⟨PG,trivial,trivial⟩,⟨PE,trivial,trivial⟩⟩⟩⟩,⟨Pv,⟨Pz,⟨PB,⟨PC,trivial,trivial⟩,⟨PA,trivial,trivial⟩⟩,⟨Px,⟨Py,trivial,trivial⟩,⟨Pw,trivial,trivial⟩⟩⟩,⟨Pq,⟨Ps,⟨Pu,trivial,trivial⟩,⟨Pr,trivial,trivial⟩⟩,⟨Pn,⟨Pp,trivial,trivial⟩,⟨Pm,trivial,trivial⟩⟩⟩⟩⟩⟩⟩⟩⟩
theorem mixed:Tryz.prog.follows .mixedOrders=true:=by kernel_rfl
theorem go{A B:Prop}(a:A)(h:Uc A→B:=by(intro h;(repeat'(first|refine C1 (U:=ao) rfl ?_|(refine Gx ?_;first|refine sB zr zr zr zr ?_|refine sC zr zr zr zr zr zr zr ?_|refine sA zr zr zr zr zr zr ?_|refine pR zr zr zr zr zr zr ?_)|(refine aJ ?_;first|refine ej (U:=ao) 0 zr zr zr zr zr zr ?_|refine ej (U:=ao) 1 zr zr zr zr zr zr ?_|refine ej (U:=ao) 2 zr zr zr zr zr zr ?_|refine ej (U:=ao) 3 zr zr zr zr zr zr ?_|refine ej (U:=ao) 4 zr zr zr zr zr zr ?_|refine ej (U:=ao) 5 zr zr zr zr zr zr ?_|refine eu (U:=ao) 0 zr zr zr zr zr zr ?_|refine eu (U:=ao) 1 zr zr zr zr zr zr ?_|refine eu (U:=ao) 2 zr zr zr zr zr zr ?_)|(refine sy ?_;first|refine uW zr zr zr ?_|refine uX zr zr zr ?_)|(refine kD ?_;first|refine GB zr zr zr (by simp only[fz];omega) ?_|refine Ay zr zr zr (by simp only[fz];omega) ?_)|(refine dW ?_;refine xe (U:=ao) zr zr zr zr zr zr (by simp only[fz];omega) ?_)|(refine aS ?_;first|refine bI (U:=ao) 0 fR zr zr zr zr zr zr zr zr zr ?_|refine bI (U:=ao) 1 fR zr zr zr zr zr zr zr zr zr ?_|refine bI (U:=ao) 2 fR zr zr zr zr zr zr zr zr zr ?_|refine bI (U:=ao) 3 fR zr zr zr zr zr zr zr zr zr ?_)|refine C0 ?_|refine aE rfl ?_|refine Av zr zr ?_|refine uV zr zr ?_));exact h.out)):B:=h ⟨a⟩
theorem fk{A B:Prop}(a:A)(h:Uc A→B:=by(intro h;(first|refine C1 (U:=ao) rfl ?_|(refine Gx ?_;first|refine sB zr zr zr zr ?_|refine sC zr zr zr zr zr zr zr ?_|refine sA zr zr zr zr zr zr ?_|refine pR zr zr zr zr zr zr ?_)|(refine aJ ?_;first|refine ej (U:=ao) 0 zr zr zr zr zr zr ?_|refine ej (U:=ao) 1 zr zr zr zr zr zr ?_|refine ej (U:=ao) 2 zr zr zr zr zr zr ?_|refine ej (U:=ao) 3 zr zr zr zr zr zr ?_|refine ej (U:=ao) 4 zr zr zr zr zr zr ?_|refine ej (U:=ao) 5 zr zr zr zr zr zr ?_|refine eu (U:=ao) 0 zr zr zr zr zr zr ?_|refine eu (U:=ao) 1 zr zr zr zr zr zr ?_|refine eu (U:=ao) 2 zr zr zr zr zr zr ?_)|(refine sy ?_;first|refine uW zr zr zr ?_|refine uX zr zr zr ?_)|(refine kD ?_;first|refine GB zr zr zr (by simp only[fz];omega) ?_|refine Ay zr zr zr (by simp only[fz];omega) ?_)|(refine dW ?_;refine xe (U:=ao) zr zr zr zr zr zr (by simp only[fz];omega) ?_)|(refine aS ?_;first|refine bI (U:=ao) 0 fR zr zr zr zr zr zr zr zr zr ?_|refine bI (U:=ao) 1 fR zr zr zr zr zr zr zr zr zr ?_|refine bI (U:=ao) 2 fR zr zr zr zr zr zr zr zr zr ?_|refine bI (U:=ao) 3 fR zr zr zr zr zr zr zr zr zr ?_)|refine C0 ?_|refine aE rfl ?_|refine Av zr zr ?_|refine uV zr zr ?_);(repeat'(first|refine C1 (U:=ao) rfl ?_|(refine Gx ?_;first|refine sB zr zr zr zr ?_|refine sC zr zr zr zr zr zr zr ?_|refine sA zr zr zr zr zr zr ?_|refine pR zr zr zr zr zr zr ?_)|(refine aJ ?_;first|refine ej (U:=ao) 0 zr zr zr zr zr zr ?_|refine ej (U:=ao) 1 zr zr zr zr zr zr ?_|refine ej (U:=ao) 2 zr zr zr zr zr zr ?_|refine ej (U:=ao) 3 zr zr zr zr zr zr ?_|refine ej (U:=ao) 4 zr zr zr zr zr zr ?_|refine ej (U:=ao) 5 zr zr zr zr zr zr ?_|refine eu (U:=ao) 0 zr zr zr zr zr zr ?_|refine eu (U:=ao) 1 zr zr zr zr zr zr ?_|refine eu (U:=ao) 2 zr zr zr zr zr zr ?_)|(refine sy ?_;first|refine uW zr zr zr ?_|refine uX zr zr zr ?_)|(refine kD ?_;first|refine GB zr zr zr (by simp only[fz];omega) ?_|refine Ay zr zr zr (by simp only[fz];omega) ?_)|(refine dW ?_;refine xe (U:=ao) zr zr zr zr zr zr (by simp only[fz];omega) ?_)|(refine aS ?_;first|refine bI (U:=ao) 0 fR zr zr zr zr zr zr zr zr zr ?_|refine bI (U:=ao) 1 fR zr zr zr zr zr zr zr zr zr ?_|refine bI (U:=ao) 2 fR zr zr zr zr zr zr zr zr zr ?_|refine bI (U:=ao) 3 fR zr zr zr zr zr zr zr zr zr ?_)|refine C0 ?_|refine aE rfl ?_|refine Av zr zr ?_|refine uV zr zr ?_));exact h.out)):B:=h ⟨a⟩
theorem nN{A B:Prop}(a:A)(h:Uc A→B:=by(intro h;(repeat'(first|refine C1 (U:=ao) rfl ?_|(refine Gx ?_;first|refine sB zr zr zr zr ?_|refine sC zr zr zr zr zr zr zr ?_|refine sA zr zr zr zr zr zr ?_|refine pR zr zr zr zr zr zr ?_)|(refine aJ ?_;first|refine ej (U:=ao) 0 zr zr zr zr zr zr ?_|refine ej (U:=ao) 1 zr zr zr zr zr zr ?_|refine ej (U:=ao) 2 zr zr zr zr zr zr ?_|refine ej (U:=ao) 3 zr zr zr zr zr zr ?_|refine ej (U:=ao) 4 zr zr zr zr zr zr ?_|refine ej (U:=ao) 5 zr zr zr zr zr zr ?_|refine eu (U:=ao) 0 zr zr zr zr zr zr ?_|refine eu (U:=ao) 1 zr zr zr zr zr zr ?_|refine eu (U:=ao) 2 zr zr zr zr zr zr ?_)|(refine sy ?_;first|refine uW zr zr zr ?_|refine uX zr zr zr ?_)|(refine kD ?_;first|refine GB zr zr zr (by simp only[fz];omega) ?_|refine Ay zr zr zr (by simp only[fz];omega) ?_)|(refine dW ?_;refine xe (U:=ao) zr zr zr zr zr zr (by simp only[fz];omega) ?_)|(refine aS ?_;first|refine bI (U:=ao) 0 fR zr zr zr zr zr zr zr zr zr ?_|refine bI (U:=ao) 1 fR zr zr zr zr zr zr zr zr zr ?_|refine bI (U:=ao) 2 fR zr zr zr zr zr zr zr zr zr ?_|refine bI (U:=ao) 3 fR zr zr zr zr zr zr zr zr zr ?_)|refine C0 ?_));exact h.out)):B:=h ⟨a⟩
end Go.Proofs.YthjbidjmgbjkiaaGreatDoor
namespace Go.Proofs.YthjbidjmgbjkiaaGreatDoor
open Go Go.SL
attribute [local irreducible] J K aD Ends ag az aL bK aZ
theorem jY(A:HP)(v:Value)(bs:List UInt8)(hv:Vw A v bs.length (bV bs))(hlen:bs.length≤1000000000) :
  aD Tryz.prog 95 [v] [A] (fun r H=>H=[az 5 1 r bs.length (bV bs),A]):=by
 obtain⟨a,c0,rfl⟩:=hv.shape
 cases a with
 | none =>
  have hb:bs=[]:=by
   obtain⟨a,cap,h1,h2|⟨b,o,h2,_⟩⟩:=hv
   ·simpa[bV]using h2
   ·simp only[Value.slice.injEq]at h1;rw[← h1.1]at h2;cases h2
  subst hb
  refine aD.enter Tryz.func95 ak rfl Tryz.ntmps95 zr zr ?_
  intro G F R hR
  refine go ?_
  have he:c0=c0:=rfl
  refine aj (bw 5 1 none _) ?_
  refine ae hR Tryz.func95 rfl _ zr zr (aq.fin [0,1] 0 zr zr)
 | some a =>
  refine aD.enter Tryz.func95 ak rfl Tryz.ntmps95 zr zr ?_
  intro G F R hR
  refine go ?_
  refine au (U:=ao) zr zr zr zr zr zr zr zr zr bp ?_
  intro b0
  refine go ?_
  refine aG (dZ 5 1 b0 0 0 [] [] _ rfl (Nat.le_refl _) (by simp)) ?_
  refine bh (U:=ao) (mm:=bs.length) (news:=bV bs) 0 1 zr zr zr zr zr zr zr zr zr zr zr zr hv (by show _=_*1;rw[bt];omega) (cC bs) ai (by show _*1≤_;omega) (fun _=>rfl) bp ?_
  intro v'
  have e1:(0:Nat)+bs.length=bs.length:=by omega
  rw[e1,List.nil_append]
  refine go ?_
  refine ae hR Tryz.func95 rfl _ zr zr (aq.fin [0,1] 0 zr zr)
end Go.Proofs.YthjbidjmgbjkiaaGreatDoor
