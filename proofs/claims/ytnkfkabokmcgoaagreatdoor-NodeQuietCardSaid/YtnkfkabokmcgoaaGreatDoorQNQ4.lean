import Derived.Test.YtnkfkabokmcgoaaGreatDoorQNQ2
import Derived.Test.YtnkfkabokmcgoaaGreatDoorQNQ3
import Derived.DeepKeys
import Derived.ProofKit
import Derived.Below
import Derived.OpenShut
import Derived.Deep.Slices
import Derived.DataElems
import Derived.WideKeyRuns
set_option linter.unusedSectionVars false
set_option linter.unusedSimpArgs false
set_option linter.unusedVariables false
set_option maxRecDepth 20000
set_option linter.defProp false
namespace Go.Proofs.YtnkfkabokmcgoaaGreatDoor
open Go Go.SL
variable{A:HP}{bs:List UInt8}{n:Nat}{a:Option Addr}
attribute [local irreducible] J K aq Ends ag aI aC bF aW aP a6 aZ
def fb(A:HP)(v:Value)(bs:List UInt8):Prop:=Vw A v bs.length (bV bs)∧∃a c,v = .slice a bs.length c∧bs.length≤c
def fb.cut{c:Nat}(h:fb A (.slice a n c) bs)(p:Nat)(hp:p≤bs.length):fb A (.slice (sliceAt a c p 1) (bs.length-p) (c-p)) (bs.drop p):=by
 obtain⟨hv,a',c',he,hc⟩:=h
 simp only[Value.slice.injEq]at he
 obtain⟨rfl,rfl,rfl⟩:=he
 refine⟨?_,_,_,by rw[List.length_drop],by rw[List.length_drop];omega⟩
 have:=hv.Hr (s:=1) (by rw[bJ];omega) hc p hp
 rw[List.length_drop,show bV (bs.drop p)=(bV bs).drop (p*1)from by simp[bV,List.map_drop]]
 exact this
def fb.front{c:Nat}(h:fb A (.slice a n c) bs)(q:Nat)(hq:q≤bs.length):fb A (.slice (sliceAt a c 0 1) q c) (bs.take q):=by
 obtain⟨hv,a',c',he,hc⟩:=h
 simp only[Value.slice.injEq]at he
 obtain⟨rfl,rfl,rfl⟩:=he
 have hl:(bs.take q).length=q:=by rw[List.length_take];omega
 refine⟨?_,_,_,by rw[hl],by rw[hl];omega⟩
 have:=hv.aaa (s:=1) q
 rw[hl,show bV (bs.take q)=(bV bs).take (q*1)from by simp[bV,List.map_take]]
 exact this
def fb.mono{B:HP}{v:Value}(h:fb A v bs)(Z1:∀h,B h→∃h',sub h' h∧A h'):fb B v bs:=⟨h.1.mono Z1,h.2⟩
theorem fb.piece{c:Nat}(h:fb A (.slice a n c) bs)(p q:Nat)(hp:p≤q)(hq:q≤bs.length):fb A (.slice (sliceAt a c p 1) (q-p) (c-p)) ((bs.drop p).take (q-p)):=by
 have h1:=h.cut p ai
 obtain⟨hv,a',c',he,hc⟩:=h1
 have hlen:((bs.drop p).take (q-p)).length=q-p:=by rw[List.length_take,List.length_drop];omega
 refine⟨?_,_,_,by rw[hlen],by rw[hlen];obtain⟨_,_,_,Fl,W0⟩:=h;simp only[Value.slice.injEq]at Fl;omega⟩
 obtain⟨a2,zh,Fl,h0|⟨b,o,ha,W0⟩⟩:=hv
 ·simp only[Value.slice.injEq]at Fl
  have:(bs.drop p)=[]:=by simpa[bV]using h0
  refine⟨_,_,by rw[hlen],.inl ?_⟩
  grind
 ·simp only[Value.slice.injEq]at Fl
  refine⟨_,_,by rw[hlen],.inr ⟨b,o,by rw[Fl.1,ha],fun h' hA j x hj=>?_⟩⟩
  grind [bV]
def j6(A:HP)(v:Value)(bs:List UInt8)(hv:fb A v bs)(hl:bs.length≤9223372036854775807) :
  aq Tryz.prog 236 [v] [A] (fun r H=>r=(match cO bs with
   | some n => .tuple #[.int .u64 (n:Int),.int .i64 0]
   | none => .tuple #[.int .u64 0,.int .i64 2])∧H=[A]):=by
 refine aq.aj Tryz.func236 Tryz.ntmps236 fun G F R hE=>?_
 refine go ?_
 refine aF (Fw A v bs hv.1 hv.2 hl) ?_
 rintro _ _⟨rv,rfl,⟨yX,a,c,rfl,_⟩,rfl⟩
 cases hJ:(cB bs).2.2 with
 | false =>
  have hn:cO bs=none:=by unfold cO;rw[if_neg (by rw[hJ];simp)]
  rw[hn]at hE
  refine go ?_
  refine ad hE Tryz.func236 zr zr ⟨rfl,rfl⟩
 | true =>
  repeat'(first|(with_reducible intro iI)|refine fq ?_|refine au zr zr ?_ ?_)
  ·have hn:cO bs=none:=by unfold cO;rw[if_neg (fun h=>by rw[h.2]at iI;simp at iI)]
   rw[hn]at hE
   refine ad hE Tryz.func236 zr zr ⟨rfl,rfl⟩
  ·have hn:cO bs=some (cB bs).1:=by unfold cO;rw[if_pos ⟨hJ,List.eq_nil_of_length_eq_zero ai⟩]
   rw[hn]at hE
   refine ad hE Tryz.func236 zr zr ⟨rfl,rfl⟩
def dH(bs:List UInt8):List UInt8:=uv bs.length++bs
end Go.Proofs.YtnkfkabokmcgoaaGreatDoor
namespace Go.Proofs.YtnkfkabokmcgoaaGreatDoor
open Go Go.SL
theorem EP{e:TypeId}{v:Value}{bs:List UInt8}(h0:∃h,aI e 1 v bs.length (bV bs) h):fb (aI e 1 v bs.length (bV bs)) v bs:=by
 refine⟨Vw.lZ e 1 v bs.length (bV bs) h0,?_⟩
 obtain⟨h,hl,⟨a,rfl,hn,_⟩|⟨b,o,cap,pre,bL,rfl,hp,hn,hc,_⟩⟩:=h0
 ·simp_all
 grind
section
variable{P:Program}{f:FuncId}{n:Nat}{R:Ending→World→Prop}{G:bY}{k:List Item}{L:dS}{H:List HP}{S:World→Prop}{all:Array Oper}{rest:Pl}
def gU{e:TypeId}{v:Value}{bs:List UInt8}(i:Nat)(hi:bS H i=some (aI e 1 v bs.length (bV bs)))(h:fb (aI e 1 v bs.length (bV bs)) v bs→J P f n R G S all rest k L H):J P f n R G S all rest k L H :=
 yl fun w hw=>by
  obtain⟨h1,_,hA⟩:=hw.jG hi
  exact h (EP ⟨h1,hA⟩)
def vj{e:TypeId}{v:Value}{bs:List UInt8}(i:Nat)(hi:bS H i=some (aI e 1 v bs.length (bV bs)))(h:fb (aI e 1 v bs.length (bV bs)) v bs→K P f n R G k L H):K P f n R G k L H :=
 nY fun⟨w,hw⟩=>by
  obtain⟨h1,_,hA⟩:=hw.jG hi
  exact h (EP ⟨h1,hA⟩)
end
theorem bz{H:List HP}{i:Nat}{A:HP}(hi:bS H i=some A):∀h,Sep H h→∃h',sub h' h∧A h':=fun h hs=>by
 rw[cK]at hi
 obtain⟨h',N4,hA⟩:=ao.perm (ct hi) h hs
 obtain⟨h1,h2,ha,_,hd,hj⟩:=hA
 refine⟨h1,fun b o hb=>?_,ha⟩
 refine N4 b o ?_
 grind
end Go.Proofs.YtnkfkabokmcgoaaGreatDoor
namespace Go.SL
open Go
structure Dg where
 bs:List UInt8
 len:bs.length=32
deriving DecidableEq
def Dg.at(x:Dg)(i:Nat):UInt8:=x.bs.getD i 0
def Dg.zero:Dg:=⟨List.replicate 32 0,by simp⟩
instance:Inhabited Dg:=⟨Dg.zero⟩
def dC(x:Dg):List Value :=
  [u8 (x.at 0),u8 (x.at 1),u8 (x.at 2),u8 (x.at 3),u8 (x.at 4),u8 (x.at 5),u8 (x.at 6),u8 (x.at 7),u8 (x.at 8),u8 (x.at 9),u8 (x.at 10),u8 (x.at 11),u8 (x.at 12),u8 (x.at 13),u8 (x.at 14),u8 (x.at 15),
   u8 (x.at 16),u8 (x.at 17),u8 (x.at 18),u8 (x.at 19),u8 (x.at 20),u8 (x.at 21),u8 (x.at 22),u8 (x.at 23),u8 (x.at 24),u8 (x.at 25),u8 (x.at 26),u8 (x.at 27),u8 (x.at 28),u8 (x.at 29),u8 (x.at 30),u8 (x.at 31)]
def nP(x:Dg):(dC x).length=32:=rfl
theorem eG(x:Dg):dC x=bV x.bs:=by
 have h1:x.bs=(List.range 32).map (fun i=>x.at i):=by
  apply List.ext_getElem?
  intro i
  rcases Nat.lt_or_ge i 32 with h|h
  ·rw[List.getElem?_map,List.getElem?_range h]
   simp only[Dg.at,Option.map_some,List.getD_eq_getElem?_getD]
   rw[List.getElem?_eq_getElem (by rw[x.len];exact h)];rfl
  ·rw[List.getElem?_eq_none (by rw[x.len];exact h),List.getElem?_eq_none (by simpa using h)]
 conv=>rhs;rw[h1]
 rfl
def L5{a b:UInt8}(h:u8 a=u8 b):a=b:=by
 simp only[u8,Value.int.injEq,true_and,Int.natCast_inj]at h
 exact UInt8.toNat.inj h
def Wu{a b:List UInt8}(h:bV a=bV b):a=b:=by
 induction a generalizing b with
 | nil=>cases b with
  | nil=>rfl
  | cons y b=>simp[bV]at h
 | cons x a ih=>cases b with
  | nil=>simp[bV]at h
  | cons y b =>
   simp only[bV,List.map_cons,List.cons.injEq]at h
   rw[L5 h.1,ih h.2]
theorem Wk{a b:Dg}(h:dC a=dC b):a=b:=by
 rw[eG,eG]at h
 have:=Wu h
 cases a;cases b;simp_all
section
variable{P:Program}
theorem DZ{e:TypeId}(he:P.underlying e=some (.int .u8))(hc:P.cellsOf e=1)(d:Nat)(a b:List UInt8)(hl:a.length=b.length)(w:World):∀is:List Nat,(∀i∈is,i<a.length) →
  (Op.eqItems (d+1) e (P.cellsOf e) (bV a).toArray (bV b).toArray is).run P w = .ok (decide (∀i∈is,a[i]?=b[i]?)) w:=by
 intro is
 induction is with
 | nil=>intro _;simp[Op.eqItems]
 | cons i is ih =>
  intro hi
  have ML:P.plainKey e=true:=by unfold Program.plainKey;rw[he]
  have Fi:=hi i (List.mem_cons_self ..)
  have h1:(bV a).toArray[i*P.cellsOf e]?=some (u8 (a[i]'Fi)):=by rw[hc,Nat.mul_one];simp[bV,Fi]
  have h2:(bV b).toArray[i*P.cellsOf e]?=some (u8 (b[i]'(hl ▸ Fi))):=by rw[hc,Nat.mul_one];simp[bV,hl ▸ Fi]
  simp only[Op.eqItems,Sem.run_bind,run_part_plain w ML h1,run_part_plain w ML h2,Result.andThen_ok]
  have h3:(Op.equalIn (d+1) e (u8 (a[i]'Fi)) (u8 (b[i]'(hl ▸ Fi)))).run P w = .ok (decide (a[i]'Fi=b[i]'(hl ▸ Fi))) w:=by
   simp only[Op.equalIn,Sem.run_bind,Go.run_underlying he,Result.andThen_ok,u8,if_true,Sem.run_pure]
   congr 1
   rw[Bool.eq_iff_iff]
   simp only[beq_iff_eq,decide_eq_true_iff]
   constructor
   ·intro h;exact UInt8.toNat.inj ai
   grind
  rw[h3]
  simp only[Result.andThen_ok]
  have h4:(a[i]?=b[i]?)↔a[i]'Fi=b[i]'(hl ▸ Fi):=by
   grind
  by_cases h5:a[i]'Fi=b[i]'(hl ▸ Fi)
  ·simp_all
  simp_all
theorem CP{t e:TypeId}{n:Nat}{a b:List UInt8}(ht:P.underlying t=some (.array n e))(he:P.underlying e=some (.int .u8))(hc:P.cellsOf e=1)(ha:a.length=n)(hb:b.length=n)(d:Nat)(w:World) :
  (Op.equalIn (d+2) t (.agg (bV a).toArray) (.agg (bV b).toArray)).run P w = .ok (decide (a=b)) w:=by
 obtain⟨i,hi⟩:=info_of_underlying he
 rw[run_equalIn_array w (d+1) _ _ ht hi,DZ he hc d a b ai w _ (fun i hi=>by rw[ha];exact List.mem_range.1 hi)]
 congr 1
 rw[Bool.eq_iff_iff,decide_eq_true_iff,decide_eq_true_iff]
 constructor
 ·intro h
  apply List.ext_getElem?
  grind
 grind
theorem lU{t e:TypeId}(ht:P.underlying t=some (.array 32 e))(he:P.underlying e=some (.int .u8))(hc:P.cellsOf e=1)(a b:Dg)(d:Nat)(w:World) :
  (Op.equalIn (d+2) t (.agg (dC a).toArray) (.agg (dC b).toArray)).run P w = .ok (decide (a=b)) w:=by
 rw[eG,eG,CP ht he hc a.len b.len]
 congr 1
 rw[Bool.eq_iff_iff,decide_eq_true_iff,decide_eq_true_iff]
 constructor
 ·intro h;cases a;cases b;simp_all
 grind
end
section
variable{P:Program}{U:Tr}[hU:er P U]{f:FuncId}{n:Nat}{R:Ending→World→Prop}{G:bY}{k:List Item}{L:dS}{H H':List HP}{S:World→Prop}{all:Array Oper}{rest:Pl}{ty:TypeId}{pos:String}{af:Array Edge}{gd:Option (Nat × Bool)}{m:Bool}{d:Tmp}
def mw{x y:Operand}{t yt:TypeId}{c1 c2:Array Value}{b:Bool}(hd:Nat.blt d n=true)(hx:ev L x=some (.agg c1))(hy:ev L y=some (.agg c2))(hg:P.eqGuardType P.depth t=false)(he:∀w,(Op.equal t (.agg c1) (.agg c2)).run P w = .ok b w)(h:J P f n R G S all rest k ((d,.bool b)::L) H):J P f n R G S all (.cons m true ⟨some d,.binOp .eql t x y yt,ty,pos,af,gd⟩ rest) k L H:=by
 have oJ:∀a w,Has n L a→(execOp a.eval ⟨some d,.binOp .eql t x y yt,ty,pos,af,gd⟩).run P w = .ok (.value (.bool b)) w:=fun a w ha=>by
  have hgu:(eqGuard .eql t x y (.agg c1) (.agg c2)).run P w = .ok () w:=by simp[eqGuard,hg]
  have hb:(binOp .eql t (.agg c1) (.agg c2)).run P w = .ok (.bool b) w:=by
   simp only[binOp,Sem.run_bind,he,Result.andThen_ok,Sem.run_pure]
  simp only[execOp,ha.ev hx,ha.ev hy,Sem.run_bind,hgu,hb,Result.andThen_ok,Sem.run_pure]
 cases m with
 | false=>exact gV hd (fun a w ha _=>oJ a w ha) h
 | true=>exact iX hd (fun a w ha _=>oJ a w ha) h
def gG{t e:TypeId}{bH te:Ty}{nn:Nat}{z:Array Value}(hd:Nat.blt d n=true)(ht:U.get t=some bH)(hu:bH.eH = .array nn e)(he:U.get e=some te)(hz:bH.info.zero=some (.agg z))(h:J P f n R G S all rest k ((d,.agg z)::L) H):J P f n R G S all (.cons m true ⟨some d,.build t #[],ty,pos,af,gd⟩ rest) k L H:=by
 have oJ:∀a w,Has n L a→(execOp a.eval ⟨some d,.build t #[],ty,pos,af,gd⟩).run P w = .ok (.value (.agg z)) w:=fun a w ha=>by
  simp only[execOp,Instr.build,Sem.run_bind,cS ht hz,run_underlying ht,Result.andThen_ok,hu,run_sizeOf he,Array.map_empty,Instr.fill,Value.cells,Sem.run_pure]
 cases m with
 | false=>exact gV hd (fun a w ha _=>oJ a w ha) h
 | true=>exact iX hd (fun a w ha _=>oJ a w ha) h
def iQ{t elem:TypeId}{bH te:Ty}{x:Operand}{nn b off:Nat}(hd:Nat.blt d n=true)(ht:U.get t=some bH)(hu:bH.eH = .array nn elem)(he:U.get elem=some te)(hx:ev L x=some (.pointer (some ⟨b,off,none⟩)))(h:J P f n R G S all rest k ((d,.slice (some ⟨b,off,none⟩) nn nn)::L) H) :
  J P f n R G S all (.cons m true ⟨some d,.slice t x none none none,ty,pos,af,gd⟩ rest) k L H:=by
 refine cJ hd (fun a ha w=>?_) h
 simp only[execOp,ha.ev hx,Instr.sliceAt,Sem.run_bind,run_underlying ht,Result.andThen_ok,hu,Instr.sureAddr,Instr.sliceBounds,Option.map_none,run_sizeOf he,Sem.run_pure]
 simp[Addr.add,run_sizeOf he]
def yn{t elem:TypeId}{bH:Ty}{x:Operand}{nn len cap:Nat}{a0:Option Addr}(hd:Nat.blt d n=true)(ht:U.get t=some bH)(hu:bH.eH = .array nn elem)(hx:ev L x=some (.slice a0 len cap))(hl:nn≤len)(h:J P f n R G S all rest k ((d,.pointer a0)::L) H) :
  J P f n R G S all (.cons m true ⟨some d,.sliceToArrayPointer t x,ty,pos,af,gd⟩ rest) k L H:=by
 refine cJ hd (fun a ha w=>?_) h
 simp only[execOp,ha.ev hx,Instr.arrayAt,Sem.run_bind,run_underlying ht,Result.andThen_ok,hu]
 rw[if_neg ai]
 simp
def LH(X:HP)(v:Value)(l:List Dg):Prop:=Vw X v l.length (l.flatMap dC)∧∃a c,v = .slice a l.length c∧l.length≤c
end
end Go.SL
namespace Go.Proofs.YtnkfkabokmcgoaaGreatDoor
open Go Go.SL
def kD(x:Int × List UInt8):List UInt8:=UInt8.ofNat x.1.toNat::(uv x.2.length++x.2)
def dM(l:List (Int × List UInt8)):List UInt8:=l.flatMap kD
def pG:Nat→List UInt8→List (Int × List UInt8)
 | 0,_=>[]
 | f+1,b=>match b with
  | []=>[]
  | c::r=>if(cB r).2.2=true∧(cB r).1≤(cB r).2.1.length then((c.toNat:Int),(cB r).2.1.take (cB r).1)::pG f ((cB r).2.1.drop (cB r).1)else [(0,[])]
def ec:Int→List (Int × List UInt8)→Bool
 | _,[]=>true
 | last,x::l=>decide (last<x.1) && decide (x.1≤63) && ec x.1 l
def oI(b:List UInt8):Option (List (Int × List UInt8)):=if 65536<b.length then none else if ec 0 (pG b.length b)then some (pG b.length b)else none
structure It where
 n:Int
 v:Value
 b:List UInt8
instance:Inhabited It:=⟨⟨0,.slice none 0 0,[]⟩⟩
def jJ(x:It):List Value:=[.int .i64 x.n,x.v]
theorem gJ(x:It):(jJ x).length=2:=rfl
def It.p(x:It):Int × List UInt8:=(x.n,x.b)
def qw(X:HP)(v:Value)(l:List It):Prop:=Vw X v l.length (l.flatMap jJ)∧∀x∈l,fb X x.v x.b
theorem Ay(a b:List (Int × List UInt8)):dM (a++b)=dM a++dM b:=by simp[dM]
theorem xd(l:List (Int × List UInt8))(i:Nat):(dM (l.take i)).length≤(dM l).length:=by
 conv=>rhs;rw[← List.take_append_drop i l]
 grind [Ay]
def mD(l:List (Int × List UInt8))(i:Nat):Int:=match (l.take i).getLast? with
 | some x=>x.1
 | none=>0
theorem Jg:∀(l:List (Int × List UInt8)) (last:Int) (i:Nat) (x:Int × List UInt8),ec last l=true→l[i]?=some x→(match (l.take i).getLast? with|some y=>y.1|none=>last)<x.1∧x.1≤63:=by
 intro l
 induction l with
 | nil=>intro last i x h hx;simp at hx
 | cons y l ih =>
  grind [ec]
theorem um{l:List (Int × List UInt8)}{i:Nat}{x:Int × List UInt8}(h:l[i]?=some x):mD l (i+1)=x.1:=by
 grind [mD]
theorem Jf:∀(l:List (Int × List UInt8)) (last:Int),ec last l=true→0≤last→∀x∈l,0<x.1:=by
 intro l
 induction l with
 | nil=>intro last h h0 x hx;cases hx
 | cons y l ih =>
  grind [ec]
theorem KO:∀(bs:List UInt8) (i acc n:Nat) (r:List UInt8) (ok:Bool),rh i acc bs=some (n,r,ok)→r.length<bs.length:=by
 intro bs
 induction bs with
 | nil=>intro i acc n r ok h;simp[rh]at h
 | cons c bs ih =>
  grind [rh]
theorem nQ(bs:List UInt8):(cB bs).2.1.length≤bs.length:=by
 unfold cB
 cases h:rh 0 0 bs with
 | none=>simp
 | some x =>
  have:=KO bs 0 0 _ _ _ h
  grind
theorem wK:∀(f g:Nat) (b:List UInt8),b.length≤f→b.length≤g→pG f b=pG g b
 | 0,0,_,_,_=>rfl
 | 0,g+1,b,hf,_=>by
  have:b=[]:=List.eq_nil_of_length_eq_zero ai
  subst this;rfl
 | f+1,0,b,_,hg=>by
  have:b=[]:=List.eq_nil_of_length_eq_zero ai
  subst this;rfl
 | f+1,g+1,[],_,_=>rfl
 | f+1,g+1,c::r,hf,hg=>by
  rw[pG,pG]
  have:=nQ r
  rw[List.length_cons]at hf hg
  split
  ·rw[wK f g _ (by grind) (by grind)]
  ·rfl
def dy(b:List UInt8):List (Int × List UInt8):=pG b.length b
theorem tx:dy []=[]:=rfl
theorem wL{c:UInt8}{r:List UInt8}(h:(cB r).2.2=true∧(cB r).1≤(cB r).2.1.length):dy (c::r)=((c.toNat:Int),(cB r).2.1.take (cB r).1)::dy ((cB r).2.1.drop (cB r).1):=by
 grind [nQ,dy,pG,wK]
theorem z8{c:UInt8}{r:List UInt8}(h:¬((cB r).2.2=true∧(cB r).1≤(cB r).2.1.length)):dy (c::r)=[(0,[])]:=by
 grind [dy,pG]
theorem pH:∀(f:Nat) (b:List UInt8),b.length≤f→(dy b).length≤b.length
 | 0,b,h=>by
  grind [tx]
 | f+1,[],_=>by simp[tx]
 | f+1,c::r,h=>by
  have h1:=nQ r
  rw[List.length_cons]at h
  by_cases hk:(cB r).2.2=true∧(cB r).1≤(cB r).2.1.length
  ·have h2:=pH f ((cB r).2.1.drop (cB r).1) (by grind)
   grind [wL]
  grind [z8]
def p'(xs:List (Int × List UInt8))(i:Nat):Bool:=match xs[i]? with
 | some x=>decide (mD xs i<x.1) && decide (x.1≤63)
 | none=>true
def uI{xs:List (Int × List UInt8)}{i:Nat}{x:Int × List UInt8}(h:xs[i]?=some x):p' xs i=(decide (mD xs i<x.1) && decide (x.1≤63)):=by unfold p';rw[h]
theorem Jh:∀(l:List (Int × List UInt8)) (last:Int),(ec last l=true↔∀i x,l[i]?=some x→(match (l.take i).getLast? with|some y=>y.1|none=>last)<x.1∧x.1≤63):=by
 intro l
 induction l with
 | nil=>intro last;simp[ec]
 | cons y l ih =>
  intro last
  simp only[ec,Bool.and_eq_true,ih]
  constructor
  ·grind
  ·intro h
   refine⟨by simpa using h 0 y rfl,fun i x hx=>?_⟩
   have:=h (i+1) x (by grind)
   grind
def w7(xs:List (Int × List UInt8)):ec 0 xs=true↔∀i,i<xs.length→p' xs i=true:=by
 rw[Jh]
 constructor
 ·intro h i hi
  have hx:xs[i]?=some xs[i]:=by simp
  rw[uI hx,Bool.and_eq_true,decide_eq_true_eq,decide_eq_true_eq]
  exact h i _ hx
 ·intro h i x hx
  have:=h i (List.getElem?_eq_some_iff.1 hx).1
  rw[uI hx,Bool.and_eq_true,decide_eq_true_eq,decide_eq_true_eq]at this
  exact this
structure Mem where
 id:Int
 inc:Int
 st:Int
 since:Int
deriving DecidableEq
instance:Inhabited Mem:=⟨⟨0,0,0,0⟩⟩
def ef(x:Mem):List Value:=[.int .i64 x.id,.int .i64 x.inc,.int .i64 x.st,.int .i64 x.since]
def fh(x:Mem):(ef x).length=4:=rfl
structure mQ where
 kind:Int
 hash:Dg
 piece:Int
 ids:List Int
 bytes:List UInt8
 proof:List Dg
 eT:List Mem
 seed:Bool
def mQ.zero:mQ:=⟨0,Dg.zero,0,[],[],[],[],false⟩
def q6(k:Int):List Int :=
 if k=1∨k=10 then [1,2,5]else if k=2∨k=3∨k=5 then [1,2,3]else if k=4 then [1,2,3,5,6]else if k=6 then [1,2,8]else if k=7 then [1,2,4]else if k=8 then [1,7]
 else if k=9∨k=11 then [1,2]else []
def AJ(k:Int):Int:=if k=1 then 128 else if k=4 then 16384 else if k=10 then 4096 else 0
def gK(n lo hi:Int):Bool:=decide (lo≤n) && decide (n≤hi)
def p4{n lo hi:Int}:gK n lo hi=true↔lo≤n∧n≤hi:=by simp[gK]
def FE(m:mQ)(i:Int):Bool :=
 if i=1 then false else if i=2 then decide (m.hash=Dg.zero)else if i=3 then decide (m.piece=0)else if i=4 then decide ((m.ids.length:Int)=0)else if i=5 then decide ((m.bytes.length:Int)=0)
 else if i=6 then decide ((m.proof.length:Int)=0)else if i=7 then decide ((m.eT.length:Int)=0)else !m.seed
def pX(i:Int):Bool := !gK i 1 65536
def o7(x:Mem):Bool:=pX x.id || !gK x.inc 0 1073741824 || !gK x.st 1 3 || decide (x.since≠0)
def sj(m:mQ)(i:Int):Bool :=
 if i=3 then gK m.piece 0 1023 else if i=4 then decide ((m.ids.length:Int)≤64) && !m.ids.any pX else if i=5 then gK m.bytes.length 1 (AJ m.kind)else if i=6 then decide ((m.proof.length:Int)≤10)
 else if i=7 then gK m.eT.length 1 65 && !m.eT.any o7 else true
def jl(m:mQ)(i:Int):Bool:=if i∈q6 m.kind then sj m i else FE m i
def tS(m:mQ):Bool:=jl m 1 && jl m 2 && jl m 3 && jl m 4 && jl m 5 && jl m 6 && jl m 7 && jl m 8
def ptr(f:Nat):Value := .pointer (some ⟨f,0,none⟩)
end Go.Proofs.YtnkfkabokmcgoaaGreatDoor
namespace Go.SL
section
variable{P:Program}{U:Tr}[hU:er P U]{f:FuncId}{n:Nat}{R:Ending→World→Prop}{G:bY}{k:List Item}{L:dS}{H H':List HP}{S:World→Prop}{all:Array Oper}{rest:Pl}{ty:TypeId}{pos:String}{af:Array Edge}{gd:Option (Nat × Bool)}{m:Bool}{d:Tmp}
theorem ew{Hs:List HP}{t:TypeId}{x:Operand}{b o off nn cap:Nat}{bH:Ty}{es cs:List Value}{A:HP}(i idx:Nat)(hd:Nat.blt d n=true)(hx:ev L x=some (.pointer (some ⟨b,off,none⟩)))(hi:bS Hs i=some A)(hv:Vw A (.slice (some ⟨b,o,none⟩) nn cap) nn cs)(iq:off=o+idx)(mT:∀j v,es[j]?=some v→cs[idx+j]?=some v)(ht:U.get t=some bH)(hg:bH.isAgg=true)(hl:Nat.beq es.length bH.info.size=true)(h:J P f n R G (fun w=>Sat G w Hs) all rest k ((d,.agg es.toArray)::L) H):J P f n R G (fun w=>Sat G w Hs) all (.cons true true ⟨some d,.load t x,ty,pos,af,gd⟩ rest) k L H :=
 iX hd (fun a w ha hw=>by
  have hc:∀j v,es[j]?=some v→w.cell? ⟨b,off+j,none⟩=some v:=fun j v hj=>by
   obtain⟨h,hh,hA⟩:=Sat.jG hw hi
   have:=hv.cell (mT j v hj) h hA
   grind [fA]
  simp[execOp,ha.ev hx,fK (P:=P) ht hg (Nat.eq_of_beq_eq_true hl) hc]) h
end
end Go.SL
namespace Go.SL
def zY(M:eV)(s:Nat)(v:Value)(n:Nat)(cs:List Value):Prop :=
 cs.length=n*s∧∃a cap,v = .slice a n cap∧n≤cap∧(n=0∨∃b o row,a=Option.some ⟨b,o,none⟩∧(b,row)∈M∧(row.drop o).take cs.length=cs)
def zY.mono{M M':eV}{s n:Nat}{v:Value}{cs:List Value}(h:zY M s v n cs)(hs:∀x∈M,x∈M'):zY M' s v n cs:=by
 obtain⟨hl,a,cap,hv,hc,h0|⟨b,o,row,ha,hm,ht⟩⟩:=h
 ·exact⟨hl,a,cap,hv,hc,.inl h0⟩
 ·exact⟨hl,a,cap,hv,hc,.inr ⟨b,o,row,ha,hs _ hm,ht⟩⟩
theorem zY.nil(M:eV)(s:Nat)(a:Option Addr)(cap:Nat):zY M s (.slice a 0 cap) 0 []:=⟨by simp,a,cap,rfl,Nat.zero_le _,.inl rfl⟩
def zY.shape{M:eV}{s n:Nat}{v:Value}{cs:List Value}(h:zY M s v n cs):∃a cap,v = .slice a n cap∧n≤cap:=by
 obtain⟨_,a,cap,hv,hc,_⟩:=h;exact⟨a,cap,hv,hc⟩
def zY.view{M:eV}{s n:Nat}{v:Value}{cs:List Value}(h:zY M s v n cs)(e:TypeId):Vw (a6 e M) v n cs:=by
 obtain⟨hl,a,cap,rfl,hc,h0|⟨b,o,row,ha,hm,ht⟩⟩:=h
 ·have:cs=[]:=List.eq_nil_of_length_eq_zero (by rw[hl,h0,Nat.zero_mul])
  subst h0 this;exact⟨a,cap,rfl,.inl rfl⟩
 ·have h1:Vw (ag b (cl row e)) (.slice a n cap) n cs:=by rw[ha];exact Vw.ag ht
  exact h1.mono fun h hs=>zv (List.mem_map.2 ⟨(b,row),hm,rfl⟩) hs
theorem Ar(e:TypeId)(s n:Nat)(v:Value)(cs:List Value)(M:eV):∀h,star (aI e s v n cs) (a6 e M) h→∃M',(zY M' s v n cs∧∀x∈M,x∈M')∧Sep [a6 e M'] h:=by
 rintro h⟨h1,h2,⟨hl,⟨a,rfl,hn,he⟩|⟨b,o,cap,pre,bL,rfl,hp,hn,hc,uA⟩⟩,hM,hd,hj⟩
 ·have:cs=[]:=List.eq_nil_of_length_eq_zero (by rw[hl,hn,Nat.zero_mul])
  subst hn this
  exact⟨M,⟨zY.nil M s a 0,fun _ h=>h⟩,cV (uP ⟨h1,h2,he,hM,hd,hj⟩)⟩
 ·refine⟨(b,pre++cs++bL)::M,⟨⟨hl,_,cap,rfl,hn,.inr ⟨b,o,pre++cs++bL,rfl,by simp,?_⟩⟩,fun x hx=>by simp[hx]⟩,cV ⟨h1,h2,uA,hM,hd,hj⟩⟩
  grind
def aq.conv{P:Program}{f:FuncId}{args:List Value}{Pre Lb:List HP}{Post sr:Value→List HP→Prop}(c:aq P f args Pre Post)(h:ao Lb Pre)(hp:∀v H,Post v H→∃H',sr v H'∧ao H H'):aq P f args Lb sr :=
 ⟨c.1,fun G w F hw=>(c.2 G w F (hw.cn (ao.append F h))).mono fun e w' h'=>let ⟨v,H,he,MK,hs⟩:=h';let ⟨H',hq,hE⟩:=hp v H MK;⟨v,H',he,hq,hs.cn (ao.append F hE)⟩⟩
def aq.frame{P:Program}{f:FuncId}{args:List Value}{Pre:List HP}{Post:Value→List HP→Prop}(X:List HP)(c:aq P f args Pre Post):aq P f args (Pre++X) (fun v H=>∃H',Post v H'∧H=H'++X) :=
 ⟨c.1,fun G w F hw=>(c.2 G w (X++F) (by rw[List.append_assoc]at hw;exact hw)).mono fun e w' h'=>let ⟨v,H,he,MK,hs⟩:=h';⟨v,H++X,he,⟨H,MK,rfl⟩,by rw[List.append_assoc];exact hs⟩⟩
def aq.DS{P:Program}{f:FuncId}{args:List Value}{v:Value}(X:HP)(c:aq P f args [] (fun r H=>r=v∧H=[])):aq P f args [X] (fun r H=>r=v∧H=[X]) :=
 aq.post (aq.frame [X] c) (by rintro r H⟨H',⟨rfl,rfl⟩,rfl⟩;exact⟨rfl,rfl⟩)
end Go.SL
namespace Go.SL
open Go.RowKit
def old(W:World):HP:=fun h=>∀b,h b=W.heap[b]?
def Wf(W:World):bY:={ tape:=W.tape,os:=W.os,output:=W.output }
def ND(W:World):Sat (Wf W) W [old W]:=⟨⟨rfl,Nat.zero_le _⟩,rfl,rfl,fun b=>W.heap[b]?,fun _ _ h=>h,cV fun _=>rfl⟩
theorem zl{W W':World}(h:Sat (Wf W) W' [old W]):Below W.heap.size W W':=by
 obtain⟨h1,h2,h3,h0,hw,hs⟩:=h
 have ho:=cW hs
 have hb:∀k,k<W.heap.size→W'.heap[k]?=W.heap[k]? := fun k hk=>by
  have e:W.heap[k]?=some W.heap[k]:=by simp[hk]
  rw[e]
  exact hw k _ (by rw[ho k,e])
 refine⟨h2,h1.1,h3,?_,hb⟩
 grind
theorem Jd{P:Program}{f:FuncId}{args:List Value}{W:World}(c:aq P f args [old W] (fun v H=>v = .bool true∧H=[old W])) :
  Calls P f args.toArray W fun e W'=>e = .returned (.bool true)∧Below W.heap.size W W' :=
 (c.2 (Wf W) W [] (ND W)).mono fun e W' h=>by
  grind [zl]
theorem iT{W:World}{h:Hp}{b off:Nat}{v:Value}(ho:old W h)(hc:W.cell? ⟨b,off,none⟩=some v):cG h b off=some v:=by
 unfold cG
 rw[ho b]
 unfold World.cell? at hc
 grind
theorem D8{W:World}{a:Addr}{len cap:Nat}{zs:List Int}(hl:len≤zs.length)(cG:∀i,i<zs.length→W.cell? (a.add i)=some (.int .u8 (zs.getD i 0)))(hwf:∀n∈zs,(Lit.int .u8 n).wf=true) :
  ∃bs:List UInt8,bs.length=len∧Vw (old W) (.slice (some a) len cap) len (bV bs):=by
 refine⟨(zs.take len).map fun z=>UInt8.ofNat z.toNat,by simp;omega,some a,cap,rfl,?_⟩
 rcases Nat.eq_zero_or_pos len with h0|h0
 ·grind [bV]
 ·right
  obtain⟨b,o,spot⟩:=a
  have AZ:spot=none:=by simpa[Addr.add]using World.cell?_spot (cG 0 ai)
  subst AZ
  refine⟨b,o,rfl,fun h ho j c hj=>?_⟩
  have Fh:j<len:=by
   grind [bV]
  have h1:=cG j ai
  rw[Addr.add_eq]at h1
  have h2:=iT ho h1
  rw[h2]
  have hm:zs[j]' ai∈zs:=List.getElem_mem _
  have hw:=hwf _ hm
  have hb:0≤zs[j]' ai∧zs[j]' ai<256:=by
   simp only[Lit.wf,Bool.and_eq_true,decide_eq_true_eq]at hw
   have e1:IntKind.u8.min=0:=by decide
   have e2:IntKind.u8.max=255:=by decide
   omega
  simp only[bV,List.map_map,List.getElem?_map,List.getElem?_take,Fh,if_true]at hj
  rw[List.getElem?_eq_getElem ai]at hj
  simp only[Option.map_some,Option.some.injEq,Function.comp]at hj
  rw[← hj,List.getD_eq_getElem?_getD,List.getElem?_eq_getElem ai]
  simp only[Option.getD_some,u8,UInt8.toNat_ofNat',Option.some.injEq]
  grind
def JO(W:World):Vw (old W) (.slice none 0 0) 0 (bV []):=⟨none,0,rfl,.inl rfl⟩
def gf{z:Int}(h:(Lit.int .i64 z).wf=true) : -9223372036854775808≤z∧z≤9223372036854775807:=by
 simp only[Lit.wf,Bool.and_eq_true,decide_eq_true_eq]at h
 have e1:IntKind.i64.min = -9223372036854775808:=by decide
 simp_all
end Go.SL
namespace Go.SL
open Go Go.RowKit Go.ChangeShapes Go.WideShapes
def iV(l:List Int):List Value:=l.map (Value.int .i64)
def iP{l:List Int}{i:Nat}{x:Int}(h:l[i]?=some x):(iV l)[i]?=some (.int .i64 x):=by simp[iV,h]
def J'(l:List Int):(iV l).length=l.length:=by simp[iV]
def Vk{l:List Int}{i:Nat}(h:i<l.length):iV l≠[]:=fun e=>by have:=congrArg List.length e;simp[iV]at this;rw[this]at h;simp at h
abbrev i64(x:Int):Prop := -9223372036854775808≤x∧x≤9223372036854775807
theorem GJ{W:World}{a:Addr}{len cap:Nat}{zs:List Int}(hl:len≤zs.length)(cG:∀i,i<zs.length→W.cell? (a.add i)=some (.int .i64 (zs.getD i 0)))(hwf:∀n∈zs,(Lit.int .i64 n).wf=true) :
  ∃l:List Int,l.length=len∧Vw (old W) (.slice (some a) len cap) len (iV l)∧∀x∈l,i64 x:=by
 refine⟨zs.take len,by simp;omega,⟨some a,cap,rfl,?_⟩,fun x hx=>gf (hwf x (List.mem_of_mem_take hx))⟩
 rcases Nat.eq_zero_or_pos len with h0|h0
 ·grind [iV]
 ·right
  obtain⟨b,o,spot⟩:=a
  have AZ:spot=none:=by simpa[Addr.add]using World.cell?_spot (cG 0 ai)
  grind [iV,cG,Addr.add_eq,iT]
theorem C8{P:Program}{H:Type}{enc:TypeId × Value→H}{W:World}{base:Nat}{spare:Nat→Bool}{held:Bool}{fuel:Nat}{t e:TypeId}{v:Value}{x:DataW H × List MemPlace}(ht:P.underlying t=some (.slice e))(he:P.underlying e=some (.int .i64))(hc:P.cellsOf e=1)(h:DataW.trod enc P W base spare held fuel t [v]=some x) :
  ∃l:List Int,Vw (old W) v l.length (iV l)∧l.length≤9223372036854775807∧∀x∈l,i64 x:=by
 have hmx:maxLen=9223372036854775807:=by decide
 rcases open_ints ht he hc h with⟨jA,_⟩|⟨x,l,c,zs,jA,_,hl,hm,hz,_,cG,hwz⟩
 ·simp only[List.cons.injEq,and_true]at jA
  subst jA
  exact⟨[],⟨none,0,rfl,.inl rfl⟩,by simp,by simp⟩
 ·simp only[List.cons.injEq,and_true]at jA
  subst jA
  obtain⟨bs,h1,h2,h3⟩:=GJ (len:=l) (cap:=c) (by split at hz <;> omega) cG hwz
  grind
end Go.SL
namespace Go.Proofs.YtnkfkabokmcgoaaGreatDoor
open Go Go.SL
def iG(x y:Int):Int:=if x<y then -1 else if y<x then 1 else 0
def Ik:List Int→Int
 | []=>0
 | x::l=>if x=0 then Ik l else x
def qQ:∀(l:List Int) (i:Nat),(∀y∈l.take i,y=0)→Ik l=Ik (l.drop i)
 | [],i,_=>by simp
 | x::l,0,_=>rfl
 | x::l,i+1,h=>by
  have hx:x=0:=h x (by simp)
  rw[List.drop_succ_cons,← qQ l i (fun y hy=>h y (by simp[hy]))]
  simp[Ik,hx]
def qU(l:List Int):∀v∈iV l,v.oneCell'=true:=by
 intro v hv
 obtain⟨x,_,rfl⟩:=List.mem_map.1 hv
 rfl
attribute [local irreducible] J K aq Ends ag aI aC bF aW aP a6 aZ bN
def xy(x:Int):aq Tryz.prog 345 [.int .i64 x] [] (fun r H=>r = .bool false∧H=[]):=by
 refine aq.aj Tryz.func345 Tryz.ntmps345 fun G F R hE=>?_
 refine go ?_
 refine aV 2 ((.bool false)) rfl ((by simp)) ?_
 refine ad hE Tryz.func345 zr zr ⟨rfl,rfl⟩
def fW(x y:Int):aq Tryz.prog 258 [.int .i64 x,.int .i64 y] [] (fun r H=>r = .int .i64 (iG x y)∧H=[]):=by
 refine aq.aj Tryz.func258 Tryz.ntmps258 fun G F R hE=>?_
 refine go ?_
 refine aw (xy x) ?_
 refine go ?_
 refine aw (xy y) ?_
 refine go ?_
 refine au zr zr ?_ ?_
 ·intro h
  refine go ?_
  ((refine ad hE Tryz.func258 zr zr ⟨by rw[iG,if_pos h];rfl,rfl⟩))
 intro h
 refine go ?_
 refine au zr zr ?_ ?_
 ·intro h2
  refine go ?_
  ((refine ad hE Tryz.func258 zr zr ⟨by rw[iG,if_neg h,if_pos h2];rfl,rfl⟩))
 intro h2
 refine go ?_
 ((refine ad hE Tryz.func258 zr zr ⟨by rw[iG,if_neg h,if_neg h2];rfl,rfl⟩))
def Ep(A:HP)(v:Value)(l:List Int)(hv:Vw A v l.length (iV l))(hl:l.length≤1000000000):aq Tryz.prog 257 [v] [A] (fun r H=>r = .int .i64 (Ik l)∧H=[A]):=by
  obtain⟨a,c,rfl⟩:=hv.shape
  refine aq.aj Tryz.func257 Tryz.ntmps257 fun G F R hE=>?_
  refine go ?_
  refine bn (fun i:Nat=>i≤l.length∧∀y∈l.take i,y=0) (fun i=>l.length-i) (fun i=>[(3,.int .i64 0),(6,.slice a l.length c),(7,.int .i64 l.length),(8,.int .i64 i)]) (fun _=>A::F) 0 ⟨Nat.zero_le _,by simp⟩ rfl bQ ah ?_
  rintro i⟨hi,hb⟩ ih
  refine go ?_
  refine au zr zr ?_ ?_
  · intro cq
    have dq:i<l.length:=by omega
    obtain⟨x,hx⟩:∃x,l[i]?=some x:=⟨l[i],by simp[dq]⟩
    obtain⟨b,o,c',he⟩:=hv.some (Vk dq)
    simp only[Value.slice.injEq,true_and]at he
    obtain⟨rfl,rfl⟩:=he
    refine go ?_
    refine bC i zr zr zr zr zr zr zr zr dq ?_
    refine aN 0 i zr zr zr hv rfl (show(iV l)[i]?=some (.int .i64 x)from by simp[iV,hx]) zr zr (go ?_)
    refine au zr zr ?_ ?_
    · intro h
      refine go ?_
      have h1:Ik l=x:=by
        rw[qQ l i hb,List.drop_eq_getElem_cons dq]
        have:l[i]=x:=by rw[List.getElem?_eq_getElem dq]at hx;exact Option.some.inj hx
        rw[this]
        simp only[Ik]
        rw[if_neg h]
      ((refine ad hE Tryz.func257 zr zr ⟨by rw[h1];rfl,rfl⟩))
    intro h
    refine go ?_
    refine aK ih (i+1) rfl (⟨ai,fun y hy=>by
      rw[List.take_add_one,hx]at hy
      rcases List.mem_append.1 hy with h'|h'
      · exact hb y h'
      · simp at h';subst h';exact Decidable.not_not.1 h⟩) ai bQ ah
  intro ek
  refine go ?_
  have h1:Ik l=0:=by
    rw[qQ l i hb,List.drop_of_length_le ai];rfl
  ((refine ad hE Tryz.func257 zr zr ⟨by rw[h1];rfl,rfl⟩))
def sP{α:Type}(p:α→Bool)(l:List α):decide (0≤gQ p l)=l.any p:=by
 rw[show decide (0≤gQ p l)=decide (¬gQ p l<0)from by rw[decide_eq_decide];omega]
 rw[Bool.eq_iff_iff,decide_eq_true_iff,jW (p:=p) (l:=l),Bool.not_eq_false]
def ME(t:Int)(l:List Int):decide (0≤gQ (fun x=>decide (x=t)) l)=decide (t∈l):=by
 rw[sP,Bool.eq_iff_iff,decide_eq_true_iff,List.any_eq_true]
 constructor
 ·rintro⟨x,hx,h⟩;have:=of_decide_eq_true h;subst this;exact hx
 ·intro h;exact⟨t,h,decide_eq_true rfl⟩
def Ez(A:HP)(v:Value)(l:List Int)(t:Int)(hv:Vw A v l.length (iV l))(hlen:l.length≤1000000000) :
  aq Tryz.prog 174 [v,.int .i64 t] [A] (fun r H=>r = .int .i64 (gQ (fun x=>decide (x=t)) l)∧H=[A]):=by
 obtain⟨a,c0,rfl⟩:=hv.shape
 refine aq.aj Tryz.func174 Tryz.ntmps174 fun G F R hE=>?_
 refine go ?_
 refine bn (fun i:Nat=>i≤l.length∧∀y∈l.take i,decide (y=t)=false) (fun i=>l.length-i) (fun i=>[(0,.slice a l.length c0),(1,.int .i64 t),(7,.int .i64 l.length),(8,.int .i64 i)]) (fun _=>A::F) 0 ⟨by simp,by simp⟩ rfl bQ ah ?_
 rintro i⟨hi,hb⟩ ih
 refine go ?_
 refine au zr zr ?_ ?_
 ·intro cq
  have dq:i<l.length:=by omega
  obtain⟨x,hx⟩:∃x,l[i]?=some x:=⟨l[i],by simp[dq]⟩
  obtain⟨b,o,c',he⟩:=hv.some (Vk dq)
  simp only[Value.slice.injEq,true_and]at he
  obtain⟨rfl,rfl⟩:=he
  refine go ?_
  refine bC i zr zr zr zr zr zr zr zr dq ?_
  refine aN 0 i zr zr zr hv rfl (iP hx) zr zr (go ?_)
  refine au zr zr ?_ ?_
  ·intro h
   refine go ?_
   ((refine ad hE Tryz.func174 zr zr ⟨by rw[gb hx (decide_eq_true h.symm) hb];rfl,rfl⟩))
  intro h
  refine go ?_
  refine aK ih (i+1) rfl (⟨ai,jH hb hx (decide_eq_false fun e=>h e.symm)⟩) ai bQ ah
 intro ek
 refine go ?_
 have:i=l.length:=by omega
 subst this
 ((refine ad hE Tryz.func174 zr zr ⟨by rw[gY (fun x hx=>hb x (by simpa using hx))];rfl,rfl⟩))
def oT(A:HP)(v:Value)(l:List Int)(t:Int)(hv:Vw A v l.length (iV l))(hlen:l.length≤1000000000) :
  aq Tryz.prog 86 [v,.int .i64 t] [A] (fun r H=>r = .bool (decide (t∈l))∧H=[A]):=by
 refine aq.aj Tryz.func86 Tryz.ntmps86 fun G F R hE=>?_
 refine go ?_
 refine aw (Ez A v l t hv hlen) ?_
 refine go ?_
 refine aV 4 ((.bool (decide (t∈l)))) rfl ((congrArg Value.bool (ME t l))) ?_
 refine ad hE Tryz.func86 zr zr ⟨rfl,rfl⟩
def wy(A X:HP)(v:Value)(l:List Int)(hv:Vw A v l.length (iV l))(hlen:l.length≤1000000000)(g:FuncId)(cap:List Value)(p:Int→Bool)(hf:∀x∈l,aq Tryz.prog g (.int .i64 x::cap) [X] (fun v H=>v = .bool (p x)∧H=[X])) :
  aq Tryz.prog 282 [v,.func (.func g) #[] cap.toArray] [A,X] (fun r H=>r = .int .i64 (gQ p l)∧H=[A,X]):=by
 obtain⟨a,c0,rfl⟩:=hv.shape
 refine aq.enter Tryz.func282 ae rfl Tryz.ntmps282 zr zr ?_
 intro G F R hR
 refine go ?_
 refine bn (fun i:Nat=>i≤l.length∧∀y∈l.take i,p y=false) (fun i=>l.length-i) (fun i=>[(0,.slice a l.length c0),(1,.func (.func g) #[] cap.toArray),(7,.int .i64 l.length),(8,.int .i64 i)]) (fun _=>[A,X]++F) 0 ⟨by simp,by simp⟩ rfl bQ (ao.refl _) ?_
 rintro i⟨hi,hb⟩ ih
 refine go ?_
 refine au zr zr ?_ ?_
 ·intro cq
  refine go ?_
  have dq:i<l.length:=by omega
  have hx:l[i]?=some l[i]:=by simp[dq]
  generalize Vp:l[i]=x at hx
  obtain⟨b,o,eX,dW⟩:=hv.some (Vk dq)
  simp only[Value.slice.injEq]at dW
  obtain⟨rfl,_,rfl⟩:=dW
  refine bC i zr zr zr zr zr zr zr zr dq ?_
  refine aN 0 i zr zr zr hv rfl (iP hx) zr zr ?_
  refine bR [1] zr zr zr zr (hf x (List.mem_of_getElem? hx)) rfl iE ?_
  rintro _ _⟨rfl,rfl⟩
  refine go ?_
  refine dj zr zr ?_ ?_
  ·intro hp
   refine go ?_
   refine aG hR Tryz.func282 rfl _ rfl ⟨by rw[gb hx hp hb];rfl,rfl⟩ (ao.fin [1,0] 0 zr zr)
  ·intro hp
   refine go ?_
   refine aK ih (i+1) rfl ⟨ai,jH hb hx hp⟩ ai bQ (ao.pick [1,0] rfl)
 ·intro ek
  refine go ?_
  have:i=l.length:=by omega
  subst this
  refine aG hR Tryz.func282 rfl _ rfl ⟨by rw[gY (fun x hx=>hb x (by simpa using hx))];rfl,rfl⟩ (ao.fin [0,1] 0 zr zr)
def rG(A X:HP)(v:Value)(l:List Int)(hv:Vw A v l.length (iV l))(hlen:l.length≤1000000000)(g:FuncId)(cap:List Value)(p:Int→Bool)(hf:∀x∈l,aq Tryz.prog g (.int .i64 x::cap) [X] (fun v H=>v = .bool (p x)∧H=[X])) :
  aq Tryz.prog 178 [v,.func (.func g) #[] cap.toArray] [A,X] (fun r H=>r = .bool (l.any p)∧H=[A,X]):=by
 refine aq.aj Tryz.func178 Tryz.ntmps178 fun G F R hE=>?_
 refine go ?_
 refine aw (wy A X v l hv hlen g cap p hf) ?_
 refine go ?_
 refine aV 4 ((.bool (l.any p))) rfl ((congrArg Value.bool (sP p l))) ?_
 refine ad hE Tryz.func178 zr zr ⟨rfl,rfl⟩
def Ia(A:HP)(v:Value)(W:List Int)(hv:Vw A v W.length (iV W))(hlen:W.length≤1000000000) :
  aq Tryz.prog 281 [v] [A] (fun r H=>H=[aI 3 1 r W.length (iV W),A]):=by
 obtain⟨a,c0,rfl⟩:=hv.shape
 cases a with
 | none =>
  have hb:W=[]:=by
   obtain⟨a,cap,h1,h2|⟨b,o,h2,_⟩⟩:=hv
   ·have:=congrArg List.length h2
    rw[J']at this
    exact List.eq_nil_of_length_eq_zero (by simpa using this)
   ·simp only[Value.slice.injEq]at h1;rw[← h1.1]at h2;cases h2
  subst hb
  refine aq.enter Tryz.func281 ae rfl Tryz.ntmps281 zr zr ?_
  intro G F R hR
  refine go ?_
  have he:c0=c0:=rfl
  refine ak (bj 3 1 none _) ?_
  refine aG hR Tryz.func281 rfl _ zr zr (ao.fin [0,1] 0 zr zr)
 | some a =>
  refine aq.enter Tryz.func281 ae rfl Tryz.ntmps281 zr zr ?_
  intro G F R hR
  refine go ?_
  refine al (cs:=[]) zr zr zr zr zr zr zr zr zr bh ?_
  intro b0
  refine go ?_
  refine aS (eL 3 1 b0 0 0 [] [] _ rfl (Nat.le_refl _) (by simp)) ?_
  refine aO (mm:=W.length) (news:=iV W) 0 1 zr zr zr zr zr zr zr zr zr zr zr zr hv (by show _=_*1;rw[J'];omega) (qU W) ai (by show _*8≤_;omega) (fun _=>rfl) bh ?_
  intro v'
  have e1:(0:Nat)+W.length=W.length:=by omega
  rw[e1,List.nil_append]
  refine go ?_
  refine aG hR Tryz.func281 rfl _ zr zr (ao.fin [0,1] 0 zr zr)
def yo(g:FuncId)(cap:List Value)(N:Nat)(Pre Post:List HP)(Q:List Int→Prop):Prop :=
 ∀(l:Nat) (Lp:HP) (Inv:List Int→HP),(∀done x,done.length<N→bN Tryz.prog l [.int .i64 x] [Lp,Inv done] (fun v H=>v = .bool true∧H=[Lp,Inv (done++[x])])) →
  aq Tryz.prog g (.func (.yield l) #[] #[]::cap) (Lp::Inv []::Pre) (fun _ H=>∃xs,Q xs∧H=Lp::Inv xs::Post)
def II(bs:Nat)(ks:List Int):HP:=fun h=>∃v:Value,True∧Sep [ag bs (cl [v] 37),aI 3 1 v ks.length (iV ks)] h
def FR(bs:Nat)(ks:List Int):∀h,II bs ks h→∃v,True∧Sep [ag bs (cl [v] 37),aI 3 1 v ks.length (iV ks)] h:=fun h hs=>hs
def B7(bs:Nat)(ks:List Int)(v:Value)(H:List HP):ao (ag bs (cl [v] 37)::aI 3 1 v ks.length (iV ks)::H) (II bs ks::H) :=
 ao.fold (A:=II bs ks) (B:=[ag bs (cl [v] 37),aI 3 1 v ks.length (iV ks)]) fun h hs=>⟨h,sub.refl h,v,trivial,hs⟩
attribute [local irreducible] II
def vF(g:FuncId)(cap:List Value)(N:Nat)(Pre Post:List HP)(Q:List Int→Prop)(hN:N≤1000000000)(hi:yo g cap N Pre Post Q) :
  aq Tryz.prog 248 [.slice none 0 0,.func (.func g) #[] cap.toArray] Pre (fun r H=>∃xs,Q xs∧H=aI 3 1 r xs.length (iV xs)::Post):=by
 refine aq.aj Tryz.func248 Tryz.ntmps248 fun G F R hE=>?_
 refine aH rfl ?_
 refine bp zr zr bh ?_
 intro bs
 refine go ?_
 refine gT rfl ?_
 refine ak (ao.trans (ao.cons _ (bj 3 1 none _)) (B7 bs [] (.slice none 0 0) _)) ?_
 refine qp (Fr:=F) (Pre:=fun _ _=>II bs []::Pre) (Post:=?Po) rfl hE.1.1 rfl ?c (fun l r=>ao.refl _) ?gR
 case c =>
  intro l r
  refine hi l _ (fun dn=>II bs dn) ?_
  intro dn k cq
  refine bN.C' zr zr ?_
  intro G2 F2 R2 hY
  refine go ?_
  refine fm rfl hY ?_
  refine ak (ao.pick [1] rfl) ?_
  refine cI (FR bs dn) ?_
  rintro v -
  refine cL 1 rfl ?_
  rintro va vc rfl
  refine go ?_
  refine al (cs:=iV [k]) zr zr zr zr zr zr zr zr zr bh ?_
  intro row
  refine go ?_
  refine aO (mm:=1) (news:=iV [k]) 2 0 zr zr zr zr zr zr zr zr zr zr zr zr (Vw.ag rfl) rfl (qU _) ai (by show(_+1)*8≤_;omega) (fun _=>rfl) bh ?_
  intro v1
  rw[show iV dn++iV [k]=iV (dn++[k])from by simp[iV],show dn.length+1=(dn++[k]).length from by simp]
  refine aL 2 rfl ?_
  rintro Ih Ig rfl
  refine go ?_
  refine ak (ao.trans ah (B7 bs (dn++[k]) (.slice Ih (dn++[k]).length Ig) _)) ?_
  refine eE hY rfl ah ⟨rfl,rfl⟩
 intro l r v H dE
 obtain⟨xs,hq,rfl⟩:=dE
 refine⟨_,_,_,rfl,by decide,?_⟩
 rw[hE.1.2]
 refine cI (FR bs xs) ?_
 rintro w -
 refine go ?_
 refine lM hE Tryz.func248 rfl _ rfl ⟨xs,hq,rfl⟩ ?_
 exact(ao.drop _ _).trans (ao.perm (((List.perm_middle (a:=ag r (.deferred (some []))) (l₁:=Post) (l₂:=F)).cons _).trans (List.Perm.swap _ _ _)))
def zQ(g:FuncId)(cap:List Value)(N:Nat)(Pre Post:List HP)(Q:List Int→Prop)(hN:N≤1000000000)(hi:yo g cap N Pre Post Q) :
  aq Tryz.prog 150 [.func (.func g) #[] cap.toArray] Pre (fun r H=>∃xs,Q xs∧H=aI 3 1 r xs.length (iV xs)::Post):=by
 refine aq.aj Tryz.func150 Tryz.ntmps150 fun G F R hE=>?_
 refine go ?_
 refine aF (vF g cap N Pre Post Q hN hi) ?_
 rintro w _⟨xs,hq,rfl⟩
 refine go ?_
 refine ad hE Tryz.func150 zr zr ⟨xs,hq,rfl⟩
end Go.Proofs.YtnkfkabokmcgoaaGreatDoor
namespace Go.Proofs.YtnkfkabokmcgoaaGreatDoor
open Go Go.SL
structure MV where
 i:Value
 b:Value
 p:Value
 m:Value
def mC(v:MV)(m:mQ):List Value := .int .i64 m.kind::(dC m.hash++[.int .i64 m.piece,v.i,v.b,v.p,v.m,.bool m.seed])
structure yj(X:HP)(v:MV)(m:mQ):Prop where
 vi:Vw X v.i m.ids.length (iV m.ids)
 vb:fb X v.b m.bytes
 vp:LH X v.p m.proof
 vm:Vw X v.m m.eT.length (m.eT.flatMap ef)
 li:m.ids.length≤1000000000
 lb:m.bytes.length≤1000000000
 lp:m.proof.length≤1000000000
 lm:m.eT.length≤1000000000
def I3(e:TypeId)(b:Nat)(cs:List Value)(H:List HP):ao (ag b (cl cs e)::H) (aI e 1 (.slice (some ⟨b,0,none⟩) cs.length cs.length) cs.length cs::H):=by
 have h:=eL e 1 b cs.length cs.length cs [] H ai (Nat.le_refl _) (by simp)
 rw[List.append_nil]at h
 exact h
def eqD(a b:Dg)(w:World):(Op.equal 36 (.agg (dC a).toArray) (.agg (dC b).toArray)).run Tryz.prog w = .ok (decide (a=b)) w :=
 lU Tryz.underlying36 Tryz.underlying5 ae a b 9998 w
def guD:Tryz.prog.eqGuardType Tryz.prog.depth 36=false:=by kernel_rfl
attribute [local irreducible] J K aq Ends ag aI aC bF aW aP a6 aZ bN
def iJ(n lo hi:Int):aq Tryz.prog 176 [.int .i64 n,.int .i64 lo,.int .i64 hi] [] (fun r H=>r = .bool (gK n lo hi)∧H=[]):=by
 refine aq.aj Tryz.func176 Tryz.ntmps176 fun G F R hE=>?_
 repeat'(first|(with_reducible intro iI)|refine fq ?_|refine dw zr zr zr zr ?_ ?_|fail)
 ·((refine ad hE Tryz.func176 zr zr ⟨(by unfold gK;rw[decide_eq_true (show lo≤n from iI),Bool.true_and];rfl),rfl⟩))
 ·((refine ad hE Tryz.func176 zr zr ⟨(by unfold gK;rw[decide_eq_false (show ¬lo≤n from iI),Bool.false_and];rfl),rfl⟩))
def IE(k:Int):aq Tryz.prog 85 [.int .i64 k] [] (fun r H=>H=[aI 3 1 r (q6 k).length (iV (q6 k))]):=by
 refine aq.aj Tryz.func85 Tryz.ntmps85 fun G F R hE=>?_
 by_cases hk:1≤k∧k≤11
 ·have hk:k=1∨k=2∨k=3∨k=4∨k=5∨k=6∨k=7∨k=8∨k=9∨k=10∨k=11:=by omega
  rcases hk with rfl|rfl|rfl|rfl|rfl|rfl|rfl|rfl|rfl|rfl|rfl
  all_goals(
   refine go ?_
   refine al zr zr zr zr zr zr zr zr zr bh ?_
   intro b
   refine go ?_
   refine ak (I3 3 b _ _) ?_
   ((refine aG hE Tryz.func85 rfl _ zr zr ah)))
 ·have hn:q6 k=[]:=by
   unfold q6
   rw[if_neg ai,if_neg ai,if_neg ai,if_neg ai,if_neg ai,if_neg ai,if_neg ai]
  rw[hn]at hE
  refine ak (bj 3 1 none _) ?_
  repeat'(first|(with_reducible intro iI)|refine fq ?_|refine au zr zr ?_ ?_)
  all_goals first|(exfalso;omega)|skip
  refine aG hE Tryz.func85 rfl _ zr zr ah
def JP(k:Int):aq Tryz.prog 179 [.int .i64 k] [] (fun r H=>r = .int .i64 (AJ k)∧H=[]):=by
 refine aq.aj Tryz.func179 Tryz.ntmps179 fun G F R hE=>?_
 by_cases h1:k=1
 ·subst h1;refine go ?_;((refine ad hE Tryz.func179 zr zr ⟨rfl,rfl⟩))
 by_cases h2:k=4
 ·subst h2;refine go ?_;((refine ad hE Tryz.func179 zr zr ⟨rfl,rfl⟩))
 by_cases h3:k=10
 ·subst h3;refine go ?_;((refine ad hE Tryz.func179 zr zr ⟨rfl,rfl⟩))
 have hn:AJ k=0:=by unfold AJ;rw[if_neg h1,if_neg h2,if_neg h3]
 rw[hn]at hE
 repeat'(first|(with_reducible intro iI)|refine fq ?_|refine au zr zr ?_ ?_)
 all_goals first|(exfalso;omega)|skip
 refine ad hE Tryz.func179 zr zr ⟨rfl,rfl⟩
def BF(X:HP)(v:MV)(m:mQ)(hm:yj X v m)(i:Int)(hi:1≤i∧i≤8):aq Tryz.prog 88 [.agg (mC v m).toArray,.int .i64 i] [X] (fun r H=>r = .bool (FE m i)∧H=[X]):=by
 obtain⟨vi,vb,vp,vm⟩:=v
 obtain⟨ia,ic,rfl⟩:=hm.vi.shape
 obtain⟨ba,bc,rfl,_⟩:=hm.vb.2
 obtain⟨pa,pc,rfl⟩:=hm.vp.1.shape
 obtain⟨ma,mc,rfl⟩:=hm.vm.shape
 have hi:i=1∨i=2∨i=3∨i=4∨i=5∨i=6∨i=7∨i=8:=by omega
 refine aq.aj Tryz.func88 Tryz.ntmps88 fun G F R hE=>?_
 refine aH rfl ?_
 refine bp zr zr bh ?_
 intro bx
 rcases hi with rfl|rfl|rfl|rfl|rfl|rfl|rfl|rfl
 ·refine go ?_;((refine ad hE Tryz.func88 zr zr ⟨rfl,rfl⟩))
 ·refine go ?_
  refine bq 0 zr zr zr zr zr zr (go ?_)
  refine gG (U:=aU) zr zr zr zr zr ?_
  refine mw (b:=decide (m.hash=Dg.zero)) zr zr zr guD (fun w=>eqD m.hash Dg.zero w) ?_
  refine go ?_
  refine ad hE Tryz.func88 zr zr ⟨rfl,rfl⟩
 all_goals(
  refine go ?_
  ((refine ad hE Tryz.func88 zr zr ⟨rfl,rfl⟩)))
def mV(l:List Mem):List Value:=l.flatMap ef
def NV(l:List Mem):mV l=l.flatMap ef:=rfl
def JX(l:List Mem):(mV l).length=l.length*4:=bI fh l
def wx(A X:HP)(v:Value)(l:List Mem)(hv:Vw A v l.length (mV l))(hlen:l.length≤1000000000)(g:FuncId)(cap:List Value)(p:Mem→Bool)(hf:∀x∈l,aq Tryz.prog g (.agg (ef x).toArray::cap) [X] (fun v H=>v = .bool (p x)∧H=[X])) :
  aq Tryz.prog 283 [v,.func (.func g) #[] cap.toArray] [A,X] (fun r H=>r = .int .i64 (gQ p l)∧H=[A,X]):=by
 obtain⟨a,c0,rfl⟩:=hv.shape
 refine aq.enter Tryz.func283 ae rfl Tryz.ntmps283 zr zr ?_
 intro G F R hR
 refine go ?_
 refine bn (fun i:Nat=>i≤l.length∧∀y∈l.take i,p y=false) (fun i=>l.length-i) (fun i=>[(0,.slice a l.length c0),(1,.func (.func g) #[] cap.toArray),(7,.int .i64 l.length),(8,.int .i64 i)]) (fun _=>[A,X]++F) 0 ⟨by simp,by simp⟩ rfl bQ (ao.refl _) ?_
 rintro i⟨hi,hb⟩ ih
 refine go ?_
 refine au zr zr ?_ ?_
 ·intro cq
  refine go ?_
  have dq:i<l.length:=by omega
  have hx:l[i]?=some l[i]:=by simp[dq]
  generalize Vp:l[i]=x at hx
  obtain⟨b,o,eX,dW⟩:=hv.some (by rw[← List.length_pos_iff,NV,bI fh];omega)
  simp only[Value.slice.injEq]at dW
  obtain⟨rfl,_,rfl⟩:=dW
  refine bX i 4 zr zr zr zr zr zr zr zr dq ?_
  refine bW (U:=aU) (es:=ef x) 0 (i*4) zr zr zr hv rfl (fun j v hj=>?_) zr zr zr ?_
  ·have hj4:j<4:=by
    rcases Nat.lt_or_ge j 4 with h|h
    ·exact h
    ·rw[List.getElem?_eq_none (by rw[fh];exact h)]at hj;cases hj
   rw[NV,ck fh hx j hj4];exact hj
  refine bR [1] zr zr zr zr (hf x (List.mem_of_getElem? hx)) rfl iE ?_
  rintro _ _⟨rfl,rfl⟩
  refine go ?_
  refine dj zr zr ?_ ?_
  ·intro hp
   refine go ?_
   refine aG hR Tryz.func283 rfl _ rfl ⟨by rw[gb hx hp hb];rfl,rfl⟩ (ao.fin [1,0] 0 zr zr)
  ·intro hp
   refine go ?_
   refine aK ih (i+1) rfl ⟨ai,jH hb hx hp⟩ ai bQ (ao.pick [1,0] rfl)
 ·intro ek
  refine go ?_
  have:i=l.length:=by omega
  subst this
  refine aG hR Tryz.func283 rfl _ rfl ⟨by rw[gY (fun x hx=>hb x (by simpa using hx))];rfl,rfl⟩ (ao.fin [0,1] 0 zr zr)
def rF(A X:HP)(v:Value)(l:List Mem)(hv:Vw A v l.length (mV l))(hlen:l.length≤1000000000)(g:FuncId)(cap:List Value)(p:Mem→Bool)(hf:∀x∈l,aq Tryz.prog g (.agg (ef x).toArray::cap) [X] (fun v H=>v = .bool (p x)∧H=[X])) :
  aq Tryz.prog 180 [v,.func (.func g) #[] cap.toArray] [A,X] (fun r H=>r = .bool (l.any p)∧H=[A,X]):=by
 refine aq.aj Tryz.func180 Tryz.ntmps180 fun G F R hE=>?_
 refine go ?_
 refine aw (wx A X v l hv hlen g cap p hf) ?_
 refine go ?_
 refine aV 4 ((.bool (l.any p))) rfl ((congrArg Value.bool (sP p l))) ?_
 refine ad hE Tryz.func180 zr zr ⟨rfl,rfl⟩
def xi(i:Int):aq Tryz.prog 175 [.int .i64 i] [] (fun r H=>r = .bool (pX i)∧H=[]):=by
 refine aq.aj Tryz.func175 Tryz.ntmps175 fun G F R hE=>?_
 refine go ?_
 refine aw (iJ i 1 65536) ?_
 refine go ?_
 refine ad hE Tryz.func175 zr zr ⟨rfl,rfl⟩
def Db(x:Mem)(bo:Nat):aq Tryz.prog 177 [.agg (ef x).toArray,ptr bo] [ag bo (cl [.func (.func 175) #[] #[] ] 250)] (fun r H=>r = .bool (o7 x)∧H=[ag bo (cl [.func (.func 175) #[] #[] ] 250)]):=by
 refine aq.aj Tryz.func177 Tryz.ntmps177 fun G F R hE=>?_
 refine aH rfl ?_
 refine bp zr zr bh ?_
 intro bx
 refine go ?_
 refine aw (xi x.id) ?_
 have e1:o7 x=(pX x.id || !gK x.inc 0 1073741824 || !gK x.st 1 3 || decide (x.since≠0)):=rfl
 cases h1:pX x.id with
 | true=>refine go ?_;((refine ad hE Tryz.func177 zr zr ⟨by rw[e1,h1];rfl,rfl⟩))
 | false =>
 refine go ?_
 refine aw (iJ x.inc 0 1073741824) ?_
 cases h2:gK x.inc 0 1073741824 with
 | false=>refine go ?_;((refine ad hE Tryz.func177 zr zr ⟨by rw[e1,h1,h2];rfl,rfl⟩))
 | true =>
 refine go ?_
 refine aw (iJ x.st 1 3) ?_
 cases h3:gK x.st 1 3 with
 | false=>refine go ?_;((refine ad hE Tryz.func177 zr zr ⟨by rw[e1,h1,h2,h3];rfl,rfl⟩))
 | true =>
 refine go ?_
 ((refine ad hE Tryz.func177 zr zr ⟨by rw[e1,h1,h2,h3];rfl,rfl⟩))
def Bp(X:HP)(v:MV)(m:mQ)(hm:yj X v m)(i:Int)(hi:1≤i∧i≤8):aq Tryz.prog 87 [.agg (mC v m).toArray,.int .i64 i] [X] (fun r H=>r = .bool (sj m i)∧H=[X]):=by
 obtain⟨vi,vb,vp,vm⟩:=v
 have hmi:=hm.vi
 have WS:=hm.vm
 have LZ:=hm.li
 have hlm:=hm.lm
 obtain⟨ia,ic,rfl⟩:=hm.vi.shape
 obtain⟨ba,bc,rfl,_⟩:=hm.vb.2
 obtain⟨pa,pc,rfl⟩:=hm.vp.1.shape
 obtain⟨ma,mc,rfl⟩:=hm.vm.shape
 have hi:i=1∨i=2∨i=3∨i=4∨i=5∨i=6∨i=7∨i=8:=by omega
 refine aq.aj Tryz.func87 Tryz.ntmps87 fun G F R hE=>?_
 refine aH rfl ?_
 refine bp zr zr bh ?_
 intro bx
 refine go ?_
 refine az zr zr zr bh ?_
 intro bo
 rcases hi with rfl|rfl|rfl|rfl|rfl|rfl|rfl|rfl
 case inr.inr.inl =>
  refine go ?_
  refine aw (iJ m.piece 0 1023) ?_
  refine go ?_
  refine ad hE Tryz.func87 zr zr ⟨rfl,rfl⟩
 case inr.inr.inr.inl =>
  repeat'(first|(with_reducible intro iI)|refine fq ?_|refine dw zr zr zr zr ?_ ?_|fail)
  ·have e1:sj m 4 = !m.ids.any pX:=by show(decide ((m.ids.length:Int)≤64) && !m.ids.any pX)=_;rw[decide_eq_true iI];rfl
   rw[e1]at hE
   refine aw (rG X (ag bo (cl [.func (.func 175) #[] #[] ] 250)) (.slice ia m.ids.length ic) m.ids hmi LZ 175 [] pX (fun x _=>(xi x).DS _)) ?_
   refine go ?_
   refine ad hE Tryz.func87 zr zr ⟨rfl,rfl⟩
  ·have e1:sj m 4=false:=by show(decide ((m.ids.length:Int)≤64) && !m.ids.any pX)=_;rw[decide_eq_false iI];rfl
   rw[e1]at hE
   refine ad hE Tryz.func87 zr zr ⟨rfl,rfl⟩
 case inr.inr.inr.inr.inl =>
  refine go ?_
  refine aJ (fun w=>Sat G w ([X,ag bx (cl (mC ⟨.slice ia m.ids.length ic,.slice ba m.bytes.length bc,.slice pa m.proof.length pc,.slice ma m.eT.length mc⟩ m) 42)])) (cM 0 5 (.act 5 (.act 6 (.st 7 .nil)))) rfl ae ae ae cY ?_
  refine go ?_
  refine bP (JP m.kind) ?_
  refine go ?_
  refine bP (iJ m.bytes.length 1 (AJ m.kind)) ?_
  refine go ?_
  refine ad hE Tryz.func87 zr zr ⟨rfl,rfl⟩
 case inr.inr.inr.inr.inr.inr.inl =>
  refine go ?_
  refine aw (iJ m.eT.length 1 65) ?_
  cases h1:gK m.eT.length 1 65 with
  | false =>
   have e1:sj m 7=false:=by show(gK m.eT.length 1 65 && !m.eT.any o7)=_;rw[h1];rfl
   rw[e1]at hE
   refine go ?_
   refine ad hE Tryz.func87 zr zr ⟨rfl,rfl⟩
  | true =>
   have e1:sj m 7 = !m.eT.any o7:=by show(gK m.eT.length 1 65 && !m.eT.any o7)=_;rw[h1];rfl
   rw[e1]at hE
   refine go ?_
   refine aw (rF X _ (.slice ma m.eT.length mc) m.eT WS hlm 177 [ptr bo] o7 (fun x _=>Db x bo)) ?_
   refine go ?_
   refine ad hE Tryz.func87 zr zr ⟨rfl,rfl⟩
 all_goals(
  refine go ?_
  ((refine ad hE Tryz.func87 zr zr ⟨rfl,rfl⟩)))
def vT(m:mQ)(i:Nat):Bool:=(List.range i).all fun j=>decide (j=0) || jl m j
def qS(m:mQ)(i:Nat):vT m (i+1)=(vT m i && (decide (i=0) || jl m i)):=by unfold vT;rw[List.range_succ,List.all_append];simp
def xh(m:mQ):vT m 9=tS m:=by
 simp only[qS,show vT m 0=true from rfl,tS]
 rfl
def E1{m:mQ}{i:Nat}(h:vT m (i+1)=false)(hi:i≤8):tS m=false:=by
 rw[← xh]
 have key:∀k,vT m (i+1+k)=false:=fun k=>by
  induction k with
  | zero=>exact h
  | succ k ih=>rw[show i+1+(k+1)=(i+1+k)+1 from rfl,qS,ih];rfl
 have:=key (8-i)
 rwa[show i+1+(8-i)=9 by omega]at this
def J5(k:Int):(q6 k).length≤5:=by
 unfold q6
 repeat' split
 all_goals decide
def Cw(X:HP)(v:MV)(m:mQ)(hm:yj X v m):aq Tryz.prog 37 [.agg (mC v m).toArray] [X] (fun r H=>r = .bool (tS m)∧H=[X]):=by
 have MW:=J5 m.kind
 refine aq.aj Tryz.func37 Tryz.ntmps37 fun G F R hE=>?_
 refine aH rfl ?_
 refine bp zr zr bh ?_
 intro bx
 refine go ?_
 refine aF (IE m.kind) ?_
 rintro _ _ rfl
 refine aL 0 rfl ?_
 rintro ha hc rfl
 refine go ?_
 refine bn (fun i:Nat=>1≤i∧i≤9∧vT m i=true) (fun i=>9-i) (fun i=>[(1,ptr bx),(3,.slice ha (q6 m.kind).length hc),(4,.int .i64 (i:Int))])
  (fun _=>aI 3 1 (.slice ha (q6 m.kind).length hc) (q6 m.kind).length (iV (q6 m.kind))::ag bx (cl (mC v m) 42)::X::F) 1 ⟨ai,ai,rfl⟩ rfl bQ ah ?_
 rintro i⟨xF,hi9,hJ⟩ ih
 refine go ?_
 refine au zr zr ?_ ?_
 case' refine_2 =>
  intro ek
  have:i=9:=by omega
  subst this
  rw[xh]at hJ
  rw[hJ]at hE
  refine go ?_
  refine ad hE Tryz.func37 zr zr ⟨rfl,rfl⟩
 intro hle
 have hs:=qS m i
 rw[hJ,decide_eq_false (show ¬i=0 by omega),Bool.true_and,Bool.false_or]at hs
 refine go ?_
 refine dT 0 rfl ?_
 intro dt
 refine aw (oT _ _ (q6 m.kind) (i:Int) dt ai) ?_
 by_cases rZ:(i:Int)∈q6 m.kind
 ·rw[decide_eq_true rZ]
  have hs:vT m (i+1)=sj m i:=by rw[hs];unfold jl;rw[if_pos rZ]
  cases hf:sj m (i:Int)with
  | true =>
   refine go ?_
   refine bq 1 zr zr zr zr zr zr (go ?_)
   refine aw (Bp X v m hm i ⟨ai,ai⟩) ?_
   rw[hf]
   refine go ?_
   refine aK ih (i+1) rfl ⟨ai,ai,hs.trans hf⟩ ai bQ ah
  | false =>
   rw[E1 (hs.trans hf) ai]at hE
   refine go ?_
   refine bq 1 zr zr zr zr zr zr (go ?_)
   refine aw (Bp X v m hm i ⟨ai,ai⟩) ?_
   rw[hf]
   refine go ?_
   refine ad hE Tryz.func37 zr zr ⟨rfl,rfl⟩
 ·rw[decide_eq_false rZ]
  have hs:vT m (i+1)=FE m i:=by rw[hs];unfold jl;rw[if_neg rZ]
  cases hf:FE m (i:Int)with
  | true =>
   refine go ?_
   refine bq 1 zr zr zr zr zr zr (go ?_)
   refine aw (BF X v m hm i ⟨ai,ai⟩) ?_
   rw[hf]
   refine go ?_
   refine aK ih (i+1) rfl ⟨ai,ai,hs.trans hf⟩ ai bQ ah
  | false =>
   rw[E1 (hs.trans hf) ai]at hE
   refine go ?_
   refine bq 1 zr zr zr zr zr zr (go ?_)
   refine aw (BF X v m hm i ⟨ai,ai⟩) ?_
   rw[hf]
   refine go ?_
   refine ad hE Tryz.func37 zr zr ⟨rfl,rfl⟩
end Go.Proofs.YtnkfkabokmcgoaaGreatDoor
namespace Go.Proofs.YtnkfkabokmcgoaaGreatDoor
open Go Go.SL
structure Cs where
 dZ:Int
 bt:Int
 bK:Int
 each:Int
 pat:Int
 lim:Int
 gL:Int
 bD:Int
def yz(S:Cs):List Value:=[.int .i64 S.dZ,.int .i64 S.bt,.int .i64 S.bK,.int .i64 S.each,.int .i64 S.pat,.int .i64 S.lim,.int .i64 S.gL,.int .i64 S.bD]
def dG(id:Int)(S:Cs)(st tb bv kb hb:Nat)(pv:Value)(ms mg:Nat)(br:Bool):List Value := .int .i64 id::(yz S++[ptr st,ptr tb,ptr bv,ptr kb,ptr hb,pv,.map (some ms),.map (some mg),.bool br])
end Go.Proofs.YtnkfkabokmcgoaaGreatDoor
namespace Go.SL
section
variable{P:Program}{U:Tr}[hU:er P U]{f:FuncId}{n:Nat}{R:Ending→World→Prop}{G:bY}{k:List Item}{L:dS}{H H':List HP}{S:World→Prop}{all:Array Oper}{rest:Pl}{ty:TypeId}{pos:String}{af:Array Edge}{gd:Option (Nat × Bool)}
variable{κ:Type}[DecidableEq κ]{kv:κ→Value}
def vv{t kt et:TypeId}{bH:Ty}{x:Operand}{b:Nat}{es:List (κ × Value)}(i:Nat)(hS:∀w,Sat G w H'→Sx rest S w)(hx:ev L x=some (.map (some b)))(ht:U.get t=some bH)(hu:bH.eH = .map kt et)(hi:bS H i=some (aC kv b es))(hp:jk i (aC kv b ([]:List (κ × Value))) H [] = .mk H')(h:J P f n R G S all rest k L H'):J P f n R G S all (.cons false true ⟨none,.call { callee := .builtin .clear,args := #[x],argTypes := #[t] },ty,pos,af,gd⟩ rest) k L H:=by
 intro a w ha hw _
 obtain⟨o,hm,hb⟩:=hw.eU hi
 obtain⟨entries,clock,rfl,mT,gp,nG,Fo⟩:=hm
 have jX:∀o',(setObj b o').run P w = .ok () { w with heap:=w.heap.setIfInBounds b o' }:=fun o'=>by simp[setObj,Sem.run,hb]
 have hs:=hw.tY hi (o' := .map #[] clock) (es':=[]) ⟨#[],clock,rfl,rfl,by simp,by simp,by simp⟩ hp
 refine .inl ⟨.inl rfl,.inr ⟨rfl,?_⟩⟩
 have:(execOp a.eval ⟨none,.call { callee := .builtin .clear,args := #[x],argTypes := #[t] },ty,pos,af,gd⟩).run P w = .ok (.value (.tuple #[])) { w with heap:=w.heap.setIfInBounds b (.map #[] clock) }:=by
  simp only[execOp,resolve,invoke,builtin,Sem.run_bind,Sem.run_pure,Result.andThen_ok,List.map_toArray,List.map_cons,List.map_nil,ha.ev hx,Builtin.clear_,List.getElem?_toArray,List.getElem?_cons_zero,
   run_underlying ht,hu,run_getObj_map hb,jX]
 exact fe this ⟨hS _ hs,h a _ ha hs (hS _ hs)⟩
end
end Go.SL
namespace Go.Proofs.YtnkfkabokmcgoaaGreatDoor
open Go Go.SL
def gE(g:List Int):List (Int × Value):=g.map fun k=>(k,Value.agg #[Value.int .i64 0,Value.bool true])
def Ft(g:List Int):(gE g).map (·.1)=g:=by
 unfold gE
 rw[List.map_map]
 exact List.map_id g
def KE(g:List Int):(gE g).length=g.length:=List.length_map _
def Fs(g:List Int)(k:Int):cw (gE g) k=if k∈g then some (Value.agg #[Value.int .i64 0,Value.bool true])else none:=by
 induction g with
 | nil=>rw[if_neg (fun h=>by cases h)];rfl
 | cons x g ih =>
  by_cases h:x=k
  ·subst h
   rw[if_pos (List.mem_cons_self ..)]
   unfold cw gE
   simp only[List.map_cons,List.find?_cons,decide_true,Option.map_some]
  ·have he:cw (gE (x::g)) k=cw (gE g) k:=by
    unfold cw gE
    simp only[List.map_cons,List.find?_cons,h,decide_false]
   rw[he,ih]
   by_cases hk:k∈g
   ·rw[if_pos hk,if_pos (List.mem_cons_of_mem _ hk)]
   ·rw[if_neg hk,if_neg (fun hm=>by
     rcases List.mem_cons.1 hm with e|e
     ·exact h e.symm
     ·exact hk e)]
def KD(g:List Int)(k:Int):iy (gE g) k (.agg #[.int .i64 0,.bool true])=gE (if k∈g then g else g++[k]):=by
 unfold iy
 rw[Ft]
 split
 ·unfold gE
  rw[List.map_map]
  apply List.map_congr_left
  intro x _
  simp only[Function.comp]
  split
  ·rename_i hx;rw[hx]
  ·rfl
 ·simp[gE]
structure VM where
 self:Mem
 bK:Int
 ks:List Mem
def pe(m o:Mem):Bool:=decide (0<Ik [iG m.inc o.inc,iG m.st o.st])
def i'(ks:List Mem)(id:Int):Option Mem:=ks.find? fun x=>decide (x.id=id)
def eb(ks:List Mem)(m:Mem):List Mem:=if m.id∈ks.map Mem.id then ks.map (fun x=>if x.id=m.id then m else x)else ks++[m]
def qT(m:Mem)(now:Int):Bool:=gK m.id 1 65536 && gK m.inc 0 1073741824 && gK m.st 1 3 && gK now 0 1099511627776
def gA(V:VM)(m:Mem)(now:Int):(Bool × Int) × VM :=
 if qT m now=false then((false,1),V)
 else if m.id=V.self.id then(if pe m V.self then((true,0),{ V with self:={ V.self with inc:=min (m.inc+1) 1073741824 } })else((false,0),V))
 else match i' V.ks m.id with
 | some o=>if pe m o then((true,0),{ V with ks:=eb V.ks { m with since:=now } })else((false,0),V)
 | none=>if m.st=3 then((false,0),V)else((true,0),{ V with ks:=eb V.ks { m with since:=now } })
def yU(x:Mem):Value := .agg (ef x).toArray
def fJ(ks:List Mem):List (Int × Value):=ks.map fun x=>(x.id,yU x)
def nN(ks:List Mem):(fJ ks).map (·.1)=ks.map Mem.id:=by simp[fJ]
def qd(ks:List Mem)(k:Int):cw (fJ ks) k=(i' ks k).map yU:=by
 unfold cw fJ i'
 rw[List.find?_map,Option.map_map]
 rfl
def zd(ks:List Mem)(m:Mem):iy (fJ ks) m.id (yU m)=fJ (eb ks m):=by
 unfold iy eb
 rw[nN]
 split
 ·unfold fJ
  rw[List.map_map,List.map_map]
  apply List.map_congr_left
  intro x hx
  simp only[Function.comp]
  split <;> rfl
 ·unfold fJ;rw[List.map_append];rfl
def Al(ks:List Mem)(m:Mem):(eb ks m).length≤ks.length+1:=by
 unfold eb
 split
 ·rw[List.length_map];omega
 ·simp
def bM(bv:Nat)(V:VM):HP:=fun h=>∃bm:Nat,True∧Sep [ag bv (cl (ef V.self++[.int .i64 V.bK,.map (some bm)]) 143),aC (Value.int .i64) bm (fJ V.ks)] h
def iL(bv:Nat)(V:VM):∀h,bM bv V h→∃bm:Nat,True∧Sep [ag bv (cl (ef V.self++[.int .i64 V.bK,.map (some bm)]) 143),aC (Value.int .i64) bm (fJ V.ks)] h:=fun h hs=>hs
def cC(bv bm:Nat)(V:VM)(H:List HP):ao (ag bv (cl (ef V.self++[.int .i64 V.bK,.map (some bm)]) 143)::aC (Value.int .i64) bm (fJ V.ks)::H) (bM bv V::H) :=
 ao.fold (A:=bM bv V) (B:=[ag bv (cl (ef V.self++[.int .i64 V.bK,.map (some bm)]) 143),aC (Value.int .i64) bm (fJ V.ks)]) fun h hs=>⟨h,sub.refl h,bm,trivial,hs⟩
def fu:iz Tryz.prog 3 (Value.int .i64):=pg Tryz.underlying3
attribute [local irreducible] J K aq Ends ag aI aC bF aW aP a6 aZ bN bM
def e8(n lo hi:Int):aq Tryz.prog 64 [.int .i64 n,.int .i64 lo,.int .i64 hi] [] (fun r H=>r = .bool (gK n lo hi)∧H=[]):=by
 refine aq.aj Tryz.func64 Tryz.ntmps64 fun G F R hE=>?_
 repeat'(first|(with_reducible intro iI)|refine fq ?_|refine dw zr zr zr zr ?_ ?_|fail)
 ·((refine ad hE Tryz.func64 zr zr ⟨(by unfold gK;rw[decide_eq_true (show lo≤n from iI),Bool.true_and];rfl),rfl⟩))
 ·((refine ad hE Tryz.func64 zr zr ⟨(by unfold gK;rw[decide_eq_false (show ¬lo≤n from iI),Bool.false_and];rfl),rfl⟩))
def xp(m o:Mem):aq Tryz.prog 194 [.agg (ef m).toArray,.agg (ef o).toArray] [] (fun r H=>r = .bool (pe m o)∧H=[]):=by
 refine aq.aj Tryz.func194 Tryz.ntmps194 fun G F R hE=>?_
 refine aH rfl ?_
 refine bp zr zr bh ?_
 intro bx
 refine bp zr zr bh ?_
 intro sl
 refine go ?_
 refine aJ (fun w=>Sat G w ([ag bx (cl (aX (Value.agg (ef m).toArray)) 101),ag sl (cl (aX (Value.agg (ef o).toArray)) 101)])) (cM 0 4 (cM 5 4 (.act 4 (.act 9 (.act 10 (.act 11 (.st 12 (.st 13 .nil)))))))) rfl ae ae ae cY ?_
 refine go ?_
 refine bP (fW m.inc o.inc) ?_
 refine go ?_
 refine bP (fW m.st o.st) ?_
 refine go ?_
 refine al (cs:=iV [iG m.inc o.inc,iG m.st o.st]) zr zr zr zr zr zr zr zr zr (fun _ w hw=>hw.cn ah) ?_
 intro b
 refine go ?_
 refine bP (Ep _ _ [iG m.inc o.inc,iG m.st o.st] (Vw.ag rfl) (by simp)) ?_
 refine go ?_
 refine ad hE Tryz.func194 zr zr ⟨rfl,rfl⟩
def JY(self bK:Int)(hs:gK self 1 65536=true)(hm:gK bK 1 64=true) :
  aq Tryz.prog 22 [.int .i64 self,.int .i64 bK] [] (fun r H=>∃bv,r = .tuple #[ptr bv,.int .i64 0]∧H=[bM bv ⟨⟨self,0,1,0⟩,bK,[]⟩]):=by
 refine aq.aj Tryz.func22 Tryz.ntmps22 fun G F R hE=>?_
 refine go ?_
 refine aw (e8 self 1 65536) ?_
 rw[hs]
 refine go ?_
 refine aw (e8 bK 1 64) ?_
 rw[hm]
 refine go ?_
 refine dN rfl bh ?_
 intro bm
 refine go ?_
 refine bp zr zr bh ?_
 intro bv
 refine go ?_
 refine ak (ao.trans (ao.pick [1] rfl) (ao.head (B:=[aC (Value.int .i64) bm [] ]) (fun h hs=>⟨h,sub.refl h,cV (fO _ bm h hs)⟩))) ?_
 refine ak (ao.trans (ao.pick [1,0] rfl) (cC bv bm ⟨⟨self,0,1,0⟩,bK,[]⟩ _)) ?_
 refine ad hE Tryz.func22 zr zr ⟨bv,rfl,rfl⟩
end Go.Proofs.YtnkfkabokmcgoaaGreatDoor
namespace Go.SL
open Go
abbrev jf:=BitVec 32
def u32(x:jf):Value := .int .u32 (x.toNat:Int)
def wV(l:List jf):List Value:=l.map u32
def tn(l:List jf):(wV l).length=l.length:=by simp[wV]
def mZ{l:List jf}{i:Nat}{x:jf}(h:l[i]?=some x):(wV l)[i]?=some (u32 x):=by simp[wV,h]
def IG(l:List jf)(i:Nat)(x:jf):(wV l).set i (u32 x)=wV (l.set i x):=by simp[wV]
def wB(c:UInt8):jf:=BitVec.ofNat 32 c.toNat
theorem Oz(c:UInt8):(wB c).toNat=c.toNat:=by
 have:=c.toNat_lt
 grind [wB]
theorem wrap32(n:Nat):IntKind.u32.wrap (n:Int)=((n%4294967296:Nat):Int):=by
 simp[IntKind.wrap,IntKind.bits,IntKind.signed]
theorem ofInt32(p:jf):BitVec.ofInt IntKind.u32.bits ((p.toNat:Nat):Int)=p:=by
 apply BitVec.eq_of_toNat_eq
 have h:IntKind.u32.bits=32:=rfl
 grind
section
variable{P:Program}{U:Tr}[hU:er P U]{f:FuncId}{n:Nat}{R:Ending→World→Prop}{G:bY}{k:List Item}{L:dS}{H H':List HP}{S:World→Prop}{all:Array Oper}{rest:Pl}{ty:TypeId}{pos:String}{af:Array Edge}{gd:Option (Nat × Bool)}{m:Bool}{d:Tmp}
theorem zM{t yt:TypeId}{x y:Operand}{p q:jf}(hd:Nat.blt d n=true)(hx:ev L x=some (.int .u32 (p.toNat:Int)))(hy:ev L y=some (.int .u32 (q.toNat:Int)))(h:J P f n R G S all rest k ((d,.int .u32 ((p+q).toNat:Int))::L) H):J P f n R G S all (.cons m true ⟨some d,.binOp .add t x y yt,ty,pos,af,gd⟩ rest) k L H:=by
 refine LC hd hx hy ?_
 have e:IntKind.u32.wrap ((p.toNat:Int)+(q.toNat:Int))=((p+q).toNat:Int):=by
  grind [wrap32]
 rw[e];exact h
def qF(p:jf):IntKind.u32.wrap (p.toNat:Int)=(p.toNat:Int):=by
 rw[wrap32];have:=p.isLt;congr 1;omega
def pw{t yt:TypeId}{x y:Operand}{p q:jf}(hd:Nat.blt d n=true)(hx:ev L x=some (.int .u32 (p.toNat:Int)))(hy:ev L y=some (.int .u32 (q.toNat:Int)))(h:J P f n R G S all rest k ((d,.int .u32 ((p ^^^ q).toNat:Int))::L) H):J P f n R G S all (.cons m true ⟨some d,.binOp .xor t x y yt,ty,pos,af,gd⟩ rest) k L H :=
 cJ hd (fun a ha w=>by
  have e:IntKind.u32.wrap ((BitVec.ofInt IntKind.u32.bits (p.toNat:Int) ^^^ BitVec.ofInt IntKind.u32.bits (q.toNat:Int)).toNat:Int)=((p ^^^ q).toNat:Int):=by rw[ofInt32,ofInt32];exact qF (p ^^^ q)
  simp[execOp,ha.ev hx,ha.ev hy,eqGuard,binOp,Op.intBits]
  simpa using e) h
def LB{t yt:TypeId}{x y:Operand}{p q:jf}(hd:Nat.blt d n=true)(hx:ev L x=some (.int .u32 (p.toNat:Int)))(hy:ev L y=some (.int .u32 (q.toNat:Int)))(h:J P f n R G S all rest k ((d,.int .u32 ((p &&& q).toNat:Int))::L) H):J P f n R G S all (.cons m true ⟨some d,.binOp .and t x y yt,ty,pos,af,gd⟩ rest) k L H :=
 cJ hd (fun a ha w=>by
  have e:IntKind.u32.wrap ((BitVec.ofInt IntKind.u32.bits (p.toNat:Int) &&& BitVec.ofInt IntKind.u32.bits (q.toNat:Int)).toNat:Int)=((p &&& q).toNat:Int):=by rw[ofInt32,ofInt32];exact qF (p &&& q)
  simp[execOp,ha.ev hx,ha.ev hy,eqGuard,binOp,Op.intBits]
  simpa using e) h
def Ls{t yt:TypeId}{x y:Operand}{p q:jf}(hd:Nat.blt d n=true)(hx:ev L x=some (.int .u32 (p.toNat:Int)))(hy:ev L y=some (.int .u32 (q.toNat:Int)))(h:J P f n R G S all rest k ((d,.int .u32 ((p ||| q).toNat:Int))::L) H):J P f n R G S all (.cons m true ⟨some d,.binOp .or t x y yt,ty,pos,af,gd⟩ rest) k L H :=
 cJ hd (fun a ha w=>by
  have e:IntKind.u32.wrap ((BitVec.ofInt IntKind.u32.bits (p.toNat:Int) ||| BitVec.ofInt IntKind.u32.bits (q.toNat:Int)).toNat:Int)=((p ||| q).toNat:Int):=by rw[ofInt32,ofInt32];exact qF (p ||| q)
  simp[execOp,ha.ev hx,ha.ev hy,eqGuard,binOp,Op.intBits]
  simpa using e) h
def zJ{t yt:TypeId}{x y:Operand}{p:jf}{j':IntKind}{q:Int}(s:Nat)(hd:Nat.blt d n=true)(hx:ev L x=some (.int .u32 (p.toNat:Int)))(hy:ev L y=some (.int j' q))(hq:q=(s:Int))(hs:s≤32)(h:J P f n R G S all rest k ((d,.int .u32 ((p >>> s).toNat:Int))::L) H):J P f n R G S all (.cons m true ⟨some d,.binOp .shr t x y yt,ty,pos,af,gd⟩ rest) k L H:=by
 subst hq
 refine iA hd hx hy ai ?_
 have e:(p.toNat:Int)/2 ^ (min ((s:Int).toNat) IntKind.u32.bits)=((p >>> s).toNat:Int):=by
  rw[BitVec.toNat_ushiftRight,Nat.shiftRight_eq_div_pow,Int.toNat_natCast,show min s IntKind.u32.bits=s from by show min s 32=s;omega]
  simp
 rw[e];exact h
def Lr{t yt:TypeId}{x y:Operand}{p:jf}{j':IntKind}{q:Int}(s:Nat)(hd:Nat.blt d n=true)(hx:ev L x=some (.int .u32 (p.toNat:Int)))(hy:ev L y=some (.int j' q))(hq:q=(s:Int))(hs:s≤32)(h:J P f n R G S all rest k ((d,.int .u32 ((p <<< s).toNat:Int))::L) H):J P f n R G S all (.cons m true ⟨some d,.binOp .shl t x y yt,ty,pos,af,gd⟩ rest) k L H:=by
 subst hq
 refine nZ hd hx hy ai ?_
 have e:IntKind.u32.wrap ((p.toNat:Int)*2 ^ (min ((s:Int).toNat) IntKind.u32.bits))=((p <<< s).toNat:Int):=by
  rw[BitVec.toNat_shiftLeft,Nat.shiftLeft_eq,Int.toNat_natCast,show min s IntKind.u32.bits=s from by show min s 32=s;omega]
  rw[show(p.toNat:Int)*2 ^ s=((p.toNat*2 ^ s:Nat):Int)from by simp,wrap32]
 rw[e];exact h
def Lm{src dst:TypeId}{ts td:Ty}{x:Operand}{j':IntKind}{c:UInt8}(hd:Nat.blt d n=true)(hx:ev L x=some (.int .u8 (c.toNat:Int)))(hs:U.get src=some ts)(GN:ts.eH = .int j')(G7:U.get dst=some td)(G6:td.eH = .int .u32)(h:J P f n R G S all rest k ((d,.int .u32 ((wB c).toNat:Int))::L) H):J P f n R G S all (.cons m true ⟨some d,.convert src dst x,ty,pos,af,gd⟩ rest) k L H:=by
 refine vu hd hx hs GN G7 G6 (by have:=c.toNat_lt;simp only[gm];omega) ?_
 rw[Oz]at h;exact h
def H6{src dst:TypeId}{ts td:Ty}{x:Operand}{j':IntKind}{p:jf}(hd:Nat.blt d n=true)(hx:ev L x=some (.int .u32 (p.toNat:Int)))(hs:U.get src=some ts)(GN:ts.eH = .int j')(G7:U.get dst=some td)(G6:td.eH = .int .u8)(h:J P f n R G S all rest k ((d,u8 (UInt8.ofNat p.toNat))::L) H):J P f n R G S all (.cons m true ⟨some d,.convert src dst x,ty,pos,af,gd⟩ rest) k L H:=by
 refine FQ hd hx hs GN G7 G6 ?_
 have e:Value.int .u8 (IntKind.u8.wrap (p.toNat:Int))=u8 (UInt8.ofNat p.toNat):=by
  simp[u8,IntKind.wrap,IntKind.bits,IntKind.signed]
 rw[e];exact h
end
end Go.SL
namespace Go.SL
open Go
namespace Sha
def Ii(x:jf)(n:Nat):jf:=x <<< (32-n) ||| x >>> n
def ks:List jf:=[
 0x428a2f98,0x71374491,0xb5c0fbcf,0xe9b5dba5,0x3956c25b,0x59f111f1,0x923f82a4,0xab1c5ed5,
 0xd807aa98,0x12835b01,0x243185be,0x550c7dc3,0x72be5d74,0x80deb1fe,0x9bdc06a7,0xc19bf174,
 0xe49b69c1,0xefbe4786,0x0fc19dc6,0x240ca1cc,0x2de92c6f,0x4a7484aa,0x5cb0a9dc,0x76f988da,
 0x983e5152,0xa831c66d,0xb00327c8,0xbf597fc7,0xc6e00bf3,0xd5a79147,0x06ca6351,0x14292967,
 0x27b70a85,0x2e1b2138,0x4d2c6dfc,0x53380d13,0x650a7354,0x766a0abb,0x81c2c92e,0x92722c85,
 0xa2bfe8a1,0xa81a664b,0xc24b8b70,0xc76c51a3,0xd192e819,0xd6990624,0xf40e3585,0x106aa070,
 0x19a4c116,0x1e376c08,0x2748774c,0x34b0bcb5,0x391c0cb3,0x4ed8aa4a,0x5b9cca4f,0x682e6ff3,
 0x748f82ee,0x78a5636f,0x84c87814,0x8cc70208,0x90befffa,0xa4506ceb,0xbef9a3f7,0xc67178f2]
def s0(x:jf):jf:=Ii x 7 ^^^ Ii x 18 ^^^ x >>> 3
def s1(x:jf):jf:=Ii x 17 ^^^ Ii x 19 ^^^ x >>> 10
def b0(x:jf):jf:=Ii x 2 ^^^ Ii x 13 ^^^ Ii x 22
def b1(x:jf):jf:=Ii x 6 ^^^ Ii x 11 ^^^ Ii x 25
def ch(e f g:jf):jf:=g ^^^ e &&& (f ^^^ g)
def maj(a b c:jf):jf:=a &&& b ||| c &&& (a ||| b)
def word(b:List UInt8)(t:Nat):jf:=wB (b.getD (4*t) 0) <<< 24 ||| wB (b.getD (4*t+1) 0) <<< 16 ||| wB (b.getD (4*t+2) 0) <<< 8 ||| wB (b.getD (4*t+3) 0)
def sched(b:List UInt8):Nat→List jf
 | 0=>[]
 | t+1 =>
  let w:=sched b t
  if t<16 then w++[word b t]else w++[w.getD (t-16) 0+w.getD (t-7) 0+s1 (w.getD (t-2) 0)+s0 (w.getD (t-15) 0)]
theorem eN(b:List UInt8)(t:Nat):(sched b t).length=t:=by
 induction t with
 | zero=>rfl
 | succ t ih=>simp only[sched];split <;> simp[ih]
theorem Gb(b:List UInt8){t u:Nat}(h:t≤u)(i:Nat)(hi:i<t):(sched b u)[i]?=(sched b t)[i]? := by
 induction u with
 | zero=>omega
 | succ u ih =>
  grind [sched,eN]
structure St where
 a:jf
 b:jf
 c:jf
 d:jf
 e:jf
 f:jf
 g:jf
 h:jf
def round(s:St)(k w:jf):St :=
 let x:=s.h+b1 s.e+ch s.e s.f s.g+k+w
 let y:=b0 s.a+maj s.a s.b s.c
 ⟨x+y,s.a,s.b,s.c,s.d+x,s.e,s.f,s.g⟩
def rounds(s:St)(w:List jf):Nat→St
 | 0=>s
 | t+1=>round (rounds s w t) (ks.getD t 0) (w.getD t 0)
def plus(s t:St):St:=⟨s.a+t.a,s.b+t.b,s.c+t.c,s.d+t.d,s.e+t.e,s.f+t.f,s.g+t.g,s.h+t.h⟩
def chunk(s:St)(b:List UInt8):St:=plus s (rounds s (sched b 64) 64)
def start:St:=⟨0x6a09e667,0xbb67ae85,0x3c6ef372,0xa54ff53a,0x510e527f,0x9b05688c,0x1f83d9ab,0x5be0cd19⟩
def chunks(s:St)(b:List UInt8):Nat→St
 | 0=>s
 | n+1=>chunk (chunks s b n) (b.drop (64*n))
def St.l(s:St):List jf:=[s.a,s.b,s.c,s.d,s.e,s.f,s.g,s.h]
def xY(n:Nat):List UInt8:=(List.range 8).map fun i=>UInt8.ofNat (n/2 ^ (56-8*i))
def pad(n:Nat):List UInt8:=128::List.replicate ((119-n%64)%64) 0++xY (8*n)
def out(s:St):List UInt8:=(List.range 32).map fun i=>UInt8.ofNat ((s.l.getD (i/4) 0) >>> (24-8*(i%4))).toNat
def E0(s:St):(out s).length=32:=by simp[out]
def msg(b:List UInt8):List UInt8:=b++pad b.length
end Sha
def fg(b:List UInt8):Dg:=⟨Sha.out (Sha.chunks Sha.start (Sha.msg b) ((Sha.msg b).length/64)),Sha.E0 _⟩
def qA(n:Nat):List UInt8:=(List.range 8).map fun i=>UInt8.ofNat (n/2 ^ (8*i))
def eS(tag:UInt8)(ps:List (List UInt8)):List UInt8:=tag::ps.flatMap fun p=>qA p.length++p
def cD(tag:UInt8)(ps:List (List UInt8)):Dg:=fg (eS tag ps)
namespace Sha
def part(b:List UInt8)(t:Nat):Nat→jf
 | 0=>0
 | j+1=>part b t j ||| wB (b.getD (4*t+j) 0) <<< (24-8*j)
def Yz(b:List UInt8)(t:Nat):part b t 4=word b t:=by
 simp[part,word]
def kH(b:List UInt8)(i:Nat):List jf:=(List.range 64).map fun t=>part b t (min 4 (i-4*t))
theorem jK(b:List UInt8)(i:Nat):(kH b i).length=64:=by simp[kH]
theorem jL(b:List UInt8)(i t:Nat)(ht:t<64):(kH b i)[t]?=some (part b t (min 4 (i-4*t))):=by
 simp[kH,ht]
theorem DV(b:List UInt8):kH b 0=List.replicate 64 0:=by
 apply List.ext_getElem?
 grind [jL,part,jK]
theorem DW(b:List UInt8)(i:Nat)(hi:i<64):(kH b i).set (i/4) (part b (i/4) (i%4) ||| wB (b.getD i 0) <<< (24-8*(i%4)))=kH b (i+1):=by
 apply List.ext_getElem?
 intro t
 rw[List.getElem?_set,jK]
 rcases Nat.lt_or_ge t 64 with h|h
 ·rw[jL b i t h,jL b (i+1) t h]
  by_cases ht:i/4=t
  ·subst ht
   rw[if_pos rfl,if_pos h]
   have e1:min 4 (i+1-4*(i/4))=i%4+1:=by omega
   grind [part]
  grind
 grind [jK,kH]
theorem CI(b:List UInt8)(t u:Nat)(h:t<u)(hu:t<16):(sched b u)[t]?=some (word b t):=by
 rw[Gb b (t:=t+1) ai t ai]
 grind [sched,eN]
theorem Hn(b:List UInt8):kH b 64=sched b 16++List.replicate 48 0:=by
 apply List.ext_getElem?
 intro t
 rcases Nat.lt_or_ge t 16 with h|h
 ·rw[jL b 64 t ai,List.getElem?_append_left (by rw[eN];exact h),CI b t 16 h h,show min 4 (64-4*t)=4 from by omega,Yz]
 ·rw[List.getElem?_append_right (by rw[eN];exact h),eN]
  rcases Nat.lt_or_ge t 64 with h2|h2
  ·rw[jL b 64 t h2,List.getElem?_replicate,if_pos ai,show min 4 (64-4*t)=0 from by omega];rfl
  grind [jK]
def ij(b:List UInt8)(t:Nat):List jf:=sched b t++List.replicate (64-t) 0
def CJ(b:List UInt8)(t:Nat)(h:t≤64):(ij b t).length=64:=by simp[ij,eN];omega
theorem lS(b:List UInt8)(t i:Nat)(h:i<t):(ij b t)[i]?=some ((sched b t).getD i 0):=by
 grind [ij,eN]
theorem An(b:List UInt8)(t:Nat)(h1:16≤t)(h2:t<64):(ij b t).set t ((sched b t).getD (t-16) 0+(sched b t).getD (t-7) 0+s1 ((sched b t).getD (t-2) 0)+s0 ((sched b t).getD (t-15) 0))=ij b (t+1):=by
 unfold ij
 rw[List.set_append_right _ _ (by rw[eN];exact Nat.le_refl _),eN,Nat.sub_self,show 64-t=(64-(t+1))+1 from by omega,List.replicate_succ,List.set_cons_zero]
 grind [sched]
def CK(b:List UInt8):ij b 64=sched b 64:=by simp[ij]
end Sha
namespace Sha
theorem Am{b b':List UInt8}(h:∀i,i<64→b.getD i 0=b'.getD i 0)(t:Nat):sched b t=sched b' t:=by
 induction t with
 | zero=>rfl
 | succ t ih =>
  grind [sched,word]
theorem Hu(s:St)(b r:List UInt8)(h:64≤b.length):chunk s (b++r)=chunk s b:=by
 grind [chunk,Am]
theorem uV(s:St)(b r:List UInt8):∀q,64*q≤b.length→chunks s (b++r) q=chunks s b q
 | 0,_=>rfl
 | q+1,h=>by
  simp only[chunks]
  rw[uV s b r q ai,List.drop_append_of_le_length ai,Hu _ _ _ (by rw[List.length_drop];omega)]
theorem uW(s:St)(b:List UInt8)(p:Nat):∀q,chunks s b (p+q)=chunks (chunks s b p) (b.drop (64*p)) q
 | 0=>rfl
 | q+1=>by
  rw[← Nat.add_assoc]
  simp only[chunks]
  rw[uW s b p q,List.drop_drop,show 64*p+64*q=64*(p+q)from by omega]
theorem F8(b:List UInt8):chunks start (msg b) ((msg b).length/64)=chunks (chunks start b (b.length/64)) (b.drop (64*(b.length/64))++pad b.length) ((b.drop (64*(b.length/64))++pad b.length).length/64):=by
 have h1:64*(b.length/64)≤b.length:=by omega
 have hl:(msg b).length/64=b.length/64+(b.drop (64*(b.length/64))++pad b.length).length/64:=by
  grind [msg]
 grind [uW,msg,uV]
end Sha
end Go.SL
namespace Go.SL
def Ma(b:List UInt8):(fg b).bs=Sha.out (Sha.chunks Sha.start (Sha.msg b) ((Sha.msg b).length/64)):=rfl
theorem Jm{l:List UInt8}{i n:Nat}{x:UInt8}(hl:l.length=n)(h:l[i]?=some x):(bV (l.take i++List.replicate (n-i) (0:UInt8))).set i (u8 x)=bV (l.take (i+1)++List.replicate (n-(i+1)) (0:UInt8)):=by
 have hi:i<n:=by
  grind
 have e1:(l.take i).length=i:=by rw[List.length_take];omega
 show((l.take i++List.replicate (n-i) (0:UInt8)).map u8).set i (u8 x)=_
 rw[← List.map_set,List.set_append_right _ _ ai,e1,Nat.sub_self,show n-i=(n-(i+1))+1 from by omega,List.replicate_succ,List.set_cons_zero,List.take_add_one,h]
 simp[bV]
def lJ(l:List UInt8):gr (bV l)=true:=by
 induction l with
 | nil=>rfl
 | cons x l ih =>
  show(Value.oneCell' (u8 x) && gr (bV l))=true
  rw[ih];rfl
end Go.SL
namespace Go.SL
open Go
def oE(l:List jf):gr (wV l)=true:=by
 induction l with
 | nil=>rfl
 | cons x l ih =>
  show(Value.oneCell' (u32 x) && gr (wV l))=true
  rw[ih];rfl
section
variable{P:Program}{U:Tr}[hU:er P U]{f:FuncId}{n:Nat}{R:Ending→World→Prop}{G:bY}{k:List Item}{L:dS}{H H':List HP}{S:World→Prop}{all:Array Oper}{rest:Pl}{ty:TypeId}{pos:String}{af:Array Edge}{gd:Option (Nat × Bool)}{m:Bool}{d:Tmp}
def Wz{t:TypeId}{x:Operand}{j:IntKind}{p:Int}(hd:Nat.blt d n=true)(hx:ev L x=some (.int j p))(hr:gm j (-p))(h:J P f n R G S all rest k ((d,.int j (-p))::L) H):J P f n R G S all (.cons m true ⟨some d,.unOp .neg t x,ty,pos,af,gd⟩ rest) k L H :=
 cJ hd (fun a ha w=>by
  have e:j.wrap (0-p) = -p:=by rw[Int.zero_sub];exact cT hr
  simp only[execOp,ha.ev hx,Sem.run_bind,Result.andThen_ok,Op.unary,Op.intArith]
  simp
  simpa using e) h
def aM{t:TypeId}{x:Operand}{b:Nat}{bH:Ty}{l:List Value}{e:TypeId}(i:Nat)(hd:Nat.blt d n=true)(hx:ev L x=some (.pointer (some ⟨b,0,none⟩)))(hi:bS H i=some (ag b (cl l e)))(ht:U.get t=some bH)(hg:bH.isAgg=true)(hl:l.length=bH.info.size)(h:J P f n R G S all rest k ((d,.agg l.toArray)::L) H):J P f n R G S all (.cons false true ⟨some d,.load t x,ty,pos,af,gd⟩ rest) k L H :=
 vt (U:=U) hd hx ht hg (by rw[hl];exact Nat.beq_refl _) (fun w hw j v hj=>by rw[cH (hw.qa hi),Nat.zero_add];exact hj) h
def df{Hs:List HP}{t:TypeId}{x:Operand}{b:Nat}{bH:Ty}{l:List Value}{e:TypeId}(i:Nat)(hd:Nat.blt d n=true)(hx:ev L x=some (.pointer (some ⟨b,0,none⟩)))(hi:bS Hs i=some (ag b (cl l e)))(ht:U.get t=some bH)(hg:bH.isAgg=true)(hl:l.length=bH.info.size)(h:J P f n R G (fun w=>Sat G w Hs) all rest k ((d,.agg l.toArray)::L) H):J P f n R G (fun w=>Sat G w Hs) all (.cons true true ⟨some d,.load t x,ty,pos,af,gd⟩ rest) k L H :=
 iX hd (fun a w ha hw=>by
  have hw:Sat G w Hs:=hw
  simp[execOp,ha.ev hx,fK (P:=P) ht hg hl (fun j v hj=>by rw[cH (hw.qa hi),Nat.zero_add];exact hj)]) h
def fp{t:TypeId}{x y:Operand}{b:Nat}{bH:Ty}{l l':List Value}{e:TypeId}(i:Nat)(hS:∀w,Sat G w H'→Sx rest S w)(hx:ev L x=some (.pointer (some ⟨b,0,none⟩)))(hy:ev L y=some (.agg l'.toArray))(ht:U.get t=some bH)(iF:l'.length=bH.info.size)(fy:l'≠[])(fT:gr l'=true)(hi:bS H i=some (ag b (cl l e)))(hll:l.length=l'.length)(hp:jk i (ag b (cl l' e)) H [] = .mk H')(h:J P f n R G S all rest k L H'):J P f n R G S all (.cons false true ⟨none,.store t x y,ty,pos,af,gd⟩ rest) k L H:=by
 have hc:aX (.agg l'.toArray)=l':=by simp[aX]
 refine j9 (U:=U) (l':=l') i hS hx hy ht (by rw[hc,iF];exact Nat.beq_refl _) (by rw[hc];cases l' with|nil=>exact absurd rfl fy|cons _ _=>rfl) (by rw[hc];exact fT) hi (by rw[hc];omega) (by rw[hc];simp[hll]) hp h
def kR{t:TypeId}{x y:Operand}{b off:Nat}{bH:Ty}{l:List Value}{u:Value}{e:TypeId}(i:Nat)(hS:∀w,Sat G w H'→Sx rest S w)(hx:ev L x=some (.pointer (some ⟨b,off,none⟩)))(hy:ev L y=some u)(ht:U.get t=some bH)(iF:Nat.beq bH.info.size 1=true)(hc:aX u=[u])(fT:gr [u]=true)(hi:bS H i=some (ag b (cl l e)))(hq:off<l.length)(hp:jk i (ag b (cl (l.set off u) e)) H [] = .mk H')(h:J P f n R G S all rest k L H'):J P f n R G S all (.cons false true ⟨none,.store t x y,ty,pos,af,gd⟩ rest) k L H:=by
 refine j9 (U:=U) (l':=l.set off u) i hS hx hy ht (by rw[hc,Nat.eq_of_beq_eq_true iF];rfl) (by rw[hc];rfl) (by rw[hc];exact fT) hi (by rw[hc];simp;omega) ?_ hp h
 rw[hc,List.set_eq_take_append_cons_drop,if_pos hq]
 simp
def iD{t elem:TypeId}{bH te:Ty}{x y:Operand}{j:IntKind}{b o len:Nat}{p:Int}(q:Nat)(hd:Nat.blt d n=true)(ht:U.get t=some bH)(hu:bH.eH = .array len elem)(he:U.get elem=some te)(hs:Nat.beq te.info.size 1=true)(hx:ev L x=some (.pointer (some ⟨b,o,none⟩)))(hy:ev L y=some (.int j p))(hq:p=(q:Int))(cq:q<len)(h:J P f n R G S all rest k ((d,.pointer (some ⟨b,o+q,none⟩))::L) H):J P f n R G S all (.cons m true ⟨some d,.indexAddr t x y,ty,pos,af,gd⟩ rest) k L H:=by
 subst hq
 refine py hd ht hu he hx hy ai ai ?_
 rw[Nat.eq_of_beq_eq_true hs,Int.toNat_natCast,Nat.mul_one]
 exact h
def vr{t:TypeId}{x:Operand}{b off:Nat}{bH:Ty}{l:List Value}{e:TypeId}{v:Value}(i q:Nat)(hd:Nat.blt d n=true)(hx:ev L x=some (.pointer (some ⟨b,off,none⟩)))(hi:bS H i=some (ag b (cl l e)))(hq:off=q)(hv:l[q]?=some v)(ht:U.get t=some bH)(hg:bH.isAgg=false)(h:J P f n R G S all rest k ((d,v)::L) H):J P f n R G S all (.cons false true ⟨some d,.load t x,ty,pos,af,gd⟩ rest) k L H:=by
 subst hq
 exact dA (U:=U) i hd hx hi (by rw[cK];exact hv) ht hg h
def jg{Hs:List HP}{t:TypeId}{x:Operand}{b off:Nat}{bH:Ty}{l:List Value}{e:TypeId}{v:Value}(i q:Nat)(hd:Nat.blt d n=true)(hx:ev L x=some (.pointer (some ⟨b,off,none⟩)))(hi:bS Hs i=some (ag b (cl l e)))(hq:off=q)(hv:l[q]?=some v)(ht:U.get t=some bH)(hg:bH.isAgg=false)(h:J P f n R G (fun w=>Sat G w Hs) all rest k ((d,v)::L) H):J P f n R G (fun w=>Sat G w Hs) all (.cons true true ⟨some d,.load t x,ty,pos,af,gd⟩ rest) k L H:=by
 subst hq
 exact fH (U:=U) i hd hx hi (by rw[cK];exact hv) ht hg h
def my{t e:TypeId}{bH te:Ty}{nn:Nat}{z:Array Value}{parts:Array (Nat × Operand)}{cs:List Value}(hd:Nat.blt d n=true)(ht:U.get t=some bH)(hu:bH.eH = .array nn e)(he:U.get e=some te)(hz:bH.info.zero=some (.agg z))(hb:rk L te.info.size z.toList parts.toList = .mk cs)(h:J P f n R G S all rest k ((d,.agg cs.toArray)::L) H):J P f n R G S all (.cons m true ⟨some d,.build t parts,ty,pos,af,gd⟩ rest) k L H:=by
 have oJ:∀a w,Has n L a→(execOp a.eval ⟨some d,.build t parts,ty,pos,af,gd⟩).run P w = .ok (.value (.agg cs.toArray)) w:=fun a w ha=>by
  have hf:=sm ha te.info.size parts.toList z.toList cs hb
  rw[Array.toArray_toList]at hf
  simp only[execOp,Instr.build,Sem.run_bind,cS ht hz,run_underlying ht,Result.andThen_ok,hu,run_sizeOf he,Value.cells,Array.toList_map,hf,Sem.run_pure]
 cases m with
 | false=>exact gV hd (fun a w ha _=>oJ a w ha) h
 | true=>exact iX hd (fun a w ha _=>oJ a w ha) h
end
end Go.SL
namespace Go.SL
open Go
def Lk{P:Program}{f:FuncId}{n:Nat}{R:Ending→World→Prop}{G:bY}{ds:List Nat}{k k0:List Item}{L:dS}{H H':List HP}{fn:Func}{F:List HP}{Post:Value→List HP→Prop}{v:Value}{Hq:List HP}(hR:Ends R G F Post)(hf:P.funcs[f]?=some fn)(hk:fz 1000 k0 = .mk (.code .ret::k))(he:ao H (ds.map (fun r=>ag r (.deferred (some [])))++H'))(kj:∀a w,Has n L a→Sat { G with ds:=ds } w H'→(results fn a.tmps).run P w = .ok v w)(dE:Post v Hq)(Fl:ao H' (Hq++F)):K P f n R { G with ds:=ds } k0 L H:=by
 refine eF 1000 hk ?_
 intro a w ha hw cs
 have GP:({ G with ds:=ds }:bY).ro=none:=hR.1.1
 rw[GP]
 obtain⟨w',kF,hs⟩:=nz (P:=P) ds { bf none f a (.code .ret::k)with mode := .returning } cs w rfl ha.2 ⟨H',hw.cn he,rfl⟩
 exact⟨_,w',_,hR.2 _ _ w' dE (by have:=kF.cn Fl;exact this),Steps.trans (.one (stepR_ret rfl)) hs,rfl,rfl,rfl,rfl,fn,hf,kj a w' ha.1 kF⟩
def tR{P:Program}{U:Tr}[hU:er P U]{n:Nat}{L:dS}{a:Act}{p b:Nat}{t e:TypeId}{bH:Ty}{u:Value}{G:bY}{w:World}{H:List HP}(i:Nat)(ha:Has n L a)(hw:Sat G w H)(hp:cR L p=some (.pointer (some ⟨b,0,none⟩)))(ht:U.get t=some bH)(hg:bH.isAgg=false)(hi:bS H i=some (ag b (cl [u] e))):(yF a.tmps (.cell p t)).run P w = .ok u w:=by
 have hc:w.cell? ⟨b,0,none⟩=some u:=by rw[cH (hw.qa hi)];rfl
 have MT:=lT (P:=P) (w:=w) ht hg hc
 have g1:a.tmps.getD p undef = .pointer (some ⟨b,0,none⟩):=by simp[Array.getD_eq_getD_getElem?,ha.2.2 p _ hp]
 simp only[yF,g1,asAddr,Sem.run_bind,Sem.run_pure,Result.andThen_ok]
 simpa[Instr.loadAt,Instr.sureAddr]using MT
def pr{P:Program}{U:Tr}[hU:er P U]{f:FuncId}{n:Nat}{R:Ending→World→Prop}{G:bY}{ds:List Nat}{k k0:List Item}{L:dS}{H H':List HP}{fn:Func}{F:List HP}{Post:Value→List HP→Prop}{p q b1 b2:Nat}{t1 t2 e1 e2:TypeId}{ty1 ty2:Ty}{u1 u2:Value}{Hq:List HP}(i j:Nat)(hR:Ends R G F Post)(hf:P.funcs[f]?=some fn)(hk:fz 1000 k0 = .mk (.code .ret::k))(Fk:fn.results.toList=[.cell p t1,.cell q t2])(hp:cR L p=some (.pointer (some ⟨b1,0,none⟩)))(hq:cR L q=some (.pointer (some ⟨b2,0,none⟩)))(Is:U.get t1=some ty1)(L3:ty1.isAgg=false)(ht2:U.get t2=some ty2)(Kw:ty2.isAgg=false)(he:ao H (ds.map (fun r=>ag r (.deferred (some [])))++H'))(hi:bS H' i=some (ag b1 (cl [u1] e1)))(hj:bS H' j=some (ag b2 (cl [u2] e2)))(dE:Post (.tuple #[u1,u2]) Hq)(Fl:ao H' (Hq++F)):K P f n R { G with ds:=ds } k0 L H:=by
 refine Lk hR hf hk he (fun a w ha hw=>?_) dE Fl
 have h1:=tR (P:=P) i ha hw hp Is L3 hi
 have h2:=tR (P:=P) j ha hw hq ht2 Kw hj
 rw[lV,Array.mapM_eq_mapM_toList,Fk]
 simp_all
def bg{P:Program}{f:FuncId}{n:Nat}{R:Ending→World→Prop}{G:bY}{k:List Item}{L:dS}{H F:List HP}{Post:Value→List HP→Prop}(hE:Ends R G F Post)(h:K P f n R { G with ds:=[] } k L H):K P f n R G k L H:=by
 have:({ G with ds:=[] }:bY)=G:=by have:=hE.1.2;cases G;simp_all
 rw[this]at h
 exact h
def vl{P:Program}{f:FuncId}{n:Nat}{R:Ending→World→Prop}{G:bY}{k:List Item}{L:dS}{H:List HP}{ps:Array Tmp}{assign body:Code}{k0:List Item}{g:Operand}{gid:FuncId}{cap:Array Value}{Pre:Nat→Nat→List HP}{Fr:List HP}(Post:Nat→Nat→(LoopState→Option Code→HP)→Value→List HP→Prop)(hk:fz 1000 k0 = .mk (.code (.rangeFunc g ps assign body)::k))(GP:G.ro=none)(hg:ev L g=some (.func (.func gid) #[] cap))(c:∀l r,aq P gid (.func (.yield l) #[] #[]::cap.toList) (aZ l .ready none f n L ps assign body r::Pre l r) (Post l r (fun st pd=>aZ l st pd f n L ps assign body r)))(he:∀l r,ao H (Pre l r++Fr))(gR:∀l r v H',Post l r (fun st pd=>aZ l st pd f n L ps assign body r) v H'→∃st pd WD,H'=aZ l st pd f n L ps assign body r::WD∧st ≠ .busy ∧
   K P f n R { G with ds:=r::G.ds } ((pd.map Item.code).toList++k) L (WD++(ag r (.deferred (some []))::Fr))):K P f n R G k0 L H :=
 qp hk GP hg c he gR
def eu{P:Program}{f:FuncId}{n:Nat}{R:Ending→World→Prop}{G:bY}{k:List Item}{L:dS}{H:List HP}{e:TypeId}{sz nn:Nat}{v:Value}{cs:List Value}(i:Nat)(hi:bS H i=some (aI e sz v nn cs))(h:Vw (aI e sz v nn cs) v nn cs→K P f n R G k L H):K P f n R G k L H :=
 nY fun⟨w,hw⟩=>by
  obtain⟨h1,_,hA⟩:=hw.jG hi
  exact h (Vw.lZ e sz v nn cs ⟨h1,hA⟩)
theorem EO{e:TypeId}{sz nn c:Nat}{a:Option Addr}{cs:List Value}{h:Hp}(hs:aI e sz (.slice a nn c) nn cs h):nn≤c:=by
 obtain⟨_,⟨a',hv,hn,_⟩|⟨b,o,cap,pre,bL,hv,hp,hn,hc,_⟩⟩:=hs
 ·omega
 grind
def FM{P:Program}{f:FuncId}{n:Nat}{R:Ending→World→Prop}{G:bY}{k:List Item}{L:dS}{H:List HP}{S:World→Prop}{all:Array Oper}{rest:Pl}{e:TypeId}{sz nn c:Nat}{a:Option Addr}{cs:List Value}(i:Nat)(hi:bS H i=some (aI e sz (.slice a nn c) nn cs))(h:Vw (aI e sz (.slice a nn c) nn cs) (.slice a nn c) nn cs→nn≤c→J P f n R G S all rest k L H):J P f n R G S all rest k L H :=
 yl fun w hw=>by
  obtain⟨h1,_,hA⟩:=hw.jG hi
  exact h (Vw.lZ e sz _ nn cs ⟨h1,hA⟩) (EO hA)
def Ge{P:Program}{U:Tr}[hU:er P U]{n:Nat}{G:bY}{L:dS}{H:List HP}{fn:Func}{p b:Nat}{t e:TypeId}{bH:Ty}{cs:List Value}{a:Act}{w:World}(i:Nat)(ha:pz G n L a)(hw:Sat G w H)(Fk:fn.results.toList=[.cell p t])(hp:cR L p=some (.pointer (some ⟨b,0,none⟩)))(ht:U.get t=some bH)(hg:bH.isAgg=true)(hl:cs.length=bH.info.size)(hi:bS H i=some (ag b (cl cs e))):(results fn a.tmps).run P w = .ok (.agg cs.toArray) w:=by
 have hc:∀j v,cs[j]?=some v→w.cell? ⟨b,0+j,none⟩=some v:=fun j v hj=>by rw[cH (hw.qa hi),Nat.zero_add];exact hj
 have MT:=fK (P:=P) (w:=w) ht hg hl hc
 have VL:(loadVar t ⟨b,0,none⟩).run P w = .ok (.agg cs.toArray) w:=by simpa[Instr.loadAt,Instr.sureAddr]using MT
 have g1:a.tmps.getD p undef = .pointer (some ⟨b,0,none⟩):=by simp[Array.getD_eq_getD_getElem?,ha.get hp]
 rw[lV,Array.mapM_eq_mapM_toList,Fk]
 simp only[Sem.run_bind,Sem.run_map,List.mapM_cons,List.mapM_nil,yF,g1,asAddr,Sem.run_pure,Result.andThen_ok,VL]
 simp
def mq{P:Program}{U:Tr}[hU:er P U]{f:FuncId}{n:Nat}{R:Ending→World→Prop}{G:bY}{k k0:List Item}{L:dS}{H:List HP}{fn:Func}{F:List HP}{Post:Value→List HP→Prop}{p b:Nat}{t e:TypeId}{bH:Ty}{cs:List Value}(i:Nat)(hR:Ends R G F Post)(hf:P.funcs[f]?=some fn)(hk:fz 1000 k0 = .mk (.code .ret::k))(Fk:fn.results.toList=[.cell p t])(hp:cR L p=some (.pointer (some ⟨b,0,none⟩)))(ht:U.get t=some bH)(hg:bH.isAgg=true)(hl:cs.length=bH.info.size)(hi:bS H i=some (ag b (cl cs e))){Hq:List HP}(dE:Post (.agg cs.toArray) Hq)(he:ao H (Hq++F)):K P f n R G k0 L H:=by
 refine eF 1000 hk ?_
 intro a w ha hw vM
 have oJ:=Ge (P:=P) i ha hw Fk hp ht hg hl hi
 rw[hR.1.1]
 exact⟨_,w,_,hR.2 _ _ w dE (hw.cn he),.one (stepR_ret rfl),rfl,rfl,by show a.defers=[];rw[ha.2,hR.1.2];rfl,rfl,fn,hf,oJ⟩
end Go.SL
namespace Go.Proofs.YtnkfkabokmcgoaaGreatDoor
open Go Go.SL
attribute [local irreducible] J K aq Ends ag aI aC bF aW aP a6 aZ bN
def Je(n:Nat)(h1:1≤n)(h2:n≤31):IntKind.u64.wrap ((BitVec.ofInt IntKind.u64.bits (IntKind.u64.wrap (-(n:Int))) &&& BitVec.ofInt IntKind.u64.bits 31).toNat:Int)=((32-n:Nat):Int):=by
 have:∀n:Nat,n<32→1≤n→IntKind.u64.wrap ((BitVec.ofInt 64 (IntKind.u64.wrap (-(n:Int))) &&& BitVec.ofInt 64 31).toNat:Int)=((32-n:Nat):Int):=by decide
 exact this n ai h1
def rz(x:jf)(n:Nat)(h1:1≤n)(h2:n≤31):aq Tryz.prog 388 [u32 x,.int .i64 (-(n:Int))] [] (fun r H=>r=u32 (Sha.Ii x n)∧H=[]):=by
 unfold u32
 refine aq.aj Tryz.func388 Tryz.ntmps388 fun G F R hE=>?_
 refine go ?_
 refine gF ?_
 refine jO zr zr zr zr zr zr ?_
 refine qE ?_
 refine aV 5 ((.int .u64 ((32-n:Nat):Int))) rfl ((congrArg (Value.int .u64) (Je n h1 h2))) (go ?_)
 refine Lr (32-n) zr zr zr zr ai ?_
 (repeat(first|refine fq ?_|refine zJ n zr zr zr ai ai ?_|refine Ls zr zr zr ?_))
 refine ad hE Tryz.func388 zr zr ⟨rfl,rfl⟩
def gw(x:jf)(n:Nat)(h1:1≤n)(h2:n≤31):aq Tryz.prog 316 [u32 x,.int .i64 (n:Int)] [] (fun r H=>r=u32 (Sha.Ii x n)∧H=[]):=by
 refine aq.aj Tryz.func316 Tryz.ntmps316 fun G F R hE=>?_
 refine go ?_
 refine Wz zr zr (by simp only[gm];omega) ?_
 refine aw (rz x n h1 h2) ?_
 refine go ?_
 refine ad hE Tryz.func316 zr zr ⟨rfl,rfl⟩
theorem CD(A:HP)(v:Value)(b:List UInt8)(hv:fb A v b)(On:64≤b.length) :
  aq Tryz.prog 315 [v] [A] (fun r H=>r = .agg (wV (Sha.sched b 64)).toArray∧H=[A]):=by
 obtain⟨a,c,rfl,hc⟩:=hv.2
 have hf:=hv.front 64 On
 refine aq.aj Tryz.func315 Tryz.ntmps315 fun G F R hE=>?_
 refine aH rfl ?_
 refine az zr zr zr bh ?_
 intro b2
 refine qE ?_
 (refine aH rfl ?_;refine qE ?_)
 refine az zr zr zr bh ?_
 intro b3
 refine go ?_
 refine bu (p:=0) (q:=64) zr zr zr zr zr zr zr ai ai (.inr ai) ?_
 refine aD 10 ((.slice (sliceAt a c 0 1) 64 c)) rfl (rfl) (go ?_)
 refine bn (fun i:Nat=>i≤64) (fun i=>64-i)
  (fun i=>[(2,ptr b2),(3,ptr b3),(10,.slice (sliceAt a c 0 1) 64 c),(11,.int .i64 64),(12,.int .i64 (i:Int))])
  (fun i=>ag b3 (cl (wV (Sha.kH b i)) 402)::ag b2 (cl (wV (List.replicate 64 0)) 402)::A::F) 0 (Nat.zero_le _) rfl bQ (by rw[Sha.DV];exact ah) ?_
 rintro i hi ih
 refine go ?_
 refine au zr zr ?_ ?_
 ·intro cq
  have xF:i<64:=by omega
  obtain⟨x,hx⟩:∃x,b[i]?=some x:=⟨b[i]' ai,by simp⟩
  have hxd:b.getD i 0=x:=by rw[List.getD_eq_getElem?_getD,hx];rfl
  have AW:(bV (b.take 64))[i]?=some (u8 x):=by
   grind [u7]
  obtain⟨bb,oo,cc,dW⟩:=hf.1.some (by intro e;rw[e]at AW;simp at AW)
  simp only[Value.slice.injEq,true_and]at dW
  obtain⟨dW,-,rfl⟩:=dW
  have hlen:(b.take 64).length=64:=by rw[List.length_take];omega
  have hf2:=hf.1
  rw[dW,hlen]at hf2
  rw[dW]
  refine go ?_
  refine bC i zr zr zr zr zr zr zr zr xF ?_
  refine aT ?_
  refine aN 2 i zr zr zr hf2 rfl AW zr zr (go ?_)
  refine aJ (fun w=>Sat G w ([ag b3 (cl (wV (Sha.kH b i)) 402)])) (cM 0 13 (.act 13 .nil)) rfl ae ae ae cY ?_
  refine go ?_
  have hg:=Sha.jL b i (i/4) ai
  have hq:(i:Int)/4=((i/4:Nat):Int):=by omega
  have hr:24-8*((i:Int)%4)=((24-8*(i%4):Nat):Int):=by omega
  have acm:(wV (Sha.kH b i)).length=64:=by rw[tn,Sha.jK]
  (repeat(first|refine fq ?_|refine sx zr zr zr ai ai (by simp only[gm];omega) ?_|refine sw zr zr zr ai ai ?_|refine hG zr zr zr (by simp only[gm];omega) ?_|refine iD (U:=aU) (i/4) zr zr zr zr zr zr zr hq ai ?_|(refine aT ?_;refine jg (U:=aU) 0 (i/4) zr zr zr (Nat.zero_add _) (mZ hg) zr zr ?_)|(refine gF ?_;refine Lm (U:=aU) zr zr zr zr zr zr ?_)|refine Lr (24-8*(i%4)) zr zr zr hr ai ?_|refine Ls zr zr zr ?_))
  refine aY ?_
  refine kR (U:=aU) 0 eW zr zr zr zr zr zr zr (by rw[tn,Sha.jK];omega) rfl ?_
  rw[show 0+i/4=i/4 from Nat.zero_add _]
  refine go ?_
  have dD:=Sha.DW b i xF
  rw[hxd]at dD
  have jX:(wV (Sha.kH b i)).set (i/4) (.int .u32 (((Sha.part b (i/4) (min 4 (i-4*(i/4))) ||| wB x <<< (24-8*(i%4))).toNat:Nat):Int))=wV (Sha.kH b (i+1)):=by
   rw[← dD,show min 4 (i-4*(i/4))=i%4 from by omega]
   exact IG _ _ _
  rw[jX,← dW]
  refine aK ih (i+1) rfl ai ai bQ ah
 intro ek
 have G3:i=64:=by omega
 subst G3
 clear ih
 refine go ?_
 refine bn (fun t:Nat=>16≤t∧t≤64) (fun t=>64-t)
  (fun t=>[(2,ptr b2),(3,ptr b3),(6,.int .i64 (t:Int))])
  (fun t=>ag b3 (cl (wV (Sha.ij b t)) 402)::ag b2 (cl (wV (List.replicate 64 0)) 402)::A::F) 16 ⟨ai,ai⟩ rfl bQ (by rw[Sha.Hn];exact ah) ?_
 rintro t⟨Is,ht2⟩ ih
 have hlen:=Sha.CJ b t ht2
 refine go ?_
 refine au zr zr ?_ ?_
 ·intro cq
  have ht:t<64:=by omega
  have g2:=Sha.lS b t (t-2) ai
  have g7:=Sha.lS b t (t-7) ai
  have g15:=Sha.lS b t (t-15) ai
  have g16:=Sha.lS b t (t-16) ai
  refine go ?_
  refine aJ (fun w=>Sat G w ([ag b3 (cl (wV (Sha.ij b t)) 402)])) (cM 0 10 .nil) rfl ae ae ae cY ?_
  refine go ?_
  (repeat(first|refine fq ?_|refine iD (U:=aU) (t-2) zr zr zr zr zr zr zr ai ai ?_|refine iD (U:=aU) (t-15) zr zr zr zr zr zr zr ai ai ?_|(refine aT ?_;first|refine jg (U:=aU) 0 (t-2) zr zr zr (Nat.zero_add _) (mZ g2) zr zr ?_|refine jg (U:=aU) 0 (t-15) zr zr zr (Nat.zero_add _) (mZ g15) zr zr ?_)))
  refine aw (gw _ 17 ai ai) ?_
  refine go ?_
  refine aw (gw _ 19 ai ai) ?_
  (repeat(first|refine fq ?_|refine pw zr zr zr ?_|refine zJ 10 zr zr zr zr ai ?_))
  refine aw (gw _ 7 ai ai) ?_
  refine go ?_
  refine aw (gw _ 18 ai ai) ?_
  (repeat(first|refine fq ?_|refine pw zr zr zr ?_|refine zJ 3 zr zr zr zr ai ?_))
  refine aJ (fun w=>Sat G w ([ag b3 (cl (wV (Sha.ij b t)) 402)])) (cM 0 15 (.act 15 .nil)) rfl ae ae ae cY ?_
  refine go ?_
  (repeat(first|refine fq ?_|refine iD (U:=aU) (t-16) zr zr zr zr zr zr zr ai ai ?_|refine iD (U:=aU) (t-7) zr zr zr zr zr zr zr ai ai ?_|refine iD (U:=aU) t zr zr zr zr zr zr zr zr ht ?_|(refine aT ?_;first|refine jg (U:=aU) 0 (t-16) zr zr zr (Nat.zero_add _) (mZ g16) zr zr ?_|refine jg (U:=aU) 0 (t-7) zr zr zr (Nat.zero_add _) (mZ g7) zr zr ?_)|refine zM zr zr zr ?_))
  refine aY ?_
  refine kR (U:=aU) 0 eW zr zr zr zr zr zr zr (by rw[tn,hlen];omega) rfl ?_
  rw[show 0+t=t from Nat.zero_add _]
  refine go ?_
  have jX:=(IG (Sha.ij b t) t _).trans (congrArg wV (Sha.An b t Is ht))
  refine ak (H':=ag b3 (cl (wV (Sha.ij b (t+1))) 402)::ag b2 (cl (wV (List.replicate 64 0)) 402)::A::F) (by rw[← jX];exact ao.refl _) ?_
  refine aK ih (t+1) rfl ⟨ai,ai⟩ ai bQ ah
 intro ek
 have Vs:t=64:=by omega
 subst Vs
 rw[Sha.CK]
 have DP:(wV (Sha.sched b 64)).length=64:=by rw[tn,Sha.eN]
 have fT:gr (wV (Sha.sched b 64))=true:=oE _
 generalize wV (Sha.sched b 64)=W at DP fT hE ⊢
 refine go ?_
 refine aM (U:=aU) 0 zr zr zr zr zr DP ?_
 refine fp (U:=aU) 1 eW rfl rfl rfl DP (by intro e;rw[e]at DP;cases DP) fT rfl (by rw[DP];simp[tn]) rfl ?_
 refine go ?_
 refine mq (U:=aU) 1 hE Tryz.func315 zr zr zr zr zr DP rfl ⟨rfl,rfl⟩ ah
def pt(X:HP):Prop:=Vw X (.slice (some ⟨0,0,none⟩) 64 64) 64 (wV Sha.ks)
def pt.mono{A B:HP}(h:pt A)(Z1:∀h,B h→∃h',sub h' h∧A h'):pt B:=Vw.mono h Z1
def Vg{t:Nat}(h:t<64):Sha.ks[t]?=some (Sha.ks.getD t 0):=by
 rw[List.getD_eq_getElem?_getD,List.getElem?_eq_getElem (show t<Sha.ks.length from h)];rfl
def WG(s:Sha.St):Value := .agg (wV s.l).toArray
def Ae(A:HP)(hK:pt A)(v:Value)(b:List UInt8)(hv:fb A v b)(On:64≤b.length)(s:Sha.St) :
  aq Tryz.prog 216 [WG s,v] [A] (fun r H=>r=WG (Sha.chunk s b)∧H=[A]):=by
 have AZ:=CD A v b hv On
 obtain⟨a,c,rfl,hc⟩:=hv.2
 unfold pt at hK
 have lg:(Sha.sched b 64).length=64:=Sha.eN b 64
 have hch:Sha.chunk s b=Sha.plus s (Sha.rounds s (Sha.sched b 64) 64):=rfl
 rw[hch]
 generalize Sha.sched b 64=W at AZ lg ⊢
 obtain⟨s1,s2,s3,s4,s5,s6,s7,s8⟩:=s
 dsimp only [WG,Sha.St.l,wV,List.map_cons,List.map_nil]
 refine aq.aj Tryz.func216 Tryz.ntmps216 fun G F R hE=>?_
 refine go ?_
 refine bp zr zr bh ?_
 intro b2
 refine go ?_
 refine az zr zr zr bh ?_
 intro b4
 refine go ?_
 refine aJ (fun w=>Sat G w ([ag b2 (cl [u32 s1,u32 s2,u32 s3,u32 s4,u32 s5,u32 s6,u32 s7,u32 s8] 321)])) (cM 0 24 .nil) rfl ae ae ae cY ?_
 refine go ?_
 (repeat(first|refine fq ?_|refine py (U:=aU) zr zr zr zr zr zr ai ai ?_))
 refine aw AZ ?_
 refine go ?_
 generalize hs:(⟨s1,s2,s3,s4,s5,s6,s7,s8⟩:Sha.St)=s at hE
 refine bn (fun t:Nat=>t≤64) (fun t=>64-t)
  (fun t=>[(2,ptr b2),(4,ptr b4),(34,.agg (wV W).toArray),(35,.int .i64 (t:Int)),(5,u32 (Sha.rounds s W t).a),(6,u32 (Sha.rounds s W t).b),(7,u32 (Sha.rounds s W t).c),(8,u32 (Sha.rounds s W t).d),(9,u32 (Sha.rounds s W t).e),(10,u32 (Sha.rounds s W t).f),(11,u32 (Sha.rounds s W t).g),(12,u32 (Sha.rounds s W t).h)])
  (fun _=>ag b4 (cl (wV (List.replicate 8 0)) 321)::ag b2 (cl [u32 s1,u32 s2,u32 s3,u32 s4,u32 s5,u32 s6,u32 s7,u32 s8] 321)::A::F) 0 (Nat.zero_le _) rfl (by subst hs;repeat(first|exact AU|refine xx rfl ?_)) ah ?_
 rintro t ht ih
 refine go ?_
 refine au zr zr ?_ ?_
 ·intro cq
  have Is:t<64:=by omega
  have hr:Sha.rounds s W (t+1)=Sha.round (Sha.rounds s W t) (Sha.ks.getD t 0) (W.getD t 0):=rfl
  generalize Sha.rounds s W t=T at hr ⊢
  obtain⟨ta,tb,tc,td,te,tf,tg,th⟩:=T
  have hwg:(wV W).toArray.toList[((t:Nat):Int).toNat]?=some (u32 (W.getD t 0)):=by
   rw[Int.toNat_natCast]
   exact mZ (by rw[List.getD_eq_getElem?_getD,List.getElem?_eq_getElem ai];rfl)
  have hkg:=mZ (Vg Is)
  generalize Sha.ks.getD t 0=kt at hr hkg
  generalize W.getD t 0=wt at hr hwg
  simp only
  refine go ?_
  refine ez zr zr zr zr zr zr zr zr ai ai hwg (go ?_)
  refine aJ (fun w=>Sat G w ([A])) (.st 0 (.st 1 (.st 3 (.st 6 (cM 10 7 (cM 18 3 (.st 22 (.act 2 (.act 4 (.st 5 (.act 7 (.st 8 (.st 9 (.st 17 (.st 21 (.st 23 (.st 24 .nil))))))))))))))))) rfl ae ae ae cY ?_
  refine go ?_
  (repeat(first|refine fq ?_|refine iD (U:=aU) t zr zr zr zr zr zr zr zr Is ?_|(refine aT ?_;refine dp 0 t zr zr zr hK rfl hkg zr zr ?_)|refine pw zr zr zr ?_|refine LB zr zr zr ?_))
  refine bP ((gw _ 6 ai ai)) ?_
  refine go ?_
  refine bP ((gw _ 11 ai ai)) ?_
  refine go ?_
  (repeat((refine pw zr zr zr ?_)))
  refine bP ((gw _ 25 ai ai)) ?_
  (repeat(first|refine fq ?_|refine pw zr zr zr ?_|refine zM zr zr zr ?_))
  refine aw (gw _ 2 ai ai) ?_
  refine go ?_
  refine aw (gw _ 13 ai ai) ?_
  (repeat(first|refine fq ?_|refine pw zr zr zr ?_))
  refine aw (gw _ 22 ai ai) ?_
  (repeat(first|refine fq ?_|refine pw zr zr zr ?_|refine LB zr zr zr ?_|refine Ls zr zr zr ?_|refine zM zr zr zr ?_))
  ((refine aV 5 ((u32 (Sha.rounds s W (t+1)).a)) rfl ((by rw[hr];rfl)) ?_))
  ((refine aV 6 ((u32 (Sha.rounds s W (t+1)).b)) rfl ((by rw[hr];rfl)) ?_))
  ((refine aV 7 ((u32 (Sha.rounds s W (t+1)).c)) rfl ((by rw[hr];rfl)) ?_))
  ((refine aV 8 ((u32 (Sha.rounds s W (t+1)).d)) rfl ((by rw[hr];rfl)) ?_))
  ((refine aV 9 ((u32 (Sha.rounds s W (t+1)).e)) rfl ((by rw[hr];rfl)) ?_))
  ((refine aV 10 ((u32 (Sha.rounds s W (t+1)).f)) rfl ((by rw[hr];rfl)) ?_))
  ((refine aV 11 ((u32 (Sha.rounds s W (t+1)).g)) rfl ((by rw[hr];rfl)) ?_))
  ((refine aV 12 ((u32 (Sha.rounds s W (t+1)).h)) rfl ((by rw[hr];rfl)) ?_))
  refine aK ih (t+1) rfl ai ai bQ ah
 intro ek
 have Vs:t=64:=by omega
 subst Vs
 have Cn:WG (Sha.plus s (Sha.rounds s W 64)) = .agg (List.map u32 [(Sha.plus s (Sha.rounds s W 64)).a,(Sha.plus s (Sha.rounds s W 64)).b,(Sha.plus s (Sha.rounds s W 64)).c,(Sha.plus s (Sha.rounds s W 64)).d,(Sha.plus s (Sha.rounds s W 64)).e,(Sha.plus s (Sha.rounds s W 64)).f,(Sha.plus s (Sha.rounds s W 64)).g,(Sha.plus s (Sha.rounds s W 64)).h]).toArray:=rfl
 rw[← Cn]at hE
 clear Cn hch ih
 generalize Sha.rounds s W 64=T at hE ⊢
 obtain⟨ta,tb,tc,td,te,tf,tg,th⟩:=T
 subst hs
 simp only
 refine go ?_
 (repeat(first|refine fq ?_|refine py (U:=aU) zr zr zr zr zr zr ai ai ?_|refine zM zr zr zr ?_))
 refine my (U:=aU) zr zr zr zr zr zr (go ?_)
 refine mq (U:=aU) 0 hE Tryz.func216 zr zr zr zr zr zr zr ⟨rfl,rfl⟩ ah
end Go.Proofs.YtnkfkabokmcgoaaGreatDoor
namespace Go.SL
open Go
def dV(x:Dg):Value := .agg (dC x).toArray
theorem Wj{a b:Dg}(h:dV a=dV b):a=b:=by
 grind [dV,Wk]
section
variable{P:Program}
theorem Nu{kt e:TypeId}(hu:P.underlying kt=some (.array 32 e))(he:P.underlying e=some (.int .u8))(hc:P.cellsOf e=1)(em:Bool)(k:Dg)(w:World):(Instr.checkKey em 10000 kt (dV k)).run P w = .ok () w:=by
 obtain⟨i,hi⟩:=info_of_underlying he
 have ML:P.plainKey e=true:=by unfold Program.plainKey;rw[he]
 have iF:(sizeOf e).run P w = .ok 1 w:=by
  rw[Go.run_sizeOf w hi];congr 1
 rw[show(10000:Nat)=9999+1 from rfl,Instr.checkKey]
 simp only[Sem.run_bind,Go.run_underlying hu,Result.andThen_ok,dV]
 simp only[Std.Legacy.Range.forIn_eq_forIn_range',Std.Legacy.Range.size,Nat.sub_zero,Nat.add_one_sub_one,Nat.div_one]
 have each:∀j∈List.range' 0 32,j<32:=fun j hj=>by simp[List.mem_range']at hj;omega
 generalize List.range' 0 32=is at each
 induction is with
 | nil=>simp
 | cons j is ih =>
  have hj:=each j (by simp)
  have cG:(dC k).toArray[j*1]?=some (u8 (k.at j)):=by
   rw[Nat.mul_one,eG]
   simp only[List.getElem?_toArray]
   rw[show bV k.bs=k.bs.map u8 from rfl,List.getElem?_map,List.getElem?_eq_getElem (by rw[k.len];exact hj)]
   grind [Dg.at]
  have p1:(part e (dC k).toArray (j*1)).run P w = .ok (u8 (k.at j)) w:=run_part_plain w ML cG
  have p2:(Instr.checkKey em 9999 e (u8 (k.at j))).run P w = .ok () w:=by
   rw[show(9999:Nat)=9998+1 from rfl,Instr.checkKey]
   simp[Go.run_underlying he,u8]
  simp_all
def Ap{kt e:TypeId}(hu:P.underlying kt=some (.array 32 e))(he:P.underlying e=some (.int .u8))(hc:P.cellsOf e=1)(a b:Dg)(w:World):(Op.equal kt (dV a) (dV b)).run P w = .ok (decide (a=b)) w :=
 lU hu he hc a b 9998 w
theorem YD{kt e:TypeId}(hu:P.underlying kt=some (.array 32 e))(he:P.underlying e=some (.int .u8))(hc:P.cellsOf e=1):iz P kt dV where
 inj _ _:=Wj
 check em k w:=Nu hu he hc em k w
 find k l ks w h:=by
  rw[run_findKey_eq (w:=w) (by rw[hu])]
  have key:∀(l:List MapEntry) (ks:List Dg) (o:Nat),l.map (·.key)=ks.map dV →
    ∃r,(Instr.findAsking kt (dV k) l o).run P w = .ok r w∧((r=none∧k ∉ ks)∨∃i e,r=some (o+i,e.val)∧l[i]?=some e∧ks[i]?=some k∧∀j,j<i→ks[j]? ≠ some k):=by
   intro l
   induction l with
   | nil =>
    intro ks o h
    have:ks=[]:=by simpa using h.symm
    subst this
    exact⟨none,by simp[Instr.findAsking],.inl ⟨rfl,by simp⟩⟩
   | cons en l ih =>
    intro ks o h
    cases ks with
    | nil=>simp at h
    | cons c ks =>
     simp only[List.map_cons,List.cons.injEq]at h
     obtain⟨h1,h2⟩:=h
     have hq:(Op.equal kt (dV k) en.key).run P w = .ok (decide (k=c)) w:=by rw[h1];exact Ap hu he hc k c w
     by_cases Kr:k=c
     ·subst Kr
      refine⟨some (o+0,en.val),by simp[Instr.findAsking,hq],.inr ⟨0,en,rfl,by simp,by simp,fun j hj=>absurd hj ai⟩⟩
     ·obtain⟨r,hr,gB⟩:=ih ks (o+1) h2
      refine⟨r,by simp[Instr.findAsking,hq,Kr,hr],?_⟩
      rcases gB with⟨rfl,hn⟩|⟨i,e',rfl,hi,hk,hj⟩
      ·grind
      ·refine .inr ⟨i+1,e',by congr 2;omega,by simpa using hi,by simpa using hk,fun j nC=>?_⟩
       cases j with
       | zero=>simp;exact fun h=>Kr h.symm
       | succ j=>simpa using hj j ai
  obtain⟨r,hr,gB⟩:=key l ks 0 h
  grind
 bits k:=by
  rw[show(10000:Nat)=9999+1 from rfl]
  simp only[dV,Instr.sameBits,beq_self_eq_true,Bool.true_and,List.all_eq_true]
  have:∀(l:List UInt8),∀x∈((bV l).zip (bV l)),Instr.sameBits 9999 x.1 x.2=true:=by
   intro l
   induction l with
   | nil=>simp[bV]
   | cons c l ih =>
    intro x hx
    simp only[bV,List.map_cons,List.zip_cons_cons,List.mem_cons]at hx
    rcases hx with rfl|hx
    ·simp[u8,Instr.sameBits]
    ·exact ih x hx
  grind [eG]
end
end Go.SL
