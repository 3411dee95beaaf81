import Derived.Test.YtlionahpheehaaaGreatDoorQTP2
import Derived.Test.YtlionahpheehaaaGreatDoorQTP3
import Derived.Test.YtlionahpheehaaaGreatDoorQTP5
import Derived.Test.YtlionahpheehaaaGreatDoorQTP6
import Derived.Test.YtlionahpheehaaaGreatDoorQTP9
set_option linter.unusedSimpArgs false
set_option linter.unusedVariables false
set_option maxRecDepth 20000
set_option linter.defProp false
namespace Go.Proofs.YtlionahpheehaaaGreatDoor
open Go Go.SL
attribute [local irreducible] J K aH Ends ak aK aV bX bj aS bp bD cp
theorem Mj{σ:Type}(I:σ→HP)(V:HP)(v:Value)(me:List Value)(hv:Vw V v me.length me)(hn:me.length≤1000000000)(ss:List (σ→Nat→σ→Prop))(hlen:ss.length=me.length)(Q:Nat→σ→Prop)(cN:∀(i:Nat) (fv:Value) (s:σ→Nat→σ→Prop),me[i]?=some fv→ss[i]?=some s→∃g fi cap,fv = .func (.func g) fi cap∧∀x,Q i x→aH Tryz.prog g (fi.toList++cap.toList) [I x] (fun r H=>∃(e:Nat) (x':σ),r = .int .i64 (e:Int)∧H=[I x']∧s x e x'∧(e=0→Q (i+1) x')))(x0:σ)(hQ:Q 0 x0) :
  aH Tryz.prog 182 [v] [V,I x0] (fun r H=>∃(e:Nat) (x':σ),r = .int .i64 (e:Int)∧H=[V,I x']∧jG ss x0 e x'):=by
 obtain⟨a,c,rfl⟩:=hv.shape
 refine aH.aC Tryz.func182 Tryz.ntmps182 fun G F R hE=>?_
 refine go ?_
 refine bF (fun y:Nat × σ=>y.1≤me.length∧Q y.1 y.2∧∀e x',jG (ss.drop y.1) y.2 e x'→jG ss x0 e x') (fun y=>me.length-y.1)
  (fun y=>[(0,.slice a me.length c),(6,.slice a me.length c),(7,.int .i64 (me.length:Int)),(8,.int .i64 (y.1:Int))])
  (fun y=>V::I y.2::F) (0,x0) ⟨Nat.zero_le _,hQ,fun _ _ h=>h⟩ rfl cF ad ?_
 rintro⟨i,x⟩⟨hi,hq,hr⟩ ih
 simp only at hi hq hr
 refine go ?_
 refine aB zr zr ?_ ?_
 ·intro dk
  simp only at dk
  have l9:i<me.length:=by omega
  obtain⟨fv,mA⟩:∃fv,me[i]?=some fv:=⟨me[i],List.getElem?_eq_getElem l9⟩
  obtain⟨s,hs⟩:∃s,ss[i]?=some s:=⟨ss[i],List.getElem?_eq_getElem aj⟩
  obtain⟨g,fi,cap,rfl,hc⟩:=cN i fv s mA hs
  have ke:ss.drop i=s::ss.drop (i+1):=by
   rw[List.drop_eq_getElem_cons aj]
   grind
  obtain⟨b0,o0,c0,tT⟩:=hv.some (by intro h;rw[h]at l9;simp at l9)
  simp only[Value.slice.injEq]at tT
  obtain⟨rfl,-,rfl⟩:=tT
  refine go ?_
  refine bW i zr zr zr zr zr zr zr zr l9 ?_
  refine aZ 0 i zr zr zr hv rfl mA zr zr (go ?_)
  refine zX zr zr zr (by simp) (hc x hq) ad ?_ bI
  rintro _ _⟨e,x',rfl,rfl,J2,Q6⟩
  refine go ?_
  refine aB zr zr ?_ ?_
  ·intro dw
   have he:e≠0:=by omega
   refine go ?_
   ((refine ah hE Tryz.func182 zr zr ⟨e,x',rfl,rfl,hr e x' (by rw[ke];exact⟨e,x',J2,.inl ⟨he,rfl,rfl⟩⟩)⟩))
  ·intro heq
   have he:e=0:=by omega
   refine go ?_
   refine aQ ih (i+1,x') rfl (⟨by simp only;omega,Q6 he,fun e2 x2 h2=>hr e2 x2 (by rw[ke];exact⟨e,x',J2,.inr ⟨he,h2⟩⟩)⟩) (by simp only;omega) cF ad
 ·intro fO
  simp only at fO
  have e9:i=me.length:=by omega
  subst e9
  refine go ?_
  ((refine ah hE Tryz.func182 zr zr ⟨0,x,rfl,rfl,hr 0 x (by rw[List.drop_eq_nil_of_le aj];exact⟨rfl,rfl⟩)⟩))
attribute [local irreducible] aJ
def Qg(bd jb xj xf xw xb:Nat)(name fresh:ByteArray)(wa ba:Option Addr)(wc bl bc:Nat)(whole:List UInt8)(br:Bool)(A:Ab)(n s c:Int)(cN:A.aF.length≤1000000000) :
  aH Tryz.prog 181 [ptr xj,ptr xf] ([aJ bd A,ak jb (cl [ptr bd,.string name,.int .i64 n,.int .i64 s,.int .i64 c,.bool br] 188),ak xj (cl [ptr jb] 95),ak xf (cl [.string fresh] 9),ak xw (cl [.slice wa whole.length wc] 22),ak xb (cl [.slice ba bl bc] 22),aK 5 1 (.slice wa whole.length wc) whole.length (bV whole)]) (fun r H=>∃(e:Nat) (A1:Ab),e=(A.remove (isName fresh) fresh).1∧A1=(A.remove (isName fresh) fresh).2∧r = .int .i64 (e:Int)∧H=[aJ bd A1,ak jb (cl [ptr bd,.string name,.int .i64 n,.int .i64 s,.int .i64 c,.bool br] 188),ak xj (cl [ptr jb] 95),ak xf (cl [.string fresh] 9),ak xw (cl [.slice wa whole.length wc] 22),ak xb (cl [.slice ba bl bc] 22),aK 5 1 (.slice wa whole.length wc) whole.length (bV whole)]):=by
 refine aH.aC Tryz.func181 Tryz.ntmps181 fun G F R hE=>?_
 refine go ?_
 refine aO (fun w=>Sat G w ([ak jb (cl [ptr bd,.string name,.int .i64 n,.int .i64 s,.int .i64 c,.bool br] 188),ak xj (cl [ptr jb] 95),ak xf (cl [.string fresh] 9),ak xw (cl [.slice wa whole.length wc] 22),aK 5 1 (.slice wa whole.length wc) whole.length (bV whole)])) (dM 0 5 (.act 5 (.st 6 .nil))) rfl aw aw aw dI ?_
 refine go ?_
 refine Vd (pE bd A fresh cN) ?_
 refine go ?_
 refine ah hE Tryz.func181 zr zr ⟨_,_,rfl,rfl,rfl,rfl⟩
def Qe(bd jb xj xf xw xb:Nat)(name fresh:ByteArray)(wa ba:Option Addr)(wc bl bc:Nat)(whole:List UInt8)(br:Bool)(A:Ab)(n s c:Int)(cN:A.aF.length≤1000000000) :
  aH Tryz.prog 183 [ptr xj,ptr xf] ([aJ bd A,ak jb (cl [ptr bd,.string name,.int .i64 n,.int .i64 s,.int .i64 c,.bool br] 188),ak xj (cl [ptr jb] 95),ak xf (cl [.string fresh] 9),ak xw (cl [.slice wa whole.length wc] 22),ak xb (cl [.slice ba bl bc] 22),aK 5 1 (.slice wa whole.length wc) whole.length (bV whole)]) (fun r H=>∃(e:Nat) (A1:Ab),(∃f,f ∉ A.fs.map (·.1)∧e=(A.create (isName fresh) fresh f).1∧A1=(A.create (isName fresh) fresh f).2)∧r = .int .i64 (e:Int)∧H=[aJ bd A1,ak jb (cl [ptr bd,.string name,.int .i64 n,.int .i64 s,.int .i64 c,.bool br] 188),ak xj (cl [ptr jb] 95),ak xf (cl [.string fresh] 9),ak xw (cl [.slice wa whole.length wc] 22),ak xb (cl [.slice ba bl bc] 22),aK 5 1 (.slice wa whole.length wc) whole.length (bV whole)]):=by
 refine aH.aC Tryz.func183 Tryz.ntmps183 fun G F R hE=>?_
 refine go ?_
 refine aO (fun w=>Sat G w ([ak jb (cl [ptr bd,.string name,.int .i64 n,.int .i64 s,.int .i64 c,.bool br] 188),ak xj (cl [ptr jb] 95),ak xf (cl [.string fresh] 9),ak xw (cl [.slice wa whole.length wc] 22),aK 5 1 (.slice wa whole.length wc) whole.length (bV whole)])) (dM 0 5 (.act 5 (.st 6 .nil))) rfl aw aw aw dI ?_
 refine go ?_
 refine bz (mW bd A fresh cN) ?_
 rintro _ _⟨f,hf,rfl,rfl⟩
 refine go ?_
 refine ah hE Tryz.func183 zr zr ⟨_,_,⟨f,hf,rfl,rfl⟩,rfl,rfl⟩
def Qc(bd jb xj xf xw xb:Nat)(name fresh:ByteArray)(wa ba:Option Addr)(wc bl bc:Nat)(whole:List UInt8)(br:Bool)(A:Ab)(n s c:Int)(fD:A.writes.length≤1000000000)(jx:whole.length≤1000000000) :
  aH Tryz.prog 184 [ptr xj,ptr xf,ptr xw] ([aJ bd A,ak jb (cl [ptr bd,.string name,.int .i64 n,.int .i64 s,.int .i64 c,.bool br] 188),ak xj (cl [ptr jb] 95),ak xf (cl [.string fresh] 9),ak xw (cl [.slice wa whole.length wc] 22),ak xb (cl [.slice ba bl bc] 22),aK 5 1 (.slice wa whole.length wc) whole.length (bV whole)]) (fun r H=>∃(e:Nat) (A1:Ab),e=(A.write (gG fresh 0 whole) fresh 0 whole).1∧A1=(A.write (gG fresh 0 whole) fresh 0 whole).2∧r = .int .i64 (e:Int)∧H=[aJ bd A1,ak jb (cl [ptr bd,.string name,.int .i64 n,.int .i64 s,.int .i64 c,.bool br] 188),ak xj (cl [ptr jb] 95),ak xf (cl [.string fresh] 9),ak xw (cl [.slice wa whole.length wc] 22),ak xb (cl [.slice ba bl bc] 22),aK 5 1 (.slice wa whole.length wc) whole.length (bV whole)]):=by
 refine aH.aC Tryz.func184 Tryz.ntmps184 fun G F R hE=>?_
 refine go ?_
 refine aO (fun w=>Sat G w ([ak jb (cl [ptr bd,.string name,.int .i64 n,.int .i64 s,.int .i64 c,.bool br] 188),ak xj (cl [ptr jb] 95),ak xf (cl [.string fresh] 9),ak xw (cl [.slice wa whole.length wc] 22),aK 5 1 (.slice wa whole.length wc) whole.length (bV whole)])) (dM 0 6 (.act 6 (.st 7 .nil))) rfl aw aw aw dI ?_
 refine go ?_
 refine eZ 6 rfl ?_
 intro dH
 refine go ?_
 refine aY ?_
 refine mU 3 zr zr zr zr zr zr (go ?_)
 refine Vd (sn bd A fresh 0 _ _ whole dH fD jx aj) ?_
 refine go ?_
 refine ah hE Tryz.func184 zr zr ⟨_,_,rfl,rfl,rfl,rfl⟩
def Qa(bd jb xj xf xw xb:Nat)(name fresh:ByteArray)(wa ba:Option Addr)(wc bl bc:Nat)(whole:List UInt8)(br:Bool)(A:Ab)(n s c:Int)(fD:A.writes.length≤1000000000) :
  aH Tryz.prog 185 [ptr xj,ptr xf] ([aJ bd A,ak jb (cl [ptr bd,.string name,.int .i64 n,.int .i64 s,.int .i64 c,.bool br] 188),ak xj (cl [ptr jb] 95),ak xf (cl [.string fresh] 9),ak xw (cl [.slice wa whole.length wc] 22),ak xb (cl [.slice ba bl bc] 22),aK 5 1 (.slice wa whole.length wc) whole.length (bV whole)]) (fun r H=>∃(e:Nat) (A1:Ab),e=(A.sync (isName fresh) fresh).1∧A1=(A.sync (isName fresh) fresh).2∧r = .int .i64 (e:Int)∧H=[aJ bd A1,ak jb (cl [ptr bd,.string name,.int .i64 n,.int .i64 s,.int .i64 c,.bool br] 188),ak xj (cl [ptr jb] 95),ak xf (cl [.string fresh] 9),ak xw (cl [.slice wa whole.length wc] 22),ak xb (cl [.slice ba bl bc] 22),aK 5 1 (.slice wa whole.length wc) whole.length (bV whole)]):=by
 refine aH.aC Tryz.func185 Tryz.ntmps185 fun G F R hE=>?_
 refine go ?_
 refine aO (fun w=>Sat G w ([ak jb (cl [ptr bd,.string name,.int .i64 n,.int .i64 s,.int .i64 c,.bool br] 188),ak xj (cl [ptr jb] 95),ak xf (cl [.string fresh] 9),ak xw (cl [.slice wa whole.length wc] 22),aK 5 1 (.slice wa whole.length wc) whole.length (bV whole)])) (dM 0 5 (.act 5 (.st 6 .nil))) rfl aw aw aw dI ?_
 refine go ?_
 refine Vd (lH bd A fresh fD) ?_
 refine go ?_
 refine ah hE Tryz.func185 zr zr ⟨_,_,rfl,rfl,rfl,rfl⟩
def P9(bd jb xj xf xw xb:Nat)(name fresh:ByteArray)(wa ba:Option Addr)(wc bl bc:Nat)(whole:List UInt8)(br:Bool)(A:Ab)(n s c:Int)(cN:A.aF.length≤1000000000) :
  aH Tryz.prog 186 [ptr xj,ptr xf] ([aJ bd A,ak jb (cl [ptr bd,.string name,.int .i64 n,.int .i64 s,.int .i64 c,.bool br] 188),ak xj (cl [ptr jb] 95),ak xf (cl [.string fresh] 9),ak xw (cl [.slice wa whole.length wc] 22),ak xb (cl [.slice ba bl bc] 22),aK 5 1 (.slice wa whole.length wc) whole.length (bV whole)]) (fun r H=>∃(e:Nat) (A1:Ab),e=(A.rename ([fresh,name].all isName) fresh name).1∧A1=(A.rename ([fresh,name].all isName) fresh name).2∧r = .int .i64 (e:Int)∧H=[aJ bd A1,ak jb (cl [ptr bd,.string name,.int .i64 n,.int .i64 s,.int .i64 c,.bool br] 188),ak xj (cl [ptr jb] 95),ak xf (cl [.string fresh] 9),ak xw (cl [.slice wa whole.length wc] 22),ak xb (cl [.slice ba bl bc] 22),aK 5 1 (.slice wa whole.length wc) whole.length (bV whole)]):=by
 refine aH.aC Tryz.func186 Tryz.ntmps186 fun G F R hE=>?_
 refine go ?_
 refine aO (fun w=>Sat G w ([ak jb (cl [ptr bd,.string name,.int .i64 n,.int .i64 s,.int .i64 c,.bool br] 188),ak xj (cl [ptr jb] 95),ak xf (cl [.string fresh] 9),ak xw (cl [.slice wa whole.length wc] 22),aK 5 1 (.slice wa whole.length wc) whole.length (bV whole)])) (dM 0 9 (.act 9 (.st 10 .nil))) rfl aw aw aw dI ?_
 refine go ?_
 refine Vd (tE bd A fresh name cN) ?_
 refine go ?_
 refine ah hE Tryz.func186 zr zr ⟨_,_,rfl,rfl,rfl,rfl⟩
def P7(bd jb xj xf xw xb:Nat)(name fresh:ByteArray)(wa ba:Option Addr)(wc bl bc:Nat)(whole:List UInt8)(br:Bool)(A:Ab)(n s c:Int) :
  aH Tryz.prog 188 [ptr xb,ptr xj] ([aJ bd A,ak jb (cl [ptr bd,.string name,.int .i64 n,.int .i64 s,.int .i64 c,.bool br] 188),ak xj (cl [ptr jb] 95),ak xf (cl [.string fresh] 9),ak xw (cl [.slice wa whole.length wc] 22),ak xb (cl [.slice ba bl bc] 22),aK 5 1 (.slice wa whole.length wc) whole.length (bV whole)]) (fun r H=>r = .int .i64 0∧H=[aJ bd A,ak jb (cl [ptr bd,.string name,.int .i64 1,.int .i64 (bl:Int),.int .i64 (bl:Int),.bool br] 188),ak xj (cl [ptr jb] 95),ak xf (cl [.string fresh] 9),ak xw (cl [.slice wa whole.length wc] 22),ak xb (cl [.slice ba bl bc] 22),aK 5 1 (.slice wa whole.length wc) whole.length (bV whole)]):=by
 refine aH.aC Tryz.func188 Tryz.ntmps188 fun G F R hE=>?_
 refine go ?_
 refine aO (fun w=>Sat G w ([ak xj (cl [ptr jb] 95),ak xb (cl [.slice ba bl bc] 22)])) (dM 0 9 (.act 9 (.st 10 (.st 11 (.act 12 (.st 13 (.st 14 (.act 15 .nil)))))))) rfl aw aw aw dI ?_
 refine go ?_
 refine bE ?_
 refine aD 1 (fun w hw=>by exact hw.cI ad) zr zr zr zr zr zr zr zr zr ?_
 refine go ?_
 refine bE ?_
 refine aD 1 (fun w hw=>by exact hw.cI ad) zr zr zr zr zr zr zr zr zr ?_
 refine go ?_
 refine ah hE Tryz.func188 zr zr ⟨rfl,rfl⟩
end Go.Proofs.YtlionahpheehaaaGreatDoor
namespace Go.Proofs.YtlionahpheehaaaGreatDoor
open Go Go.SL
abbrev PS:=Ab × Int × Int × Int
def Vo(g:Ab→Nat→Ab→Prop)(x:PS)(e:Nat)(y:PS):Prop:=g x.1 e y.1∧y.2=x.2
def Eu(fresh:ByteArray):=Vo fun A e B=>e=(A.remove (isName fresh) fresh).1∧B=(A.remove (isName fresh) fresh).2
def Ev(fresh:ByteArray):=Vo fun A e B=>∃f,f ∉ A.fs.map (·.1)∧e=(A.create (isName fresh) fresh f).1∧B=(A.create (isName fresh) fresh f).2
def Ju(fresh:ByteArray)(whole:List UInt8):=Vo fun A e B=>e=(A.write (gG fresh 0 whole) fresh 0 whole).1∧B=(A.write (gG fresh 0 whole) fresh 0 whole).2
def PM(fresh:ByteArray):=Vo fun A e B=>e=(A.sync (isName fresh) fresh).1∧B=(A.sync (isName fresh) fresh).2
def Et(fresh name:ByteArray):=Vo fun A e B=>e=(A.rename ([fresh,name].all isName) fresh name).1∧B=(A.rename ([fresh,name].all isName) fresh name).2
def Jv:=Vo fun A e B=>e=A.cG.1∧B=A.cG.2
def ZM(bl:Nat)(x:PS)(e:Nat)(y:PS):Prop:=e=0∧y=(x.1,1,(bl:Int),(bl:Int))
def bU(name:ByteArray):ByteArray:=name++⟨#[46,110,101,119]⟩
def cB(ls:List (List UInt8)):List UInt8:=List.replicate 16 0++cq 1 (ls.flatMap bB).length++ls.flatMap bB
def ie(name:ByteArray)(ls:List (List UInt8))(A:Ab):List (PS→Nat→PS→Prop) :=
 (if(A.size (bU name)).2=0 then [Eu (bU name)]else []) ++
 [Ev (bU name),Ju (bU name) (cB ls),PM (bU name),Et (bU name) name,Jv,ZM (ls.flatMap bB).length]
def CB(name:ByteArray)(ls:List (List UInt8))(x:PS)(e:Nat)(y:PS):Prop:=jG (ie name ls x.1) x e y
attribute [local irreducible] J K aH Ends ak aK aV bX bj aS bp bD cp aJ
def _root_.Go.SL.aq.mY(l:List HP):aq [Sep l] l:=by have:=aq.cR l [];rwa[List.append_nil]at this
def _root_.Go.SL.aq.nf(l:List HP):aq l [Sep l]:=by have:=aq.cg l [];rwa[List.append_nil]at this
def PI(bd jb xj xf xw xb:Nat)(name fresh:ByteArray)(wa ba:Option Addr)(wc bl bc:Nat)(whole:List UInt8)(br:Bool)(x:PS):HP:=Sep [aJ bd x.1,ak jb (cl [ptr bd,.string name,.int .i64 x.2.1,.int .i64 x.2.2.1,.int .i64 x.2.2.2,.bool br] 188),ak xj (cl [ptr jb] 95),ak xf (cl [.string fresh] 9),ak xw (cl [.slice wa whole.length wc] 22),ak xb (cl [.slice ba bl bc] 22),aK 5 1 (.slice wa whole.length wc) whole.length (bV whole)]
def PQ(i:Nat)(x:PS):Prop:=x.1.aF.length≤900000000+i∧x.1.writes.length≤900000000+i
def PQ.next{i:Nat}{x:PS}(h:PQ i x){B:Ab}(g:kU x.1 B):PQ (i+1) (B,x.2):=by
 obtain⟨h1,h2⟩:=h
 obtain⟨g1,g2⟩:=g
 exact⟨by simp only;omega,by simp only;omega⟩
end Go.Proofs.YtlionahpheehaaaGreatDoor
namespace Go.Proofs.YtlionahpheehaaaGreatDoor
open Go Go.SL
def Oh{P:Program}{f:FuncId}{args:List Value}{Pre:List HP}{Post:Value→List HP→Prop}(X:List HP)(c:aH P f args Pre Post):aH P f args (Pre++X) (fun v H=>∃H',Post v H'∧H=H'++X) :=
 ⟨c.1,fun G w F hw=>(c.2 G w (X++F) (by rw[List.append_assoc]at hw;exact hw)).mono fun e w' h'=>let ⟨v,H,he,T8,hs⟩:=h';⟨v,H++X,he,⟨H,T8,rfl⟩,by rw[List.append_assoc];exact hs⟩⟩
attribute [local irreducible] J K aH Ends ak aK aV bX bj aS bp bD cp aJ
def ZR(bd jb xj xf xw xb:Nat)(name fresh:ByteArray)(wa ba:Option Addr)(wc bl bc:Nat)(whole:List UInt8)(br:Bool)(i:Nat)(hi:i≤10)(x:PS)(hq:PQ i x) :
  aH Tryz.prog 181 [ptr xj,ptr xf] [PI bd jb xj xf xw xb name fresh wa ba wc bl bc whole br x] (fun r H=>∃(e:Nat) (x':PS),r = .int .i64 (e:Int)∧H=[PI bd jb xj xf xw xb name fresh wa ba wc bl bc whole br x']∧Eu fresh x e x'∧(e=0→PQ (i+1) x')) :=
 (Qg bd jb xj xf xw xb name fresh wa ba wc bl bc whole br x.1 x.2.1 x.2.2.1 x.2.2.2 (by have:=hq.1;omega)).conv (aq.mY _) (by
  rintro v H⟨e,A1,he,u5,rfl,rfl⟩
  exact⟨_,⟨_,(A1,x.2),rfl,rfl,⟨⟨he,u5⟩,rfl⟩,fun _=>hq.next (u5 ▸ se _ _ _)⟩,aq.nf _⟩)
def Qf(bd jb xj xf xw xb:Nat)(name fresh:ByteArray)(wa ba:Option Addr)(wc bl bc:Nat)(whole:List UInt8)(br:Bool)(i:Nat)(hi:i≤10)(x:PS)(hq:PQ i x) :
  aH Tryz.prog 183 [ptr xj,ptr xf] [PI bd jb xj xf xw xb name fresh wa ba wc bl bc whole br x] (fun r H=>∃(e:Nat) (x':PS),r = .int .i64 (e:Int)∧H=[PI bd jb xj xf xw xb name fresh wa ba wc bl bc whole br x']∧Ev fresh x e x'∧(e=0→PQ (i+1) x')) :=
 (Qe bd jb xj xf xw xb name fresh wa ba wc bl bc whole br x.1 x.2.1 x.2.2.1 x.2.2.2 (by have:=hq.1;omega)).conv (aq.mY _) (by
  rintro v H⟨e,A1,⟨f,hf,he,u5⟩,rfl,rfl⟩
  exact⟨_,⟨_,(A1,x.2),rfl,rfl,⟨⟨f,hf,he,u5⟩,rfl⟩,fun _=>hq.next (u5 ▸ sf _ _ _ _)⟩,aq.nf _⟩)
def Qd(bd jb xj xf xw xb:Nat)(name fresh:ByteArray)(wa ba:Option Addr)(wc bl bc:Nat)(whole:List UInt8)(br:Bool)(i:Nat)(hi:i≤10)(jx:whole.length≤1000000000)(x:PS)(hq:PQ i x) :
  aH Tryz.prog 184 [ptr xj,ptr xf,ptr xw] [PI bd jb xj xf xw xb name fresh wa ba wc bl bc whole br x] (fun r H=>∃(e:Nat) (x':PS),r = .int .i64 (e:Int)∧H=[PI bd jb xj xf xw xb name fresh wa ba wc bl bc whole br x']∧Ju fresh whole x e x'∧(e=0→PQ (i+1) x')) :=
 (Qc bd jb xj xf xw xb name fresh wa ba wc bl bc whole br x.1 x.2.1 x.2.2.1 x.2.2.2 (by have:=hq.2;omega) jx).conv (aq.mY _) (by
  rintro v H⟨e,A1,he,u5,rfl,rfl⟩
  exact⟨_,⟨_,(A1,x.2),rfl,rfl,⟨⟨he,u5⟩,rfl⟩,fun _=>hq.next (u5 ▸ lr _ _ _ _ _)⟩,aq.nf _⟩)
def Qb(bd jb xj xf xw xb:Nat)(name fresh:ByteArray)(wa ba:Option Addr)(wc bl bc:Nat)(whole:List UInt8)(br:Bool)(i:Nat)(hi:i≤10)(x:PS)(hq:PQ i x) :
  aH Tryz.prog 185 [ptr xj,ptr xf] [PI bd jb xj xf xw xb name fresh wa ba wc bl bc whole br x] (fun r H=>∃(e:Nat) (x':PS),r = .int .i64 (e:Int)∧H=[PI bd jb xj xf xw xb name fresh wa ba wc bl bc whole br x']∧PM fresh x e x'∧(e=0→PQ (i+1) x')) :=
 (Qa bd jb xj xf xw xb name fresh wa ba wc bl bc whole br x.1 x.2.1 x.2.2.1 x.2.2.2 (by have:=hq.2;omega)).conv (aq.mY _) (by
  rintro v H⟨e,A1,he,u5,rfl,rfl⟩
  exact⟨_,⟨_,(A1,x.2),rfl,rfl,⟨⟨he,u5⟩,rfl⟩,fun _=>hq.next (u5 ▸ lu _ _ _)⟩,aq.nf _⟩)
def P'(bd jb xj xf xw xb:Nat)(name fresh:ByteArray)(wa ba:Option Addr)(wc bl bc:Nat)(whole:List UInt8)(br:Bool)(i:Nat)(hi:i≤10)(x:PS)(hq:PQ i x) :
  aH Tryz.prog 186 [ptr xj,ptr xf] [PI bd jb xj xf xw xb name fresh wa ba wc bl bc whole br x] (fun r H=>∃(e:Nat) (x':PS),r = .int .i64 (e:Int)∧H=[PI bd jb xj xf xw xb name fresh wa ba wc bl bc whole br x']∧Et fresh name x e x'∧(e=0→PQ (i+1) x')) :=
 (P9 bd jb xj xf xw xb name fresh wa ba wc bl bc whole br x.1 x.2.1 x.2.2.1 x.2.2.2 (by have:=hq.1;omega)).conv (aq.mY _) (by
  rintro v H⟨e,A1,he,u5,rfl,rfl⟩
  exact⟨_,⟨_,(A1,x.2),rfl,rfl,⟨⟨he,u5⟩,rfl⟩,fun _=>hq.next (u5 ▸ sd _ _ _ _)⟩,aq.nf _⟩)
def P5(bd jb xj xf xw xb:Nat)(name fresh:ByteArray)(wa ba:Option Addr)(wc bl bc:Nat)(whole:List UInt8)(br:Bool)(i:Nat)(x:PS)(hq:PQ i x) :
  aH Tryz.prog 38 [ptr bd] [PI bd jb xj xf xw xb name fresh wa ba wc bl bc whole br x] (fun r H=>∃(e:Nat) (x':PS),r = .int .i64 (e:Int)∧H=[PI bd jb xj xf xw xb name fresh wa ba wc bl bc whole br x']∧Jv x e x'∧(e=0→PQ (i+1) x')) :=
 (Oh ([aJ bd x.1,ak jb (cl [ptr bd,.string name,.int .i64 x.2.1,.int .i64 x.2.2.1,.int .i64 x.2.2.2,.bool br] 188),ak xj (cl [ptr jb] 95),ak xf (cl [.string fresh] 9),ak xw (cl [.slice wa whole.length wc] 22),ak xb (cl [.slice ba bl bc] 22),aK 5 1 (.slice wa whole.length wc) whole.length (bV whole)].drop 1) (qD bd x.1)).conv (aq.mY _) (by
  rintro v H⟨_,⟨rfl,rfl⟩,rfl⟩
  exact⟨_,⟨_,(x.1.cG.2,x.2),rfl,rfl,⟨⟨rfl,rfl⟩,rfl⟩,fun _=>hq.next (kK _)⟩,aq.nf _⟩)
def P8(bd jb xj xf xw xb:Nat)(name fresh:ByteArray)(wa ba:Option Addr)(wc bl bc:Nat)(whole:List UInt8)(br:Bool)(i:Nat)(x:PS)(hq:PQ i x) :
  aH Tryz.prog 188 [ptr xb,ptr xj] [PI bd jb xj xf xw xb name fresh wa ba wc bl bc whole br x] (fun r H=>∃(e:Nat) (x':PS),r = .int .i64 (e:Int)∧H=[PI bd jb xj xf xw xb name fresh wa ba wc bl bc whole br x']∧ZM bl x e x'∧(e=0→PQ (i+1) x')) :=
 (P7 bd jb xj xf xw xb name fresh wa ba wc bl bc whole br x.1 x.2.1 x.2.2.1 x.2.2.2).conv (aq.mY _) (by
  rintro v H⟨rfl,rfl⟩
  exact⟨_,⟨0,(x.1,1,(bl:Int),(bl:Int)),rfl,rfl,⟨rfl,rfl⟩,fun _=>⟨by have:=hq.1;simp only;omega,by have:=hq.2;simp only;omega⟩⟩,aq.nf _⟩)
def jr(jb bd:Nat)(name:ByteArray)(n s c:Int)(br:Bool):HP:=ak jb (cl [ptr bd,.string name,.int .i64 n,.int .i64 s,.int .i64 c,.bool br] 188)
def DO{ls:List (List UInt8)}{i:Nat}{x:List UInt8}(h:ls[i]?=some x):(ls.take (i+1)).flatMap bB=(ls.take i).flatMap bB++bB x:=by
 rw[List.take_add_one,h];simp
def L8(ls:List (List UInt8))(i:Nat):((ls.take i).flatMap bB).length≤(ls.flatMap bB).length:=by
 conv=>rhs;rw[← List.take_append_drop i ls,List.flatMap_append,List.length_append]
 omega
theorem EC(jb bd:Nat)(name:ByteArray)(n s c:Int)(br:Bool)(A:Ab)(V:HP)(lv:Value)(ls:List (List UInt8))(hv:xh V lv ls)(hl:(ls.flatMap bB).length≤500000000)(FR:ls.length≤1000000000)(Hk:name.size≤1000000000)(cN:A.aF.length≤900000000)(qW:A.writes.length≤900000000) :
    aH Tryz.prog 110 [ptr jb,lv] [aJ bd A,jr jb bd name n s c br,V]
      (fun r H=>∃(e:Nat) (y:PS),r = .int .i64 (e:Int)∧H=[aJ bd y.1,jr jb bd name y.2.1 y.2.2.1 y.2.2.2 br,V]∧CB name ls (A,n,s,c) e y):=by
  obtain⟨cs,dH,kJ,⟨a,cc,rfl,hc⟩,tq⟩:=hv
  unfold jr
  refine aH.aC Tryz.func110 Tryz.ntmps110 fun G F R hE=>?_
  refine go ?_
  refine bJ zr zr bO ?_
  intro xj
  refine go ?_
  refine BV zr zr zr (by show name.size+4≤_;omega) ?_
  refine go ?_
  refine au 17 (.string (bU name)) zr zr ?_
  generalize tQ:bU name=fresh
  refine aL zr zr zr bO ?_
  intro xf
  refine go ?_
  refine aL zr zr zr bO ?_
  intro xb
  refine go ?_
  refine al (bS 5 1 none _) ?_
  refine bF (fun y:Value × Nat=>y.2≤ls.length) (fun y=>ls.length-y.2)
    (fun y=>[(0,ptr jb),(2,ptr xj),(5,ptr xf),(6,ptr xb),(18,.slice a ls.length cc),(19,.int .i64 (ls.length:Int)),(20,.int .i64 (y.2:Int))])
    (fun y=>ak xb (cl [y.1] 22)::aK 5 1 y.1 ((ls.take y.2).flatMap bB).length (bV ((ls.take y.2).flatMap bB))::ak xf (cl [.string fresh] 9)::ak xj (cl [ptr jb] 95)::aJ bd A::ak jb (cl [ptr bd,.string name,.int .i64 n,.int .i64 s,.int .i64 c,.bool br] 188)::V::F) (.slice none 0 0,0) (Nat.zero_le _) rfl cF ad ?_
  rintro⟨v,i⟩ hi ih
  simp only at hi
  refine go ?_
  refine aB zr zr ?_ ?_
  · intro dk
    simp only at dk
    have l9:i<ls.length:=by omega
    obtain⟨x,hx⟩:∃x,ls[i]?=some x:=⟨ls[i],List.getElem?_eq_getElem l9⟩
    obtain⟨cv,qP,hb⟩:=tq i x hx
    obtain⟨b0,o0,c0,tT⟩:=dH.some (by intro h;rw[h]at qP;simp at qP)
    simp only[Value.slice.injEq]at tT
    obtain⟨rfl,-,rfl⟩:=tT
    refine go ?_
    refine bW i zr zr zr zr zr zr zr zr l9 ?_
    obtain⟨ax,cx,rfl,hcx⟩:=hb.2
    have tM:=DO hx
    have ez:((ls.take (i+1)).flatMap bB).length=((ls.take i).flatMap bB).length+(bB x).length:=by rw[tM,List.length_append]
    have hle:=L8 ls (i+1)
    have IX:x.length≤(bB x).length:=by simp[bB]
    refine aZ 6 i zr zr zr dH rfl qP zr zr ?_
    refine aN 1 rfl ?_
    intro av cv rk
    simp only at rk
    subst rk
    refine go ?_
    refine aO (fun w=>Sat G w ([ak xb (cl [.slice av ((ls.take i).flatMap bB).length cv] 22)])) (.st 0 (.st 1 (.act 2 (.act 3 (.act 4 .nil))))) rfl aw aw aw dI ?_
    refine go ?_
    refine bz (ki V _ x hb aj) ?_
    rintro r _ rfl
    refine aN 0 rfl ?_
    rintro ra rc rfl
    refine eZ 0 rfl ?_
    intro Hg
    refine go ?_
    refine bg (mm:=(bB x).length) (news:=bV (bB x)) 3 0 zr zr zr zr zr zr zr zr zr zr zr zr Hg (by show _=_*1;rw[bN];omega) (dR _) (by simp only;omega) (by show(_+_)*1≤_;simp only;omega) (fun _=>rfl) (fun _ w hw=>by exact hw.cI ad) ?_
    intro v1
    simp only
    rw[show bV ((ls.take i).flatMap bB)++bV (bB x)=bV ((ls.take (i+1)).flatMap bB)from by rw[tM];simp[bV],← ez]
    refine aN 3 rfl ?_
    rintro va vc rfl
    refine go ?_
    refine aQ ih (.slice va ((ls.take (i+1)).flatMap bB).length vc,i+1) rfl (by simp only;omega) (by simp only;omega) cF ad
  intro fO
  simp only at fO
  have e9:i=ls.length:=by omega
  subst e9
  rw[List.take_length]
  refine aM 1 rfl ?_
  intro av cv rk
  simp only at rk
  subst rk
  obtain⟨B,hB⟩:∃B,B=ls.flatMap bB:=⟨_,rfl⟩
  rw[← hB]at hl ⊢
  have hhl:(cq 1 B.length).length=16:=gT _ _
  have fD:(cB ls)=List.replicate 16 0++cq 1 B.length++B:=by rw[hB];rfl
  obtain⟨W,hW⟩:∃W,W=cB ls:=⟨_,rfl⟩
  rw[← hW]at fD
  have RD:W.length=32+B.length:=by rw[fD];simp only[List.length_append,List.length_replicate,hhl]
  have afv:∀(m:Nat) (ra:Option Addr) (rc row:Nat),eU (aK 5 1 (.slice ra (cq 1 B.length).length rc) (cq 1 B.length).length (bV (cq 1 B.length))) (.slice ra (cq 1 B.length).length rc) (cq 1 B.length) →
      eU (aK 5 1 (.slice av B.length cv) B.length (bV B)) (.slice av B.length cv) B→aH Tryz.prog 180 [.slice (some ⟨row,0,none⟩) 3 3]
      [Sep [ak row (cl [.slice (some ⟨m,0,none⟩) 16 16,.slice ra (cq 1 B.length).length rc,.slice av B.length cv] 22),ak m (cl (bV (List.replicate 16 0)) 5),aK 5 1 (.slice ra (cq 1 B.length).length rc) (cq 1 B.length).length (bV (cq 1 B.length)),aK 5 1 (.slice av B.length cv) B.length (bV B)]]
      (fun r H=>H=[aK 5 1 r W.length (bV W),Sep [ak row (cl [.slice (some ⟨m,0,none⟩) 16 16,.slice ra (cq 1 B.length).length rc,.slice av B.length cv] 22),ak m (cl (bV (List.replicate 16 0)) 5),aK 5 1 (.slice ra (cq 1 B.length).length rc) (cq 1 B.length).length (bV (cq 1 B.length)),aK 5 1 (.slice av B.length cv) B.length (bV B)]]):=by
    intro m ra rc row nN qZ
    have pQ:[List.replicate 16 0,cq 1 B.length,B].flatten=W:=by rw[fD];simp only[List.flatten_cons,List.flatten_nil,List.append_nil,List.append_assoc]
    have:=K6 (Sep [ak row (cl [.slice (some ⟨m,0,none⟩) 16 16,.slice ra (cq 1 B.length).length rc,.slice av B.length cv] 22),ak m (cl (bV (List.replicate 16 0)) 5),aK 5 1 (.slice ra (cq 1 B.length).length rc) (cq 1 B.length).length (bV (cq 1 B.length)),aK 5 1 (.slice av B.length cv) B.length (bV B)]) (.slice (some ⟨row,0,none⟩) 3 3) [List.replicate 16 0,cq 1 B.length,B]
      ⟨[.slice (some ⟨m,0,none⟩) 16 16,.slice ra (cq 1 B.length).length rc,.slice av B.length cv],(Vw.ak rfl).mono (aX (i:=0) rfl),rfl,⟨_,_,rfl,Nat.le_refl 3⟩,fun i x hx=>by
        match i,hx with
        | 0,hx=>cases hx;exact⟨_,rfl,⟨(Vw.ak (b:=m) (l:=bV (List.replicate 16 0)) (e:=5) rfl).mono (aX (i:=1) rfl),_,_,rfl,by decide⟩⟩
        | 1,hx=>cases hx;exact⟨_,rfl,nN.mono (aX (i:=2) rfl)⟩
        | 2,hx=>cases hx;exact⟨_,rfl,qZ.mono (aX (i:=3) rfl)⟩
        | k+3,hx=>simp at hx⟩ (by rw[pQ,RD];omega) (by show 3≤_;omega)
    rw[pQ]at this
    exact this
  refine qG (bs:=B) 1 rfl ?_
  intro qZ
  refine jw rfl ?_
  refine Mq 1 (fun y:Option Addr × Nat × Nat=>True) (fun y=>[(0,ptr jb),(2,ptr xj),(5,ptr xf),(6,ptr xb),(9,ptr y.2.2)]) (fun y=>ak y.2.2 (cl [.slice y.1 W.length y.2.1] 22)::aK 5 1 (.slice y.1 W.length y.2.1) W.length (bV W)::ak xb (cl [.slice av B.length cv] 22)::ak xf (cl [.string fresh] 9)::ak xj (cl [ptr jb] 95)::aJ bd A::ak jb (cl [ptr bd,.string name,.int .i64 n,.int .i64 s,.int .i64 c,.bool br] 188)::V::F) rfl ?_ ?_
  rotate_left
  · intro tail
    refine aO (fun w=>Sat G w ([ak xb (cl [.slice av B.length cv] 22)])) (.st 1 (.st 2 (.st 4 (.fork (.fork (.act 0 (.fork (.act 3 (.fork (.act 5 (.fork (.act 6 (.act 7 (.act 8 .nil))) (.act 7 (.act 6 (.act 8 .nil))))) (.act 7 (.act 5 (.act 6 (.act 8 .nil)))))) (.act 7 (.act 3 (.act 5 (.act 6 (.act 8 .nil))))))) (.act 3 (.fork (.act 0 (.fork (.act 5 (.fork (.act 6 (.act 7 (.act 8 .nil))) (.act 7 (.act 6 (.act 8 .nil))))) (.act 7 (.act 5 (.act 6 (.act 8 .nil)))))) (.act 7 (.act 0 (.act 5 (.act 6 (.act 8 .nil)))))))) (.act 7 (.fork (.act 0 (.act 3 (.act 5 (.act 6 (.act 8 .nil))))) (.act 3 (.act 0 (.act 5 (.act 6 (.act 8 .nil))))))))))) rfl aw aw aw dI ?_
    repeat'(first|refine bG ?_ ?_|(refine od (U:=bh) (p:=16) (q:=16) zr zr zr zr zr zr zr zr zr aj aj (by show 1*16≤_;omega) (fun _ w hw=>by exact hw.cI ad) ?_;intro m)|(((refine bz (pj 1 B.length aj aj) ?_));rintro _ _ rfl;((refine aN 0 rfl ?_));rintro ra rc rfl;refine fY (bs:=cq 1 B.length) 0 rfl ?_;intro nN)|(refine az zr zr zr zr zr zr zr zr zr (fun _ w hw=>by exact hw.cI ad) ?_;intro row)|(refine aL zr zr zr (fun _ w hw=>by exact hw.cI ad) ?_;intro x9)|(refine fq zr zr zr zr (afv m ra rc row nN qZ) (aq.trans ad (aq.cg [_,_,_,_] _)) ?_ xq;rintro _ _ rfl;((refine aN 0 rfl ?_));rintro wa wc rfl)|(refine bE ?_;(first|refine aD 0 eH zr zr zr zr zr zr zr zr zr ?_|refine aD 2 eH zr zr zr zr zr zr zr zr zr ?_);refine Iz ?_;refine FC tail (wa,wc,x9) rfl trivial cF ad)|(refine g9 ?_)|fail)
  rintro⟨wa,wc,x9⟩ -
  simp only
  refine go ?_
  refine aO (fun w=>Sat G w ([ak jb (cl [ptr bd,.string name,.int .i64 n,.int .i64 s,.int .i64 c,.bool br] 188),ak xj (cl [ptr jb] 95),ak xf (cl [.string fresh] 9)])) (dM 0 5 (.act 5 (dM 6 5 .nil))) rfl aw aw aw dI ?_
  refine go ?_
  refine Vd (lI bd A fresh) ?_
  refine go ?_
  refine Mq 1 (fun y:Value × List Value=>y.2=if(A.size fresh).2=0 then [.func (.func 181) #[] #[ptr xj,ptr xf] ]else []) (fun y=>[(0,ptr jb),(2,ptr xj),(5,ptr xf),(6,ptr xb),(9,ptr x9),(10,y.1)]) (fun y=>ak xj (cl [ptr jb] 95)::ak jb (cl [ptr bd,.string name,.int .i64 n,.int .i64 s,.int .i64 c,.bool br] 188)::aK 94 1 y.1 y.2.length y.2::ak x9 (cl [.slice wa W.length wc] 22)::aK 5 1 (.slice wa W.length wc) W.length (bV W)::ak xb (cl [.slice av B.length cv] 22)::ak xf (cl [.string fresh] 9)::aJ bd A::V::F) rfl ?_ ?_
  rotate_left
  · intro tail
    refine al (bS 94 1 none _) ?_
    refine aB zr zr ?_ ?_
    · intro he
      refine go ?_
      refine az zr zr zr zr zr zr zr zr zr bO ?_
      intro row
      refine go ?_
      refine bg (mm:=1) (news:=[.func (.func 181) #[] #[ptr xj,ptr xf]]) 1 0 zr zr zr zr zr zr zr zr zr zr zr zr (Vw.ak rfl) rfl (by simp[Value.oneCell']) aj (by show(0+1)*8≤_;omega) (fun _=>rfl) bO ?_
      intro v1
      refine aN 1 rfl ?_
      rintro va vc rfl
      refine zt ?_
      refine FC tail (.slice va (0+1) vc,[.func (.func 181) #[] #[ptr xj,ptr xf] ]) rfl (by rw[if_pos aj]) cF ad
    · intro he
      refine FC tail (.slice none 0 0,[]) rfl (by rw[if_neg aj]) cF ad
  rintro⟨sv,fv⟩ mA
  simp only at mA ⊢
  refine aM 2 rfl ?_
  rintro va vc rfl
  refine go ?_
  have pQ:fv.length≤1:=by rw[mA];split <;> simp
  refine az (cs:=[.func (.func 183) #[] #[ptr xj,ptr xf],.func (.func 184) #[] #[ptr xj,ptr xf,ptr x9],.func (.func 185) #[] #[ptr xj,ptr xf],.func (.func 186) #[] #[ptr xj,ptr xf],.func (.func 38) #[ptr bd] #[],.func (.func 188) #[] #[ptr xb,ptr xj] ]) zr zr zr zr zr zr zr zr zr bO ?_
  intro row
  refine go ?_
  refine bg (mm:=6) (news:=[.func (.func 183) #[] #[ptr xj,ptr xf],.func (.func 184) #[] #[ptr xj,ptr xf,ptr x9],.func (.func 185) #[] #[ptr xj,ptr xf],.func (.func 186) #[] #[ptr xj,ptr xf],.func (.func 38) #[ptr bd] #[],.func (.func 188) #[] #[ptr xb,ptr xj] ]) 3 0 zr zr zr zr zr zr zr zr zr zr zr zr (Vw.ak rfl) rfl (by simp[Value.oneCell']) aj (by show(_+6)*8≤_;omega) (fun _=>rfl) bO ?_
  intro v1
  refine eZ 3 rfl ?_
  intro ko
  obtain⟨fs,ot⟩:∃fs,fs=fv++[.func (.func 183) #[] #[ptr xj,ptr xf],.func (.func 184) #[] #[ptr xj,ptr xf,ptr x9],.func (.func 185) #[] #[ptr xj,ptr xf],.func (.func 186) #[] #[ptr xj,ptr xf],.func (.func 38) #[ptr bd] #[],.func (.func 188) #[] #[ptr xb,ptr xj] ]:=⟨_,rfl⟩
  rw[← ot]at ko ⊢
  have afg:fs.length=fv.length+6:=by rw[ot,List.length_append];rfl
  rw[← afg]at ko ⊢
  have qO:(ie name ls A).length=fs.length:=by
    grind [ie]
  have hWb:W.length≤1000000000:=by omega
  have xT:∀(i:Nat) (fv:Value) (s:PS→Nat→PS→Prop),fs[i]?=some fv→(ie name ls A)[i]?=some s→∃g fi cap,fv = .func (.func g) fi cap∧∀x,PQ i x→aH Tryz.prog g (fi.toList++cap.toList) [PI bd jb xj xf x9 xb name fresh wa av wc B.length cv W br x] (fun r H=>∃(e:Nat) (x':PS),r = .int .i64 (e:Int)∧H=[PI bd jb xj xf x9 xb name fresh wa av wc B.length cv W br x']∧s x e x'∧(e=0→PQ (i+1) x')):=by
    intro i f1 s1 h1 h2
    have hi:i<fs.length:=(List.getElem?_eq_some_iff.1 h1).1
    have Bg:i≤10:=by omega
    unfold ie at h2
    rw[tQ,← hW,← hB]at h2
    rw[ot,mA]at h1
    by_cases hz:(A.size fresh).2=0
    · rw[if_pos hz]at h1 h2
      match i,h1,h2 with
      | 0,h1,h2=>cases h1;cases h2;exact⟨_,_,_,rfl,fun x hq=>ZR _ _ _ _ _ _ _ _ _ _ _ _ _ _ _ _ Bg x hq⟩
      | 1,h1,h2=>cases h1;cases h2;exact⟨_,_,_,rfl,fun x hq=>Qf _ _ _ _ _ _ _ _ _ _ _ _ _ _ _ _ Bg x hq⟩
      | 2,h1,h2=>cases h1;cases h2;exact⟨_,_,_,rfl,fun x hq=>Qd _ _ _ _ _ _ _ _ _ _ _ _ _ _ _ _ Bg hWb x hq⟩
      | 3,h1,h2=>cases h1;cases h2;exact⟨_,_,_,rfl,fun x hq=>Qb _ _ _ _ _ _ _ _ _ _ _ _ _ _ _ _ Bg x hq⟩
      | 4,h1,h2=>cases h1;cases h2;exact⟨_,_,_,rfl,fun x hq=>P' _ _ _ _ _ _ _ _ _ _ _ _ _ _ _ _ Bg x hq⟩
      | 5,h1,h2=>cases h1;cases h2;exact⟨_,_,_,rfl,fun x hq=>P5 _ _ _ _ _ _ _ _ _ _ _ _ _ _ _ _ x hq⟩
      | 6,h1,h2=>cases h1;cases h2;exact⟨_,_,_,rfl,fun x hq=>P8 _ _ _ _ _ _ _ _ _ _ _ _ _ _ _ _ x hq⟩
      | k+7,h1,h2=>simp at h1
    · rw[if_neg hz]at h1 h2
      match i,h1,h2 with
      | 0,h1,h2=>cases h1;cases h2;exact⟨_,_,_,rfl,fun x hq=>Qf _ _ _ _ _ _ _ _ _ _ _ _ _ _ _ _ Bg x hq⟩
      | 1,h1,h2=>cases h1;cases h2;exact⟨_,_,_,rfl,fun x hq=>Qd _ _ _ _ _ _ _ _ _ _ _ _ _ _ _ _ Bg hWb x hq⟩
      | 2,h1,h2=>cases h1;cases h2;exact⟨_,_,_,rfl,fun x hq=>Qb _ _ _ _ _ _ _ _ _ _ _ _ _ _ _ _ Bg x hq⟩
      | 3,h1,h2=>cases h1;cases h2;exact⟨_,_,_,rfl,fun x hq=>P' _ _ _ _ _ _ _ _ _ _ _ _ _ _ _ _ Bg x hq⟩
      | 4,h1,h2=>cases h1;cases h2;exact⟨_,_,_,rfl,fun x hq=>P5 _ _ _ _ _ _ _ _ _ _ _ _ _ _ _ _ x hq⟩
      | 5,h1,h2=>cases h1;cases h2;exact⟨_,_,_,rfl,fun x hq=>P8 _ _ _ _ _ _ _ _ _ _ _ _ _ _ _ _ x hq⟩
      | k+6,h1,h2=>simp at h1
  have fH:=Mj (PI bd jb xj xf x9 xb name fresh wa av wc B.length cv W br) (aK 94 1 v1 fs.length fs) v1 fs ko aj (ie name ls A) qO PQ xT (A,n,s,c) ⟨by simp only;omega,by simp only;omega⟩
  refine aN 3 rfl ?_
  rintro va2 vc2 rfl
  refine go ?_
  refine fq zr zr zr zr fH (aq.trans ad (aq.cons _ (aq.cg [aJ bd A,ak jb (cl [ptr bd,.string name,.int .i64 n,.int .i64 s,.int .i64 c,.bool br] 188),ak xj (cl [ptr jb] 95),ak xf (cl [.string fresh] 9),ak x9 (cl [.slice wa W.length wc] 22),ak xb (cl [.slice av B.length cv] 22),aK 5 1 (.slice wa W.length wc) W.length (bV W)] _))) ?_ bI
  rintro _ _⟨e,y,rfl,rfl,hr⟩
  refine aT (aq.trans (aq.pick [1] rfl) (aq.cR [aJ bd y.1,ak jb (cl [ptr bd,.string name,.int .i64 y.2.1,.int .i64 y.2.2.1,.int .i64 y.2.2.2,.bool br] 188),ak xj (cl [ptr jb] 95),ak xf (cl [.string fresh] 9),ak x9 (cl [.slice wa W.length wc] 22),ak xb (cl [.slice av B.length cv] 22),aK 5 1 (.slice wa W.length wc) W.length (bV W)] _)) (go ?_)
  refine ah hE Tryz.func110 zr zr ⟨e,y,rfl,rfl,hr⟩
def TR(name:ByteArray)(f:Nat):((Ab.new 1).create (isName name) name f).1=if isName name then 0 else 1:=by
 cases h:isName name <;> simp[Ab.create,Ab.meet,Ab.new,Ab.look,Ab.cW]
def zF(name:ByteArray):aH Tryz.prog 106 [.string name] [] (fun r H=>r = .bool (isName name)∧H=[]):=by
 refine aH.aC Tryz.func106 Tryz.ntmps106 fun G F R hE=>?_
 refine go ?_
 refine ao (FB 1 aj aj) ?_
 rintro _ _⟨bd,rfl,rfl⟩
 refine go ?_
 refine ao (mW bd (Ab.new 1) name (by simp[Ab.new])) ?_
 rintro _ _⟨f,hf,rfl,rfl⟩
 rw[TR]
 refine go ?_
 ((refine aE 2 ((.bool (isName name))) rfl ((congrArg Value.bool (by cases isName name <;> rfl))) ?_))
 refine al (aq.drop _ _) ?_
 refine ah hE Tryz.func106 zr zr ⟨rfl,rfl⟩
def qA(jb bd:Nat)(name:ByteArray)(n s c:Int)(br:Bool)(e:Nat):aH Tryz.prog 124 [ptr jb,.int .i64 (e:Int)] [jr jb bd name n s c br] (fun r H=>r = .int .i64 (e:Int)∧H=[jr jb bd name n s c (br || decide (e≠0))]):=by
 unfold jr
 refine aH.aC Tryz.func124 Tryz.ntmps124 fun G F R hE=>?_
 cases br
 ·refine go ?_
  have hd:decide ((e:Int)≠0)=(false || decide (e≠0)):=by by_cases h:e=0 <;> simp[h]
  simp only[hd]
  refine ah hE Tryz.func124 zr zr ⟨rfl,rfl⟩
 ·refine go ?_
  refine ah hE Tryz.func124 zr zr ⟨rfl,rfl⟩
structure JN where
 n:Int
 s:Int
 c:Int
 br:Bool
def uY(jb bd:Nat)(name:ByteArray)(x:JN):HP:=jr jb bd name x.n x.s x.c x.br
def eW(name:ByteArray)(A:Ab)(x:JN)(b:List UInt8):Nat × Ab × JN :=
 if x.br then(10,A,x)else if 4096<b.length then(1,A,x)else if 524288<x.s+(bB b).length then(3,A,x)else
 if(A.write (gG name (32+x.s) (bB b)) name (32+x.s).toNat (bB b)).1=0 then(0,(A.write (gG name (32+x.s) (bB b)) name (32+x.s).toNat (bB b)).2,{ x with s:=x.s+(bB b).length })
 else((A.write (gG name (32+x.s) (bB b)) name (32+x.s).toNat (bB b)).1,(A.write (gG name (32+x.s) (bB b)) name (32+x.s).toNat (bB b)).2,{ x with br:=true })
theorem sg(b:List UInt8)(h:b.length≤1000000000000):(bB b).length≤b.length+10:=by
 grind [lL,bB]
def jrE(jb bd:Nat)(name:ByteArray)(n s c:Int):HP:=fun h=>∃br,ak jb (cl [ptr bd,.string name,.int .i64 n,.int .i64 s,.int .i64 c,.bool br] 188) h
def JZ(jb bd:Nat)(name:ByteArray)(n s c:Int)(br:Bool)(H:List HP):aq (ak jb (cl [ptr bd,.string name,.int .i64 n,.int .i64 s,.int .i64 c,.bool br] 188)::H) (jrE jb bd name n s c::H) :=
 aq.fold (B:=[_]) fun h' hs=>⟨h',sub.refl h',br,eO hs⟩
end Go.Proofs.YtlionahpheehaaaGreatDoor
namespace Go.Proofs.YtlionahpheehaaaGreatDoor
open Go Go.SL
def A5{G:cL}{w:World}{jb bd:Nat}{name:ByteArray}{n s c:Int}(hw:Sat G w [jrE jb bd name n s c]):w.cell? ⟨jb,0,none⟩=some (ptr bd)∧w.cell? ⟨jb,1,none⟩=some (.string name)∧w.cell? ⟨jb,3,none⟩=some (.int .i64 s):=by
 obtain⟨h,hh,br,hA⟩:=hw.kp (i:=0) rfl
 have hb:h jb=some (cl [ptr bd,.string name,.int .i64 n,.int .i64 s,.int .i64 c,.bool br] 188):=by rw[hA jb,if_pos rfl]
 exact⟨ek hh (by unfold eB;rw[hb];rfl),ek hh (by unfold eB;rw[hb];rfl),ek hh (by unfold eB;rw[hb];rfl)⟩
attribute [local irreducible] J K aH Ends ak aK aV bX bj aS bp bD cp aJ
def Ld(jb bd:Nat)(name:ByteArray)(A:Ab)(x:JN)(X:HP)(bv:Value)(b:List UInt8)(hv:eU X bv b)(hl:b.length≤9223372036854775807)(hs:0≤x.s∧x.s≤1000000000)(fD:A.writes.length≤1000000000) :
  aH Tryz.prog 127 [ptr jb,bv] [aJ bd A,uY jb bd name x,X]
   (fun r H=>r = .int .i64 ((eW name A x b).1:Int)∧H=[aJ bd (eW name A x b).2.1,uY jb bd name (eW name A x b).2.2,X]):=by
 obtain⟨n,s,c,br⟩:=x
 obtain⟨a,cc,rfl,hc⟩:=hv.2
 simp only at hs
 dsimp only [uY,jr]
 refine aH.aC Tryz.func127 Tryz.ntmps127 fun G F R hE=>?_
 dsimp only [eW]at hE
 cases br with
 | true =>
  simp only[if_true]at hE
  refine go ?_
  refine ah hE Tryz.func127 zr zr ⟨rfl,rfl⟩
 | false =>
  simp only[Bool.false_eq_true,if_false]at hE
  refine go ?_
  refine aB zr zr ?_ ?_
  ·intro xZ
   rw[if_pos aj]at hE
   refine go ?_
   refine ah hE Tryz.func127 zr zr ⟨rfl,rfl⟩
  intro Du
  have hb4:b.length≤4096:=by omega
  have tq:=sg b aj
  rw[if_neg aj]at hE
  refine go ?_
  refine ao (ki X _ b hv aj) ?_
  rintro r _ rfl
  refine aN 0 rfl ?_
  rintro ra rc rfl
  refine fY (bs:=bB b) 0 rfl ?_
  intro r'
  refine go ?_
  refine aB zr zr ?_ ?_
  ·intro xZ
   rw[if_pos aj]at hE
   refine go ?_
   refine ah hE Tryz.func127 zr zr ⟨rfl,rfl⟩
  intro we
  rw[if_neg aj]at hE
  refine go ?_
  refine aO (fun w=>Sat G w [jrE jb bd name n s c]) (dM 0 15 (.act 15 (.act 16 (.st 17 .nil)))) rfl aw aw aw (fun w hw=>hw.cI (aq.trans ad (JZ jb bd name n s c false []))) ?_
  refine go ?_
  refine aY ?_
  refine mT zr zr (fun w hw=>(A5 hw).1) zr zr ?_
  refine go ?_
  refine aY ?_
  refine mT zr zr (fun w hw=>(A5 hw).2.1) zr zr ?_
  refine go ?_
  refine aY ?_
  refine mT zr zr (fun w hw=>(A5 hw).2.2) zr zr ?_
  refine go ?_
  obtain⟨W,hW⟩:∃W,W=A.write (gG name (32+s) (bB b)) name (32+s).toNat (bB b):=⟨_,rfl⟩
  have qW:=sn bd A name (32+s) (aK 5 1 (.slice ra (bB b).length rc) (bB b).length (bV (bB b))) (.slice ra (bB b).length rc) (bB b) r'.1 fD aj aj
  rw[← hW]at hE qW
  refine fq rfl rfl rfl rfl qW ad ?_ (fun _ _ w hp hw=>by obtain⟨rfl,rfl⟩:=hp;exact hw.cI (aq.trans ad (JZ jb bd name n s c false [])))
  rintro _ _⟨rfl,rfl⟩
  refine fq zr zr zr zr (qA jb bd name n s c false W.1) ad ?_ (fun _ _ w hp hw=>by obtain⟨rfl,rfl⟩:=hp;exact hw.cI (aq.trans ad (JZ jb bd name n s c _ [])))
  rintro _ _⟨rfl,rfl⟩
  unfold jr
  refine go ?_
  refine aB zr zr ?_ ?_
  ·intro dw
   have hJ:¬W.1=0:=by omega
   rw[if_neg hJ]at hE
   have hd:(false || decide (W.1≠0))=true:=by simp[hJ]
   simp only[hd]
   refine go ?_
   refine ah hE Tryz.func127 zr zr ⟨rfl,rfl⟩
  ·intro heq
   have wg:W.1=0:=by omega
   rw[if_pos wg]at hE
   have hd:(false || decide (W.1≠0))=false:=by simp[wg]
   simp only[hd]
   refine go ?_
   refine ah hE Tryz.func127 zr zr ⟨rfl,rfl⟩
def CI(bd jb x1 x3:Nat)(name:ByteArray)(next sz:Nat)(x:PS):HP:=Sep [aJ bd x.1,ak jb (cl [ptr bd,.string name,.int .i64 x.2.1,.int .i64 x.2.2.1,.int .i64 x.2.2.2,.bool false] 188),ak x1 (cl [ptr jb] 95),ak x3 (cl [.int .i64 (next:Int)] 3)]
def CQ(sz:Nat)(i:Nat)(x:PS):Prop:=x.2.2.1=(sz:Int)∧x.1.aF.length≤900000000+i∧x.1.writes.length≤900000000+i
def CQ.next{sz i:Nat}{x:PS}(h:CQ sz i x){B:Ab}(g:kU x.1 B):CQ sz (i+1) (B,x.2):=by
 obtain⟨h0,h1,h2⟩:=h
 obtain⟨g1,g2⟩:=g
 exact⟨h0,by simp only;omega,by simp only;omega⟩
def Mh(name:ByteArray):=Vo fun A e B=>e=(A.sync (isName name) name).1∧B=(A.sync (isName name) name).2
def Wa(name:ByteArray)(next sz:Nat):=Vo fun A e B=>e=(A.write (gG name ((next%2*16:Nat):Int) (cq next sz)) name (next%2*16) (cq next sz)).1∧B=(A.write (gG name ((next%2*16:Nat):Int) (cq next sz)) name (next%2*16) (cq next sz)).2
def adT(next:Nat)(x:PS)(e:Nat)(y:PS):Prop:=e=0∧y=(x.1,(next:Int),x.2.2.1,x.2.2.1)
def sh(name:ByteArray)(next sz:Nat):List (PS→Nat→PS→Prop):=[Mh name,Wa name next sz,Mh name,adT next]
def jh(name:ByteArray)(A:Ab)(x:JN)(e:Nat)(A':Ab)(x':JN):Prop :=
 if x.br then e=10∧A'=A∧x'=x else if x.s=x.c then e=0∧A'=A∧x'=x else if 1073741824≤x.n then e=3∧A'=A∧x'=x
 else ∃y:PS,jG (sh name (x.n.toNat+1) x.s.toNat) (A,x.n,x.s,x.c) e y∧A'=y.1∧x'=⟨y.2.1,y.2.2.1,y.2.2.2,decide (e≠0)⟩
def IQ(bd jb x1 x3:Nat)(name:ByteArray)(next sz:Nat)(A:Ab)(n s c:Int)(fD:A.writes.length≤1000000000) :
  aH Tryz.prog 195 [ptr x1] ([aJ bd A,ak jb (cl [ptr bd,.string name,.int .i64 n,.int .i64 s,.int .i64 c,.bool false] 188),ak x1 (cl [ptr jb] 95),ak x3 (cl [.int .i64 (next:Int)] 3)]) (fun r H=>∃(e:Nat) (A1:Ab),e=(A.sync (isName name) name).1∧A1=(A.sync (isName name) name).2∧r = .int .i64 (e:Int)∧H=[aJ bd A1,ak jb (cl [ptr bd,.string name,.int .i64 n,.int .i64 s,.int .i64 c,.bool false] 188),ak x1 (cl [ptr jb] 95),ak x3 (cl [.int .i64 (next:Int)] 3)]):=by
 refine aH.aC Tryz.func195 Tryz.ntmps195 fun G F R hE=>?_
 refine go ?_
 refine aO (fun w=>Sat G w ([ak jb (cl [ptr bd,.string name,.int .i64 n,.int .i64 s,.int .i64 c,.bool false] 188),ak x1 (cl [ptr jb] 95),ak x3 (cl [.int .i64 (next:Int)] 3)])) (dM 0 8 (.act 8 (.st 9 .nil))) rfl aw aw aw dI ?_
 refine go ?_
 refine Vd (lH bd A name fD) ?_
 refine go ?_
 refine ah hE Tryz.func195 zr zr ⟨_,_,rfl,rfl,rfl,rfl⟩
def IN(bd jb x1 x3:Nat)(name:ByteArray)(next sz:Nat)(A:Ab)(n s c:Int)(fD:A.writes.length≤1000000000) :
  aH Tryz.prog 197 [ptr x1] ([aJ bd A,ak jb (cl [ptr bd,.string name,.int .i64 n,.int .i64 s,.int .i64 c,.bool false] 188),ak x1 (cl [ptr jb] 95),ak x3 (cl [.int .i64 (next:Int)] 3)]) (fun r H=>∃(e:Nat) (A1:Ab),e=(A.sync (isName name) name).1∧A1=(A.sync (isName name) name).2∧r = .int .i64 (e:Int)∧H=[aJ bd A1,ak jb (cl [ptr bd,.string name,.int .i64 n,.int .i64 s,.int .i64 c,.bool false] 188),ak x1 (cl [ptr jb] 95),ak x3 (cl [.int .i64 (next:Int)] 3)]):=by
 refine aH.aC Tryz.func197 Tryz.ntmps197 fun G F R hE=>?_
 refine go ?_
 refine aO (fun w=>Sat G w ([ak jb (cl [ptr bd,.string name,.int .i64 n,.int .i64 s,.int .i64 c,.bool false] 188),ak x1 (cl [ptr jb] 95),ak x3 (cl [.int .i64 (next:Int)] 3)])) (dM 0 8 (.act 8 (.st 9 .nil))) rfl aw aw aw dI ?_
 refine go ?_
 refine Vd (lH bd A name fD) ?_
 refine go ?_
 refine ah hE Tryz.func197 zr zr ⟨_,_,rfl,rfl,rfl,rfl⟩
def IP(bd jb x1 x3:Nat)(name:ByteArray)(next sz:Nat)(rn:next≤2000000000)(kr:sz≤2000000000)(A:Ab)(n c:Int)(fD:A.writes.length≤1000000000) :
  aH Tryz.prog 196 [ptr x1,ptr x3] ([aJ bd A,ak jb (cl [ptr bd,.string name,.int .i64 n,.int .i64 (sz:Int),.int .i64 c,.bool false] 188),ak x1 (cl [ptr jb] 95),ak x3 (cl [.int .i64 (next:Int)] 3)]) (fun r H=>∃(e:Nat) (A1:Ab),e=(A.write (gG name ((next%2*16:Nat):Int) (cq next sz)) name (next%2*16) (cq next sz)).1∧A1=(A.write (gG name ((next%2*16:Nat):Int) (cq next sz)) name (next%2*16) (cq next sz)).2∧r = .int .i64 (e:Int)∧H=[aJ bd A1,ak jb (cl [ptr bd,.string name,.int .i64 n,.int .i64 (sz:Int),.int .i64 c,.bool false] 188),ak x1 (cl [ptr jb] 95),ak x3 (cl [.int .i64 (next:Int)] 3)]):=by
 refine aH.aC Tryz.func196 Tryz.ntmps196 fun G F R hE=>?_
 refine go ?_
 refine aO (fun w=>Sat G w ([ak jb (cl [ptr bd,.string name,.int .i64 n,.int .i64 (sz:Int),.int .i64 c,.bool false] 188),ak x1 (cl [ptr jb] 95),ak x3 (cl [.int .i64 (next:Int)] 3)])) (dM 0 16 (.act 16 (.act 17 (.st 18 .nil)))) rfl aw aw aw dI ?_
 refine go ?_
 refine uy zr zr zr aj aj ?_
 refine au 12 (.int .i64 ((next%2:Nat):Int)) rfl (congrArg (Value.int .i64) aj) (go ?_)
 refine nG zr zr zr (by simp only[js];omega) ?_
 refine au 13 (.int .i64 ((next%2*16:Nat):Int)) rfl (congrArg (Value.int .i64) aj) (go ?_)
 refine bz (pj next sz aj aj) ?_
 rintro _ _ rfl
 refine aN 0 rfl ?_
 rintro ra rc rfl
 refine fY (bs:=cq next sz) 0 rfl ?_
 intro r'
 have qW:=sn bd A name ((next%2*16:Nat):Int) _ _ (cq next sz) r'.1 fD (by rw[gT];omega) aj
 rw[Int.toNat_natCast]at qW
 refine Vd qW ?_
 refine go ?_
 refine ah hE Tryz.func196 zr zr ⟨_,_,rfl,rfl,rfl,rfl⟩
def jrS(jb:Nat)(s:Int):HP:=fun h=>∃bd name n c br,ak jb (cl [ptr bd,.string name,.int .i64 n,.int .i64 s,.int .i64 c,.bool br] 188) h
def QQ(jb bd:Nat)(name:ByteArray)(n s c:Int)(br:Bool)(H:List HP):aq (ak jb (cl [ptr bd,.string name,.int .i64 n,.int .i64 s,.int .i64 c,.bool br] 188)::H) (jrS jb s::H) :=
 aq.fold (B:=[_]) fun h' hs=>⟨h',sub.refl h',bd,name,n,c,br,eO hs⟩
end Go.Proofs.YtlionahpheehaaaGreatDoor
namespace Go.Proofs.YtlionahpheehaaaGreatDoor
open Go Go.SL
def QR{G:cL}{w:World}{jb:Nat}{s:Int}{H:List HP}(hw:Sat G w (jrS jb s::H)):w.cell? ⟨jb,3,none⟩=some (.int .i64 s):=by
 obtain⟨h,hh,bd,name,n,c,br,hA⟩:=hw.kp (i:=0) rfl
 have hb:h jb=some (cl [ptr bd,.string name,.int .i64 n,.int .i64 s,.int .i64 c,.bool br] 188):=by rw[hA jb,if_pos rfl]
 exact ek hh (by unfold eB;rw[hb];rfl)
attribute [local irreducible] J K aH Ends ak aK aV bX bj aS bp bD cp aJ
def IM(bd jb x1 x3:Nat)(name:ByteArray)(next sz:Nat)(A:Ab)(n s c:Int) :
  aH Tryz.prog 198 [ptr x3,ptr x1] ([aJ bd A,ak jb (cl [ptr bd,.string name,.int .i64 n,.int .i64 s,.int .i64 c,.bool false] 188),ak x1 (cl [ptr jb] 95),ak x3 (cl [.int .i64 (next:Int)] 3)]) (fun r H=>r = .int .i64 0∧H=[aJ bd A,ak jb (cl [ptr bd,.string name,.int .i64 (next:Int),.int .i64 s,.int .i64 s,.bool false] 188),ak x1 (cl [ptr jb] 95),ak x3 (cl [.int .i64 (next:Int)] 3)]):=by
 refine aH.aC Tryz.func198 Tryz.ntmps198 fun G F R hE=>?_
 refine go ?_
 refine aO (fun w=>Sat G w [jrS jb s,ak x1 (cl [ptr jb] 95),ak x3 (cl [.int .i64 (next:Int)] 3)]) (dM 0 9 (.act 9 (.st 10 (.st 11 (.act 12 .nil))))) rfl aw aw aw (fun w hw=>hw.cI (aq.trans ad (QQ jb bd name _ s _ _ _))) ?_
 refine go ?_
 refine aY ?_
 refine mT zr zr (fun w hw=>QR hw) zr zr ?_
 refine go ?_
 refine bE ?_
 refine aD 1 (fun w hw=>by exact hw.cI (aq.trans ad (QQ jb bd name _ s _ _ _))) zr zr zr zr zr zr zr zr zr ?_
 refine go ?_
 refine ah hE Tryz.func198 zr zr ⟨rfl,rfl⟩
def OT(bd jb x1 x3:Nat)(name:ByteArray)(next sz:Nat)(i:Nat)(hi:i≤10)(x:PS)(hq:CQ sz i x) :
  aH Tryz.prog 195 [ptr x1] [CI bd jb x1 x3 name next sz x] (fun r H=>∃(e:Nat) (x':PS),r = .int .i64 (e:Int)∧H=[CI bd jb x1 x3 name next sz x']∧Mh name x e x'∧(e=0→CQ sz (i+1) x')):=by
 obtain⟨A,n,s,c⟩:=x
 have h0:=hq.1
 simp only at h0
 subst h0
 exact(IQ bd jb x1 x3 name next sz A n (sz:Int) c (by have:=hq.2.2;simp only at this;omega)).conv (aq.mY _) (by
  rintro v H⟨e,A1,he,u5,rfl,rfl⟩
  exact⟨_,⟨_,(A1,n,(sz:Int),c),rfl,rfl,⟨⟨he,u5⟩,rfl⟩,fun _=>hq.next (u5 ▸ lu _ _ _)⟩,aq.nf _⟩)
def OR(bd jb x1 x3:Nat)(name:ByteArray)(next sz:Nat)(i:Nat)(hi:i≤10)(x:PS)(hq:CQ sz i x) :
  aH Tryz.prog 197 [ptr x1] [CI bd jb x1 x3 name next sz x] (fun r H=>∃(e:Nat) (x':PS),r = .int .i64 (e:Int)∧H=[CI bd jb x1 x3 name next sz x']∧Mh name x e x'∧(e=0→CQ sz (i+1) x')):=by
 obtain⟨A,n,s,c⟩:=x
 have h0:=hq.1
 simp only at h0
 subst h0
 exact(IN bd jb x1 x3 name next sz A n (sz:Int) c (by have:=hq.2.2;simp only at this;omega)).conv (aq.mY _) (by
  rintro v H⟨e,A1,he,u5,rfl,rfl⟩
  exact⟨_,⟨_,(A1,n,(sz:Int),c),rfl,rfl,⟨⟨he,u5⟩,rfl⟩,fun _=>hq.next (u5 ▸ lu _ _ _)⟩,aq.nf _⟩)
def OS(bd jb x1 x3:Nat)(name:ByteArray)(next sz:Nat)(i:Nat)(hi:i≤10)(rn:next≤2000000000)(kr:sz≤2000000000)(x:PS)(hq:CQ sz i x) :
  aH Tryz.prog 196 [ptr x1,ptr x3] [CI bd jb x1 x3 name next sz x] (fun r H=>∃(e:Nat) (x':PS),r = .int .i64 (e:Int)∧H=[CI bd jb x1 x3 name next sz x']∧Wa name next sz x e x'∧(e=0→CQ sz (i+1) x')):=by
 obtain⟨A,n,s,c⟩:=x
 have h0:=hq.1
 simp only at h0
 subst h0
 exact(IP bd jb x1 x3 name next sz rn kr A n c (by have:=hq.2.2;simp only at this;omega)).conv (aq.mY _) (by
  rintro v H⟨e,A1,he,u5,rfl,rfl⟩
  exact⟨_,⟨_,(A1,n,(sz:Int),c),rfl,rfl,⟨⟨he,u5⟩,rfl⟩,fun _=>hq.next (u5 ▸ lr _ _ _ _ _)⟩,aq.nf _⟩)
def OQ(bd jb x1 x3:Nat)(name:ByteArray)(next sz:Nat)(i:Nat)(hi:i≤10)(x:PS)(hq:CQ sz i x) :
  aH Tryz.prog 198 [ptr x3,ptr x1] [CI bd jb x1 x3 name next sz x] (fun r H=>∃(e:Nat) (x':PS),r = .int .i64 (e:Int)∧H=[CI bd jb x1 x3 name next sz x']∧adT next x e x'∧(e=0→CQ sz (i+1) x')):=by
 obtain⟨A,n,s,c⟩:=x
 have h0:=hq.1
 simp only at h0
 subst h0
 exact(IM bd jb x1 x3 name next sz A n (sz:Int) c).conv (aq.mY _) (by
  rintro v H⟨rfl,rfl⟩
  exact⟨_,⟨_,(A,(next:Int),(sz:Int),(sz:Int)),(by exact(congrArg (Value.int .i64) (show(0:Int)=((0:Nat):Int)from rfl))),rfl,⟨rfl,rfl⟩,fun _=>⟨rfl,by have:=hq.2.1;simp only at this ⊢;omega,by have:=hq.2.2;simp only at this ⊢;omega⟩⟩,aq.nf _⟩)
def K7(jb bd:Nat)(name:ByteArray)(A:Ab)(x:JN)(hn:0≤x.n)(hs:0≤x.s∧x.s≤1000000000)(cN:A.aF.length≤900000000)(qW:A.writes.length≤900000000) :
  aH Tryz.prog 128 [ptr jb] [aJ bd A,uY jb bd name x]
   (fun r H=>∃(e:Nat) (A':Ab) (x':JN),r = .int .i64 (e:Int)∧H=[aJ bd A',uY jb bd name x']∧jh name A x e A' x'):=by
 obtain⟨n,s,c,br⟩:=x
 simp only at hs hn
 dsimp only [uY,jr]
 refine aH.aC Tryz.func128 Tryz.ntmps128 fun G F R hE=>?_
 refine go ?_
 refine bJ zr zr bO ?_
 intro x1
 cases br with
 | true =>
  refine go ?_
  ((refine ah hE Tryz.func128 zr zr ⟨10,A,⟨n,s,c,true⟩,rfl,rfl,(by unfold jh;rw[if_pos rfl];exact⟨rfl,rfl,rfl⟩)⟩))
 | false =>
  refine go ?_
  refine aO (fun w=>Sat G w ([ak x1 (cl [ptr jb] 95),ak jb (cl [ptr bd,.string name,.int .i64 n,.int .i64 s,.int .i64 c,.bool false] 188)])) (dM 0 10 .nil) rfl aw aw aw dI ?_
  refine go ?_
  refine aB zr zr ?_ ?_
  ·intro heq
   refine go ?_
   ((refine ah hE Tryz.func128 zr zr ⟨0,A,⟨n,s,c,false⟩,rfl,rfl,(by unfold jh;rw[if_neg (by simp),if_pos heq];exact⟨rfl,rfl,rfl⟩)⟩))
  intro dw
  refine go ?_
  refine aB zr zr ?_ ?_
  ·intro xZ
   refine go ?_
   ((refine ah hE Tryz.func128 zr zr ⟨3,A,⟨n,s,c,false⟩,rfl,rfl,(by unfold jh;rw[if_neg (by simp),if_neg dw,if_pos xZ];exact⟨rfl,rfl,rfl⟩)⟩))
  intro Du
  obtain⟨sz,rfl⟩:∃sz:Nat,s=(sz:Int):=⟨s.toNat,aj⟩
  obtain⟨nx,rn⟩:∃nx:Nat,n+1=(nx:Int):=⟨n.toNat+1,aj⟩
  refine go ?_
  refine au 29 (.int .i64 (nx:Int)) rfl (congrArg (Value.int .i64) rn) ?_
  refine aL zr zr zr bO ?_
  intro x3
  refine go ?_
  refine aO (fun w=>Sat G w ([ak x1 (cl [ptr jb] 95)])) (dM 0 5 (.act 5 (.act 6 (.act 7 (.st 8 .nil))))) rfl aw aw aw dI ?_
  refine go ?_
  have xT:∀(i:Nat) (fv:Value) (s:PS→Nat→PS→Prop),([.func (.func 195) #[] #[ptr x1],.func (.func 196) #[] #[ptr x1,ptr x3],.func (.func 197) #[] #[ptr x1],.func (.func 198) #[] #[ptr x3,ptr x1] ]:List Value)[i]?=some fv→(sh name nx sz)[i]?=some s→∃g fi cap,fv = .func (.func g) fi cap∧∀x,CQ sz i x→aH Tryz.prog g (fi.toList++cap.toList) [CI bd jb x1 x3 name nx sz x] (fun r H=>∃(e:Nat) (x':PS),r = .int .i64 (e:Int)∧H=[CI bd jb x1 x3 name nx sz x']∧s x e x'∧(e=0→CQ sz (i+1) x')):=by
   intro i f1 s1 h1 h2
   match i,h1,h2 with
   | 0,h1,h2=>cases h1;cases h2;exact⟨_,_,_,rfl,fun x hq=>OT bd jb x1 x3 name nx sz 0 aj x hq⟩
   | 1,h1,h2=>cases h1;cases h2;exact⟨_,_,_,rfl,fun x hq=>OS bd jb x1 x3 name nx sz 1 aj aj aj x hq⟩
   | 2,h1,h2=>cases h1;cases h2;exact⟨_,_,_,rfl,fun x hq=>OR bd jb x1 x3 name nx sz 2 aj x hq⟩
   | 3,h1,h2=>cases h1;cases h2;exact⟨_,_,_,rfl,fun x hq=>OQ bd jb x1 x3 name nx sz 3 aj x hq⟩
   | k+4,h1,h2=>simp at h1
  refine az (cs:=[.func (.func 195) #[] #[ptr x1],.func (.func 196) #[] #[ptr x1,ptr x3],.func (.func 197) #[] #[ptr x1],.func (.func 198) #[] #[ptr x3,ptr x1] ]) zr zr zr zr zr zr zr zr zr (fun _ w hw=>by exact hw.cI ad) ?_
  intro row
  have fH:=Mj (CI bd jb x1 x3 name nx sz) (ak row (cl ([.func (.func 195) #[] #[ptr x1],.func (.func 196) #[] #[ptr x1,ptr x3],.func (.func 197) #[] #[ptr x1],.func (.func 198) #[] #[ptr x3,ptr x1] ]) 94)) (.slice (some ⟨row,0,none⟩) 4 4) ([.func (.func 195) #[] #[ptr x1],.func (.func 196) #[] #[ptr x1,ptr x3],.func (.func 197) #[] #[ptr x1],.func (.func 198) #[] #[ptr x3,ptr x1] ]) (Vw.ak rfl) (by show 4≤_;omega) (sh name nx sz) rfl (CQ sz) xT (A,n,(sz:Int),c) ⟨rfl,by simp only;omega,by simp only;omega⟩
  refine fq zr zr zr zr fH (aq.trans ad (aq.cons _ (aq.cg ([aJ bd A,ak jb (cl [ptr bd,.string name,.int .i64 n,.int .i64 (sz:Int),.int .i64 c,.bool false] 188),ak x1 (cl [ptr jb] 95),ak x3 (cl [.int .i64 (nx:Int)] 3)]) _))) ?_ (fun _ _ w hp hw=>by
   obtain⟨e,y,rfl,rfl,hr⟩:=hp
   exact hw.cI (aq.trans (aq.trans (aq.pick [1] rfl) (aq.cR ([aJ bd y.1,ak jb (cl [ptr bd,.string name,.int .i64 y.2.1,.int .i64 y.2.2.1,.int .i64 y.2.2.2,.bool false] 188),ak x1 (cl [ptr jb] 95),ak x3 (cl [.int .i64 (nx:Int)] 3)]) _)) ad))
  rintro _ _⟨e,y,rfl,rfl,hr⟩
  refine aT (aq.trans (aq.pick [1] rfl) (aq.cR ([aJ bd y.1,ak jb (cl [ptr bd,.string name,.int .i64 y.2.1,.int .i64 y.2.2.1,.int .i64 y.2.2.2,.bool false] 188),ak x1 (cl [ptr jb] 95),ak x3 (cl [.int .i64 (nx:Int)] 3)]) _)) ?_
  refine Vd (qA jb bd name y.2.1 y.2.2.1 y.2.2.2 false e) ?_
  unfold jr
  refine go ?_
  ((refine ah hE Tryz.func128 zr zr ⟨e,y.1,⟨y.2.1,y.2.2.1,y.2.2.2,decide (e≠0)⟩,rfl,rfl,(by unfold jh;rw[if_neg (by simp),if_neg dw,if_neg Du];exact⟨y,(by simp only[Int.toNat_natCast];rw[show n.toNat+1=nx from by omega];exact hr),rfl,rfl⟩)⟩))
end Go.Proofs.YtlionahpheehaaaGreatDoor
namespace Go.Proofs.YtlionahpheehaaaGreatDoor
open Go Go.SL
theorem rG:∀(f:Nat) (bs:List UInt8),((gR f bs).flatMap bB).length≤2*bs.length∧(gR f bs).length≤bs.length∧∀x∈gR f bs,x.length≤4096
 | 0,bs=>by simp[gR]
 | f+1,bs=>by
  unfold gR
  split
  ·simp
  ·rename_i k n hl
   have hp:=tk hl
   split
   ·rename_i hb
    obtain⟨h1,h2,h3⟩:=rG f (bs.drop (k+n))
    have hx:((bs.drop k).take n).length=n:=by rw[List.length_take,List.length_drop];omega
    have he:(bB ((bs.drop k).take n)).length≤n+2:=by
     have:=xl 1 n (by have:=hp.2.2.2;omega)
     grind [bB]
    grind
   ·simp
def rH(bs:List UInt8):((cC bs).flatMap bB).length≤2*bs.length∧(cC bs).length≤bs.length∧∀x∈cC bs,x.length≤4096:=rG _ bs
def wR(M:gw)(cs:List Value)(ls:List (List UInt8)):Prop:=cs.length=ls.length∧∀(j:Nat) (y:List UInt8),ls[j]?=some y→∃cv,cs[j]?=some cv∧FX M 1 cv y.length (bV y)
def LI(lb:Nat)(ls:List (List UInt8)):HP:=fun h=>∃x:Value × List Value × gw,wR x.2.2 x.2.1 ls∧Sep [ak lb (cl [x.1] 96),aK 22 1 x.1 ls.length x.2.1,bp 5 x.2.2] h
def BM(e:TypeId)(H:List HP):aq H (bp e []::H):=aq.sm H
def Si(lb:Nat)(a:Option Addr)(H:List HP):aq (ak lb (cl [.slice a 0 0] 96)::H) (LI lb []::H):=by
 have h1:aq (ak lb (cl [.slice a 0 0] 96)::H) ([ak lb (cl [.slice a 0 0] 96),aK 22 1 (.slice a 0 0) 0 [],bp 5 [] ]++H) :=
  aq.cons _ ((bS 22 1 a H).trans (aq.cons _ (BM 5 H)))
 exact h1.trans (aq.fold fun h hs=>⟨h,sub.refl h,(.slice a 0 0,[],[]),⟨rfl,fun j y hj=>by simp at hj⟩,hs⟩)
theorem U8(lb:Nat)(ls:List (List UInt8))(x:List UInt8)(v rv:Value)(cs:List Value)(M M':gw)(hR:wR M cs ls)(hr:FX M' 1 rv x.length (bV x))(hs:∀y∈M,y∈M')(H:List HP) :
  aq (ak lb (cl [v] 96)::aK 22 1 v (ls.length+1) (cs++[rv])::bp 5 M'::H) (LI lb (ls++[x])::H):=by
 refine aq.fold (B:=[ak lb (cl [v] 96),aK 22 1 v (ls.length+1) (cs++[rv]),bp 5 M']) fun h hp=>⟨h,sub.refl h,(v,cs++[rv],M'),⟨by simp[hR.1],fun j y hj=>?_⟩,by simp only[List.length_append,List.length_singleton];exact hp⟩
 simp only
 rw[List.getElem?_append]at hj ⊢
 rw[hR.1]
 split at hj
 ·rename_i dk
  obtain⟨cv,h1,h2⟩:=hR.2 j y hj
  rw[if_pos dk]
  exact⟨cv,h1,h2.mono hs⟩
 grind
def Mo(lb:Nat)(ls:List (List UInt8)):∀h,LI lb ls h→∃x:Value × List Value × gw,wR x.2.2 x.2.1 ls∧Sep [ak lb (cl [x.1] 96),aK 22 1 x.1 ls.length x.2.1,bp 5 x.2.2] h:=fun h hs=>hs
def yP(v:Value)(ls:List (List UInt8)):HP:=fun h=>∃x:List Value × gw,wR x.2 x.1 ls∧Sep [aK 22 1 v ls.length x.1,bp 5 x.2] h
def QK{v:Value}{ls:List (List UInt8)}{cs:List Value}{M:gw}(hR:wR M cs ls)(H:List HP):aq (aK 22 1 v ls.length cs::bp 5 M::H) (yP v ls::H) :=
 aq.fold (B:=[aK 22 1 v ls.length cs,bp 5 M]) fun h hp=>⟨h,sub.refl h,(cs,M),hR,hp⟩
def JX(v:Value)(ls:List (List UInt8)):∀h,yP v ls h→∃x:List Value × gw,wR x.2 x.1 ls∧Sep [aK 22 1 v ls.length x.1,bp 5 x.2] h:=fun h hs=>hs
theorem wR.lat{v:Value}{ls:List (List UInt8)}{cs:List Value}{M:gw}(hR:wR M cs ls)(h0:∃h,aK 22 1 v ls.length cs h):xh (Sep [aK 22 1 v ls.length cs,bp 5 M]) v ls:=by
 have hv:=Vw.lj 22 1 v ls.length cs h0
 refine⟨cs,hv.mono (aX (i:=0) rfl),hR.1,?_,fun i x hx=>?_⟩
 ·obtain⟨h,hl,⟨a,rfl,hn,_⟩|⟨b,o,cap,pre,junk,rfl,hp,hn,hc,_⟩⟩:=h0
  ·grind
  grind
 ·obtain⟨cv,h1,h2⟩:=hR.2 i x hx
  obtain⟨a,c,rl,hc⟩:=h2.shape
  exact⟨cv,h1,(h2.view 5).mono (aX (i:=1) rfl),a,c,rl,hc⟩
section
variable{P:Program}{f:FuncId}{n:Nat}{R:Ending→World→Prop}{G:cL}{k:List Item}{L:gh}{H:List HP}
def We{v:Value}{ls:List (List UInt8)}{cs:List Value}{M:gw}(i:Nat)(hR:wR M cs ls)(hi:cD H i=some (aK 22 1 v ls.length cs))(h:xh (Sep [aK 22 1 v ls.length cs,bp 5 M]) v ls→K P f n R G k L H):K P f n R G k L H :=
 pH fun⟨w,hw⟩=>by
  obtain⟨h1,_,hA⟩:=hw.kp hi
  exact h (hR.lat ⟨h1,hA⟩)
def ad5{bd:Nat}{A:Ab}(i:Nat)(hi:cD H i=some (aJ bd A))(h:(∃D,Rel D A)→K P f n R G k L H):K P f n R G k L H :=
 pH fun⟨w,hw⟩=>by
  obtain⟨h1,_,D,hR,_⟩:=hw.kp hi
  exact h ⟨D,hR⟩
end
theorem Gy(A:Ab)(hR:∃D,Rel D A)(name:ByteArray)(at_ n:Int):(A.read name at_ n).1.length≤1048576:=by
 obtain⟨D,hR⟩:=hR
 unfold Ab.read
 split
 ·simp
 split
 ·simp
 ·rename_i f hf
  split
  ·simp
  ·have h1:(A.now f).length≤1048576:=by
    unfold Ab.now Ab.file
    cases h:A.fs.find? (fun x=>decide (x.1=f))with
    | none=>simp
    | some x =>
     have:=hR.gP x (List.mem_of_find?_eq_some h)
     grind
   grind
end Go.Proofs.YtlionahpheehaaaGreatDoor
namespace Go.Proofs.YtlionahpheehaaaGreatDoor
open Go Go.SL
attribute [local irreducible] J K aH Ends ak aK aV bX bj aS bp bD cp aJ LI yP
def gU(A:Ab)(name:ByteArray):List (List UInt8):=cC (fE (A.read name 0 (A.size name).1).1)
def mD(A:Ab)(name:ByteArray)(e:Nat)(A':Ab)(x:JN):Prop :=
 if ¬(isName name=true∧isName (bU name)=true)then e=1∧A'=A else if A.off then e=7∧A'=A
 else ∃y:PS,CB name (gU A name) (A,0,0,0) e y∧A'=y.1∧x=⟨y.2.1,y.2.2.1,y.2.2.2,false⟩
def Sg(bd:Nat)(name:ByteArray)(A:Ab)(Hk:name.size≤1000000000)(cN:A.aF.length≤900000000)(qW:A.writes.length≤900000000) :
  aH Tryz.prog 39 [ptr bd,.string name] [aJ bd A]
   (fun r H=>∃(e:Nat) (A':Ab) (x:JN),mD A name e A' x∧((e≠0∧r = .tuple #[.pointer none,.slice none 0 0,.int .i64 (e:Int)]∧H=[aJ bd A']) ∨
    (e=0∧∃jb lv,r = .tuple #[ptr jb,lv,.int .i64 0]∧H=[aJ bd A',uY jb bd name x,yP lv (gU A name)]))):=by
 refine aH.aC Tryz.func39 Tryz.ntmps39 fun G F R hE=>?_
 refine ad5 0 rfl ?_
 intro afJ
 refine go ?_
 refine aeb (zF name) ?_
 cases h1:isName name with
 | false =>
  refine go ?_
  ((refine ah hE Tryz.func39 zr zr ⟨1,A,⟨0,0,0,false⟩,(by unfold mD;rw[if_pos (by simp[h1])];exact⟨rfl,rfl⟩),.inl ⟨aj,rfl,rfl⟩⟩))
 | true =>
 refine go ?_
 refine BV zr zr zr (by show name.size+4≤_;omega) ?_
 refine au 25 (.string (bU name)) zr zr ?_
 ((refine go ?_;(refine ao (zF (bU name)) ?_)))
 rintro _ _⟨rfl,rfl⟩
 cases h2:isName (bU name)with
 | false =>
  refine go ?_
  ((refine ah hE Tryz.func39 zr zr ⟨1,A,⟨0,0,0,false⟩,(by unfold mD;rw[if_pos (by simp[h2])];exact⟨rfl,rfl⟩),.inl ⟨aj,rfl,rfl⟩⟩))
 | true =>
 refine go ?_
 refine aeb (KT bd A) ?_
 cases h3:A.off with
 | true =>
  refine go ?_
  ((refine ah hE Tryz.func39 zr zr ⟨7,A,⟨0,0,0,false⟩,(by unfold mD;rw[if_neg (by simp[h1,h2]),if_pos h3];exact⟨rfl,rfl⟩),.inl ⟨aj,rfl,rfl⟩⟩))
 | false =>
 refine go ?_
 refine aeb (lI bd A name) ?_
 refine go ?_
 refine ao (wS bd A name 0 (A.size name).1) ?_
 rintro _ _⟨rb,rfl,rfl⟩
 have w9:=Gy A afJ name 0 (A.size name).1
 obtain⟨B,hB⟩:∃B,B=(A.read name 0 (A.size name).1).1:=⟨_,rfl⟩
 rw[← hB]at w9 ⊢
 refine go ?_
 refine aN 1 rfl ?_
 rintro ra rc rfl
 refine fY (bs:=B) 1 rfl ?_
 intro r'
 refine aL zr zr zr bO ?_
 intro lb
 refine go ?_
 refine ao (DM _ _ B r' aj) ?_
 rintro fv _⟨hbf,rfl⟩
 obtain⟨fa,fc,rfl,VZ⟩:=hbf.2
 refine ao (yH fa (fE B).length fc) ?_
 rintro _ _⟨bx,rfl,rfl⟩
 have pQ:(fE B).length≤1048576:=by
  unfold fE
  split
  ·simp
  ·rw[List.length_take,List.length_drop];omega
 refine go ?_
 obtain⟨rs,SX⟩:∃rs,rs=cC (fE B):=⟨_,rfl⟩
 have FW:=rH (fE B)
 rw[← SX]at FW
 refine jw rfl ?_
 refine al (aq.trans (aq.pick [2] rfl) (Si lb none _)) ?_
 refine wW (Fr:=aJ bd A::F) (Pre:=fun _ _=>[ak bx (cl [.slice fa (fE B).length fc] 22),aK 5 1 (.slice ra B.length rc) B.length (bV B),LI lb [] ]) (Post:=?Po) rfl hE.1.1 rfl ?c (fun l r=>ad) ?eA
 case c =>
  intro l r
  refine EA (aK 5 1 (.slice ra B.length rc) B.length (bV B)) l bx _ (fE B) hbf aj _ (fun i=>LI lb ((cC (fE B)).take i)) ?_
  intro i x hx rv
  refine cp.Cr zr zr ?_
  intro G2 F2 R2 hY
  have l9:i<(cC (fE B)).length:=(List.getElem?_eq_some_iff.1 hx).1
  have DF:=(rH (fE B)).2.1
  have om:(cC (fE B)).take (i+1)=(cC (fE B)).take i++[x]:=by rw[List.take_add_one,hx];rfl
  have l8:((cC (fE B)).take i).length≤(fE B).length:=by rw[List.length_take];omega
  simp only[om]at hY
  generalize (cC (fE B)).take i=ts at l8 hY ⊢
  refine go ?_
  refine eY rfl hY ?_
  refine al (aq.pick [1] rfl) ?_
  refine dZ (Mo lb ts) ?_
  rintro⟨lv,cs,M⟩ hR
  refine al (aq.trans (aq.pick [4,2] rfl) (aq.join _ _ _)) ?_
  refine dZ (Gn 5 1 x.length rv (bV x) M) ?_
  rintro M'⟨SW,eg⟩
  obtain⟨xa,xc,rfl,hxc⟩:=SW.shape
  refine aM 2 rfl ?_
  intro la lc hlv
  simp only at hlv
  subst hlv
  refine go ?_
  refine az zr zr zr zr zr zr zr zr zr bO ?_
  intro row
  refine go ?_
  refine bg (mm:=1) (news:=[.slice xa x.length xc]) 3 0 zr zr zr zr zr zr zr zr zr zr zr zr (Vw.ak rfl) rfl (by simp[Value.oneCell']) aj (by show(_+1)*24≤_;omega) (fun _=>rfl) bO ?_
  intro v1
  refine aN 3 rfl ?_
  rintro va vc rfl
  refine go ?_
  refine al (aq.trans ad (U8 lb ts x _ (.slice xa x.length xc) cs M M' hR SW eg _)) ?_
  refine eF hY rfl ad ⟨rfl,rfl⟩
 intro l r v H dQ
 obtain⟨v',rfl⟩:=dQ
 refine⟨_,_,_,rfl,by decide,?_⟩
 rw[hE.1.2,List.take_length,← SX]
 refine al (aq.pick [2] rfl) ?_
 refine dZ (Mo lb rs) ?_
 rintro⟨lv,cs,M⟩ hR
 refine aM 1 rfl ?_
 intro la lc hlv
 simp only at hlv
 subst hlv
 simp only at hR
 refine We 1 hR rfl ?_
 intro oq
 refine go ?_
 refine bJ zr zr bO ?_
 intro jb
 refine go ?_
 have mg:=EC jb bd name 0 0 0 false A (Sep [aK 22 1 (.slice la rs.length lc) rs.length cs,bp 5 M]) (.slice la rs.length lc) rs oq aj aj Hk cN qW
 refine fq zr zr zr zr mg (aq.trans ad (aq.cons (aJ bd A) (aq.cons (jr jb bd name 0 0 0 false) (aq.cg [aK 22 1 (.slice la rs.length lc) rs.length cs,bp 5 M] _)))) ?_ bI
 rintro _ _⟨e,y,rfl,rfl,hpr⟩
 have ph:gU A name=rs:=by rw[SX,hB];rfl
 have iK:mD A name e y.1 ⟨y.2.1,y.2.2.1,y.2.2.2,false⟩:=by
  unfold mD
  rw[if_neg (by simp[h1,h2]),if_neg (by rw[h3];simp),ph]
  exact⟨y,hpr,rfl,rfl⟩
 rw[ph]at hE
 refine go ?_
 refine aB zr zr ?_ ?_
 ·intro dw
  have hJ:e≠0:=by omega
  refine go ?_
  refine pI hE Tryz.func39 rfl _ rfl ⟨e,_,_,iK,.inl ⟨hJ,rfl,rfl⟩⟩ ad
 ·intro heq
  have wg:e=0:=by omega
  subst wg
  refine go ?_
  refine aO (fun w=>Sat G w ([ak lb (cl [.slice la rs.length lc] 96)])) (dM 0 5 .nil) rfl aw aw aw dI ?_
  refine go ?_
  refine al (aq.trans (aq.pick [2] rfl) (aq.cR [aK 22 1 (.slice la rs.length lc) rs.length cs,bp 5 M] _)) ?_
  refine al (QK hR _) ?_
  refine pI hE Tryz.func39 rfl _ rfl ⟨0,_,_,iK,.inr ⟨rfl,jb,_,rfl,rfl⟩⟩ ad
end Go.Proofs.YtlionahpheehaaaGreatDoor
namespace Go.Proofs.YtlionahpheehaaaGreatDoor
open Go Go.SL
variable{A B:Ab}{x:Bl}{n nm:ByteArray}{ls:List (List UInt8)}{C b:List UInt8}{at_ e f k m:Nat}{D:Nat→Prop}{s t:fW}
theorem zG(hn:isName nm=true)(at_:Nat)(b:List UInt8)(h:at_+b.length≤1048576):gG nm (at_:Int) b=true:=by
 grind [gG]
theorem AH{A':Ab}{x:JN}(h:HA A)(hn:isName nm=true)(hf:isName (bU nm)=true)(dw:bU nm≠nm)(hv:vw A nm=none)(NH:vw A (bU nm)=none)(hl:A.names.length<200)(hr:A.used+32≤A.room)(hR:mD A nm e A' x) :
  e=0∧HA A'∧vw A'=gl (vw A) nm (some (cB []))∧A'.room=A.room∧x=⟨1,0,0,false⟩∧gU A nm=[]:=by
 have pQ:gU A nm=[]:=by
  have qY:A.look nm=none:=by
   unfold vw at hv
   cases hx:A.look nm with
   | none=>rfl
   | some f=>rw[hx]at hv;cases hv
  have rV:(A.read nm 0 (A.size nm).1).1=[]:=by
   unfold Ab.read
   grind
  unfold gU
  rw[rV]
  rfl
 unfold mD at hR
 rw[if_neg (by rw[hn,hf];simp),if_neg (by rw[h.on];simp),pQ]at hR
 obtain⟨y,fe,rfl,rfl⟩:=hR
 unfold CB ie at fe
 have kr:(A.size (bU nm)).2=4:=by
  have qY:A.look (bU nm)=none:=by
   unfold vw at NH
   cases hx:A.look (bU nm)with
   | none=>rfl
   | some f=>rw[hx]at NH;cases NH
  unfold Ab.size
  rw[qY]
 simp only[kr]at fe
 rw[if_neg aj,List.nil_append]at fe
 have fD:(cB []).length=32:=by unfold cB;simp[gT]
 obtain⟨e1,x1,⟨⟨f,h1f,Pb,Km⟩,h1c⟩,c1⟩:=fe
 rw[hf]at Pb Km
 obtain⟨g0,g1,g2,g3⟩:=h.Me NH hl h1f (B:=x1.1) (e:=e1) (by rw[Pb,Km])
 subst g0
 rcases c1 with⟨hJ,_⟩|⟨_,e2,x2,⟨⟨V7,I8⟩,h2c⟩,c2⟩
 ·grind
 have hw:gG (bU nm) 0 (cB [])=true:=by
  grind [zG,cB]
 rw[hw]at V7 I8
 obtain⟨hu,NN⟩:=h.ru g1 NH g2
 obtain⟨k0,k1,k2,k3⟩:=g1.Ed (nm:=bU nm) (c:=[]) (by rw[g2,eN]) 0 (cB []) (by rw[hu,g3];simp only[List.length_nil];omega) (B:=x2.1) (e:=e2) (by rw[V7,I8])
 subst k0
 rcases c2 with⟨hJ,_⟩|⟨_,e3,x3,⟨⟨Pa,HF⟩,h3c⟩,c3⟩
 ·grind
 rw[hf]at Pa HF
 have qW:bY [] 0 (cB [])=cB []:=by unfold bY;simp
 rw[qW]at k2
 obtain⟨m0,m1,m2,m3⟩:=k1.Ll (nm:=bU nm) (c:=cB []) (by rw[k2,eN]) (B:=x3.1) (e:=e3) (by rw[Pa,HF])
 subst m0
 rcases c3 with⟨hJ,_⟩|⟨_,e4,x4,⟨⟨N6,L6⟩,h4c⟩,c4⟩
 ·grind
 have fH:[bU nm,nm].all isName=true:=by simp[hf,hn]
 rw[fH]at N6 L6
 obtain⟨p0,p1,p2,p3⟩:=m1.Lo (o:=bU nm) (n:=nm) (c:=cB []) dw (by rw[m2,k2,eN]) (by rw[m2,k2,eM _ _ (fun e=>dw e.symm),g2,eM _ _ (fun e=>dw e.symm)];exact hv) (B:=x4.1) (e:=e4) (by rw[N6,L6])
 subst p0
 rcases c4 with⟨hJ,_⟩|⟨_,e5,x5,⟨⟨UB,UA⟩,h5c⟩,c5⟩
 ·grind
 obtain⟨q0,q1,q2,q3⟩:=p1.Ah (B:=x5.1) (e:=e5) (by rw[UB,UA])
 subst q0
 rcases c5 with⟨hJ,_⟩|⟨_,e6,x6,⟨h6a,h6b⟩,c6⟩
 ·grind
 subst h6a
 rcases c6 with⟨hJ,_⟩|⟨_,he,hy⟩
 ·grind
 subst he
 rw[hy,h6b]
 simp only
 refine⟨trivial,q1,?_,by rw[q3,p3,m3,k3,g3],by simp,pQ⟩
 rw[q2,p2,m2,k2,g2]
 funext m
 unfold gl
 grind
def fC:isName dF=true:=by decide +kernel
def j7:isName (bU dF)=true:=by decide +kernel
def qh:bU dF≠dF:=by decide +kernel
def RB(k:List UInt8):kf k dF=none:=by
 cases h:kf k dF with
 | none=>rfl
 | some d=>exact absurd (tr.1 h).symm (lY k d)
def ZZ(c:List UInt8):G7 dF c=0:=by unfold G7;rw[RB];rfl
abbrev SJ:=fW × JN
def gu(R:fW→Nat→fW→Prop)(x:SJ)(e:Nat)(y:SJ):Prop:=R x.1 e y.1∧y.2=x.2
def Ao(b:List UInt8)(x:SJ)(e:Nat)(y:SJ):Prop:=e=(eW dF x.1.A x.2 b).1∧y=(⟨(eW dF x.1.A x.2 b).2.1,x.1.bu,x.1.brk⟩,(eW dF x.1.A x.2 b).2.2)
def Gf(x:SJ)(e:Nat)(y:SJ):Prop:=∃A' x',jh dF x.1.A x.2 e A' x'∧y=(⟨A',x.1.bu,x.1.brk⟩,x')
def mw(b:List UInt8):List (SJ→Nat→SJ→Prop):=[Ao b,Gf]
theorem CF(c:List UInt8)(a:Nat)(b:List UInt8)(j:Nat)(h1:a≤j)(h2:j<a+b.length):(bY c a b)[j]?=b[j-a]? := by
 unfold bY
 have hl:((c++List.replicate (a+b.length-c.length) (0:UInt8)).take a).length=a:=by rw[List.length_take,List.length_append,List.length_replicate];omega
 simp only
 rw[List.append_assoc,List.getElem?_append_right (by rw[hl];exact h1),hl,List.getElem?_append_left aj]
theorem zZ{c:List UInt8}{a:Nat}{j:Nat}{v:UInt8}(hc:c[j]?=some v)(h:j<a∨a+b.length≤j):(bY c a b)[j]?=some v:=by
 unfold bY
 have hj:=(List.getElem?_eq_some_iff.1 hc).1
 have hl:((c++List.replicate (a+b.length-c.length) (0:UInt8)).take a).length=a:=by rw[List.length_take,List.length_append,List.length_replicate];omega
 simp only
 rcases h with h|h
 ·rw[List.append_assoc,List.getElem?_append_left (by rw[hl];exact h),List.getElem?_take,if_pos h,List.getElem?_append_left hj]
  exact hc
 ·rw[List.getElem?_append_right (by rw[List.length_append,hl];exact h),List.getElem?_drop,List.length_append,hl]
  rw[show a+b.length+(j-(a+b.length))=j from by omega,List.getElem?_append_left hj]
  exact hc
structure Pe(x:Bl)(w c:List UInt8)(P:Int→Prop):Prop where
 len:c.length≤w.length
 has:∀k,P k→∀a n,dX x k=some (a,n)→∀j:Nat,a≤j→(j:Int)<a+n→c[j]?=w[j]?
theorem Pe.nil(x:Bl)(w:List UInt8):Pe x w [] (fun _=>False):=⟨Nat.zero_le _,fun k h=>h.elim⟩
def jL{k a n:Int}(h:dX x k=some (a,n)):0≤a∧1≤n∧a+n≤x.size∧0≤k∧k<cT x∧a=k*x.piece∧n=min x.piece (x.size-a)∧bP x=true:=by
 unfold dX at h
 split at h
 ·cases h
 rename_i dk
 obtain⟨hr,h0,h1⟩:=Eo (x:=x) (i:=k) aj aj
 injection h with h
 injection h with ha hn
 have SX:=hr
 simp only[bP,decide_eq_true_eq]at SX
 exact⟨aj,aj,aj,aj,aj,ha.symm,by rw[← hn,← ha],hr⟩
theorem Pe.put{w c:List UInt8}{P:Int→Prop}(h:Pe x w c P)(hw:(w.length:Int)=x.size){i a n:Int}(hX:dX x i=some (a,n)) :
  Pe x w (bY c a.toNat ((w.drop a.toNat).take n.toNat)) (fun k=>P k∨k=i):=by
 obtain⟨h0,h1,h2,h3,h4,h5,h6,hr⟩:=jL hX
 have jx:((w.drop a.toNat).take n.toNat).length=n.toNat:=by rw[List.length_take,List.length_drop];omega
 refine⟨by rw[iB,jx];have:=h.len;omega,fun k hk a' n' hs j xd O5=>?_⟩
 obtain⟨g0,g1,g2,g3,g4,g5,g6,_⟩:=jL hs
 by_cases nI:a≤j∧(j:Int)<a+n
 ·rw[CF _ _ _ _ aj (by rw[jx];omega),List.getElem?_take,if_pos aj,List.getElem?_drop]
  congr 1
  omega
 ·rcases hk with hk|rfl
  ·have hc:=h.has k hk a' n' hs j xd O5
   have hwj:j<w.length:=by omega
   rw[List.getElem?_eq_getElem hwj]at hc ⊢
   exact zZ hc (by rw[jx];omega)
  ·rw[hX]at hs
   injection hs with hs
   injection hs with e1 e2
   omega
def Pe.full{w c:List UInt8}{P:Int→Prop}(h:Pe x w c P)(hw:(w.length:Int)=x.size)(hr:bP x=true)(hP:∀k,0≤k→k<cT x→P k):c=w:=by
 have SX:=hr
 simp only[bP,decide_eq_true_eq]at SX
 apply List.ext_getElem?
 intro j
 rcases Nat.lt_or_ge j w.length with hj|hj
 ·obtain⟨k,hk⟩:∃k,k=(j:Int)/x.piece:=⟨_,rfl⟩
  have e1:=Int.mul_ediv_add_emod (j:Int) x.piece
  have e2:=Int.emod_nonneg (j:Int) (b:=x.piece) aj
  have e3:=Int.emod_lt_of_pos (j:Int) (b:=x.piece) aj
  rw[← hk,Int.mul_comm]at e1
  have hk0:0≤k:=by rw[hk];exact Int.ediv_nonneg aj aj
  have NQ:k<cT x:=by
   unfold cT
   rw[if_pos hr]
   have:=(Int.le_ediv_iff_mul_le (a:=k+1) (b:=x.size+x.piece-1) (c:=x.piece) aj).2 (by rw[Int.add_mul,Int.one_mul];omega)
   omega
  have hX:dX x k=some (k*x.piece,min x.piece (x.size-k*x.piece)):=by unfold dX;rw[if_neg aj]
  exact h.has k (hP k hk0 NQ) _ _ hX j aj aj
 ·rw[List.getElem?_eq_none hj,List.getElem?_eq_none (by have:=h.len;omega)]
theorem BQ(h:kQ x s e t):iO 1 s t:=by
 unfold kQ at h
 split at h
 ·grind [iO.refl]
 ·exact pq (fun sp hX A e B hh=>by
   simp only[List.mem_cons,List.not_mem_nil,or_false]at hX
   subst hX
   exact n5 hh) h
def SJg(n:Nat)(x y:SJ):Prop:=y.1.A.aF.length≤x.1.A.aF.length+n∧y.1.A.writes.length≤x.1.A.writes.length+n
theorem wM(A:Ab)(nm:ByteArray)(x:JN)(b:List UInt8):(eW nm A x b).2.1.aF.length≤A.aF.length+1∧(eW nm A x b).2.1.writes.length≤A.writes.length+1:=by
 have hw:=lr A (gG nm (32+x.s) (bB b)) nm (32+x.s).toNat (bB b)
 obtain⟨h1,h2⟩:=hw
 grind [eW]
theorem FP{A':Ab}{x x':JN}(h:jh nm A x e A' x'):A'.aF.length≤A.aF.length+4∧A'.writes.length≤A.writes.length+4:=by
 unfold jh at h
 split at h
 ·grind
 split at h
 ·grind
 split at h
 ·grind
 obtain⟨y,⟨e1,x1,⟨⟨Pb,Km⟩,_⟩,c1⟩,rfl,_⟩:=h
 have g1:=lu A (isName nm) nm
 rw[← Km]at g1
 rcases c1 with⟨_,_,rfl⟩|⟨_,e2,x2,⟨⟨V7,I8⟩,_⟩,c2⟩
 ·obtain⟨a,b⟩:=g1;omega
 have g2:=lr x1.1 (gG nm (((x.n.toNat+1)%2*16:Nat):Int) (cq (x.n.toNat+1) x.s.toNat)) nm ((x.n.toNat+1)%2*16) (cq (x.n.toNat+1) x.s.toNat)
 rw[← I8]at g2
 rcases c2 with⟨_,_,rfl⟩|⟨_,e3,x3,⟨⟨Pa,HF⟩,_⟩,c3⟩
 ·obtain⟨a,b⟩:=g1;obtain⟨c,d⟩:=g2;omega
 have g3:=lu x2.1 (isName nm) nm
 rw[← HF]at g3
 obtain⟨a,b⟩:=g1
 obtain⟨c,d⟩:=g2
 obtain⟨e',f'⟩:=g3
 rcases c3 with⟨_,_,rfl⟩|⟨_,e4,x4,⟨N6,L6⟩,c4⟩
 ·omega
 have h41:x4.1=x3.1:=by rw[L6]
 rcases c4 with⟨_,_,rfl⟩|⟨_,_,rfl⟩
 ·grind
 grind
def Nl{x y:SJ}(h:jG (mw b) x e y):SJg 5 x y:=by
 obtain⟨e1,x1,⟨Pb,Km⟩,c1⟩:=h
 have g1:=wM x.1.A dF x.2 b
 have UC:x1.1.A=(eW dF x.1.A x.2 b).2.1:=by rw[Km]
 rw[← UC]at g1
 obtain⟨a,b⟩:=g1
 rcases c1 with⟨_,_,rfl⟩|⟨_,e2,x2,⟨A',x',hc,h2⟩,c2⟩
 ·exact⟨aj,aj⟩
 have g2:=FP hc
 have h21:x2.1.A=A':=by rw[h2]
 rw[← h21]at g2
 obtain⟨c,d⟩:=g2
 rcases c2 with⟨_,_,rfl⟩|⟨_,_,rfl⟩ <;> exact⟨aj,aj⟩
def lT{l:Nms}(h:Ab.cW l nm=some f):(nm,f)∈l:=gS (A:=⟨0,[],l,[],[],[],false⟩) h
def TF{l:Nms}(hn:(l.map (·.1)).Nodup)(ho:(l.map (·.2)).Nodup){a b:ByteArray}(ha:Ab.cW l a=some f)(hb:Ab.cW l b=some f):a=b :=
 HA.TG (A:=⟨0,l.map fun x=>(x.2,[],[]),l,[],[],[],false⟩) ⟨rfl,rfl,hn,ho,by simpa[Function.comp_def]using ho,fun x hx=>by simp only[List.map_map,Function.comp_def];exact List.mem_map.2 ⟨x,hx,rfl⟩⟩ ha hb
structure Nz(k:Nat)(A:Ab)(N0:Nms):Prop where
 keys:(N0.map (·.1)).Nodup
 own:(N0.map (·.2)).Nodup
 known:∀x∈N0,x.2∈A.fs.map (·.1)
 hold:∀n f,A.look n=some f→Ab.cW N0 n=some f
 more:∀n f,Ab.cW N0 n=some f→A.look n=some f∨(∃d,n=iL d)∧(A.now f).length≤1000
 cnt:N0.length≤k
structure Cd(k:Nat)(A:Ab)(D:Nat→Prop):Prop where
 wr:∀w∈A.writes,D w.1
 cl:∀f∈A.fs.map (·.1),¬D f→(A.file f).2=(A.file f).1
 st:∃N0 rest,A.aF=N0::rest∧Nz k A N0
abbrev Cz(k:Nat)(A:Ab):Prop:=Cd k A (fun _=>False)
def Cd.mono{E:Nat→Prop}(h:Cd k A D)(hDE:∀f,D f→E f){j:Nat}(hk:k≤j):Cd j A E :=
  ⟨fun w hw=>hDE _ (h.wr w hw),fun f hf hd=>h.cl f hf (fun x=>hd (hDE f x)),by
    obtain⟨N0,rest,h1,h2⟩:=h.st
    exact⟨N0,rest,h1,⟨h2.keys,h2.own,h2.known,h2.hold,h2.more,by have:=h2.cnt;omega⟩⟩⟩
def Cd.one{A:Ab}(h:HA A)(hs:A.aF=[A.names])(hw:∀w∈A.writes,D w.1)(hc:∀f∈A.fs.map (·.1),¬D f→(A.file f).2=(A.file f).1)(hk:A.names.length≤k):Cd k A D :=
 ⟨hw,hc,A.names,[],hs,⟨h.keys,h.own,h.known,fun _ _ h=>h,fun _ _ h => .inl h,hk⟩⟩
def Cz.new(room:Nat):Cz 0 (Ab.new room):=Cd.one (HA.new room) rfl (fun w h=>by cases h) (fun f h=>by cases h) (Nat.zero_le _)
def Cd.file(h:Cd k A D)(hA:HA A)(hf:A.look n=some f):f∈A.fs.map (·.1):=hA.known _ (gS hf)
theorem Cd.write(h:Cd k A D)(hA:HA A)(hw:gq n at_ b A 0 B):∃f,A.look n=some f∧B.look n=some f∧Cd k B (fun g=>D g∨g=f):=by
 rcases yx hw with⟨dw,_⟩|⟨_,f,hf,hn,hs,ot,qW⟩
 ·grind
 have hfm:=h.file hA hf
 have hid:B.fs.map (·.1)=A.fs.map (·.1):=LM ot
 have qY:∀m,B.look m=A.look m:=fun m=>by unfold Ab.look;rw[hn]
 obtain⟨N0,rest,h1,h2⟩:=h.st
 refine⟨f,hf,(qY n).trans hf,fun w hw=>?_,fun g hg hd=>?_,N0,rest,by rw[hs];exact h1,h2.keys,h2.own,fun x hx=>by rw[hid];exact h2.known x hx,fun m g hg=>h2.hold m g (by rw[← qY];exact hg),fun m g hg=>?_,h2.cnt⟩
 ·rw[qW,List.mem_append,List.mem_singleton]at hw
  rcases hw with hw|rfl
  ·exact .inl (h.wr w hw)
  grind
 ·rw[hid]at hg
  rw[Br ot hg,if_neg (fun e=>hd (.inr e))]
  exact h.cl g hg (fun x=>hd (.inl x))
 ·rw[qY]
  rcases h2.more m g hg with hm|⟨hd,hl⟩
  ·exact .inl hm
  ·by_cases Uj:g=f
   ·left
    have h3:=h2.hold n f hf
    rw[← Uj]at h3 hf
    have:=TF h2.keys h2.own hg h3
    grind
   ·right
    refine⟨hd,?_⟩
    unfold Ab.now
    rw[Br ot (h2.known _ (lT hg)),if_neg Uj]
    exact hl
theorem Cd.sync(h:Cd k A D)(hA:HA A)(hs:gj n A 0 B):∃f,A.look n=some f∧B.look n=some f∧Cd k B (fun g=>D g∧g≠f):=by
 rcases Ag hs with⟨dw,_⟩|⟨_,f,hf,hn,cN,ot,qW⟩
 ·grind
 have hid:B.fs.map (·.1)=A.fs.map (·.1):=Hb ot
 have qY:∀m,B.look m=A.look m:=fun m=>by unfold Ab.look;rw[hn]
 obtain⟨N0,rest,h1,h2⟩:=h.st
 refine⟨f,hf,(qY n).trans hf,fun w hw=>?_,fun g hg hd=>?_,N0,rest,by rw[cN];exact h1,h2.keys,h2.own,fun x hx=>by rw[hid];exact h2.known x hx,fun m g hg=>h2.hold m g (by rw[← qY];exact hg),fun m g hg=>?_,h2.cnt⟩
 ·rw[qW,List.mem_filter]at hw
  exact⟨h.wr w hw.1,by simpa using hw.2⟩
 ·rw[hid]at hg
  rw[ye ot hg]
  by_cases Uj:g=f
  ·grind
  ·rw[if_neg Uj]
   exact h.cl g hg (fun x=>hd ⟨x,Uj⟩)
 ·rw[qY]
  rcases h2.more m g hg with hm|⟨hd,hl⟩
  ·exact .inl hm
  ·refine .inr ⟨hd,?_⟩
   unfold Ab.now
   rw[ye ot (h2.known _ (lT hg))]
   split <;> exact hl
theorem Cz.put{C:Ab}(h:Cz k A)(hA:HA A)(hB:HA B)(hw:gq n at_ b A 0 B)(hs:gj n B 0 C):Cz k C:=by
 obtain⟨f,h1,h2,h3⟩:=h.write hA hw
 obtain⟨g,h4,h5,h6⟩:=h3.sync hB hs
 grind
theorem Cz.ZP(h:Cz k A)(hA:HA A)(hs:gj n A 0 B):Cz k B:=by
 obtain⟨g,h4,h5,h6⟩:=h.sync hA hs
 grind
theorem Cd.remove{d:Dg}{c:List UInt8}(h:Cd k A D)(hA:HA A)(hv:vw A (iL d)=some c)(hc:c.length≤1000)(hs:jz (iL d) A 0 B):Cd k B D:=by
 rcases Ez hs with⟨dw,_⟩|⟨_,⟨f,hf⟩,hn,cN,ot,qW,_⟩
 ·grind
 have qY:∀m,B.look m=if m=iL d then none else A.look m:=fun m=>by
  unfold Ab.look
  rw[hn,oX]
 obtain⟨N0,rest,h1,h2⟩:=h.st
 refine⟨fun w hw=>h.wr w (qW ▸ hw),fun g hg hd=>by rw[wD ot];exact h.cl g (ot ▸ hg) hd,N0,rest++[Ab.dW A.names (iL d)],by rw[cN,h1];rfl,h2.keys,h2.own,fun x hx=>by rw[ot];exact h2.known x hx,fun m g hg=>?_,fun m g hg=>?_,h2.cnt⟩
 ·rw[qY]at hg
  by_cases hm:m=iL d
  ·grind
  ·rw[if_neg hm]at hg;exact h2.hold m g hg
 ·have kZ:B.now g=A.now g:=by unfold Ab.now;rw[wD ot]
  rw[qY,kZ]
  rcases h2.more m g hg with hm|hr
  ·grind [iL,vw]
  grind
theorem Cz.dx(h:Cz k A)(hA:HA A):HA (A.dx 0 [] (-1) 0)∧Cz k (A.dx 0 [] (-1) 0)∧(A.dx 0 [] (-1) 0).room=A.room∧(A.dx 0 [] (-1) 0).names.length≤k∧(A.dx 0 [] (-1) 0).aF.length=1∧(A.dx 0 [] (-1) 0).writes=[] ∧
  (∀n c,vw A n=some c→vw (A.dx 0 [] (-1) 0) n=some c)∧∀n c,vw (A.dx 0 [] (-1) 0) n=some c→vw A n=some c∨(∃d,n=iL d)∧c.length≤1000:=by
 obtain⟨N0,rest,h1,h2⟩:=h.st
 have nr:(A.dx 0 [] (-1) 0).names=N0:=by
  simp only[Ab.dx,h1,List.length_cons]
  grind
 have cN:(A.dx 0 [] (-1) 0).aF=[(A.dx 0 [] (-1) 0).names]:=rfl
 have Hn:(A.dx 0 [] (-1) 0).fs.map (·.1)=A.fs.map (·.1):=by
  simp only[Ab.dx]
  rw[zH _ _ (fun x=>by split <;> rfl),vZ]
 have ph:∀n f,Ab.cW N0 n=some f→(A.dx 0 [] (-1) 0).file f=A.file f:=fun n f hf=>by
  refine(Kx 0 [] (-1) 0 (h2.known _ (lT hf)) ?_).2 ⟨h.cl f (h2.known _ (lT hf)) (fun x=>x),fun w hw=>absurd (h.wr w hw) (fun x=>x)⟩
  unfold Ab.reach
  rw[List.mem_flatMap]
  exact⟨N0,by rw[nr];simp,List.mem_map.2 ⟨_,lT hf,rfl⟩⟩
 have hB:HA (A.dx 0 [] (-1) 0):=⟨rfl,rfl,by rw[nr];exact h2.keys,by rw[nr];exact h2.own,by rw[Hn];exact hA.ids,fun x hx=>by rw[Hn];rw[nr]at hx;exact h2.known x hx⟩
 have qY:∀m,(A.dx 0 [] (-1) 0).look m=Ab.cW N0 m:=fun m=>by unfold Ab.look;rw[nr]
 refine⟨hB,Cd.one hB cN (fun w hw=>by cases hw) (fun f hf _=>?_) (by rw[nr];exact h2.cnt),rfl,by rw[nr];exact h2.cnt,rfl,rfl,fun n c hc=>?_,fun n c hc=>?_⟩
 ·rw[Hn]at hf
  obtain⟨x,hx,hxf⟩:=Bp hf
  have hl:Ab.j6 [] (-1) 0 0 A.writes A.fs=A.fs:=by
   cases hw:A.writes with
   | nil=>rfl
   | cons w l=>exact absurd (h.wr w (by rw[hw];simp)) (fun x=>x)
  have hc:=h.cl f hf (fun x=>x)
  have hAf:A.file f=x.2:=by unfold Ab.file;rw[hx];rfl
  rw[hAf]at hc
  have:(A.dx 0 [] (-1) 0).file f=x.2:=by
   simp only[Ab.dx,hl]
   unfold Ab.file
   simp only
   rw[lF _ (fun x=>by split <;> rfl),hx]
   simp only[Option.map_some,Option.getD_some]
   split
   ·grind
   ·rfl
  grind
 ·unfold vw at hc ⊢
  rw[qY]
  cases hl:A.look n with
  | none=>rw[hl]at hc;cases hc
  | some f =>
   rw[hl]at hc
   have hh:=h2.hold n f hl
   rw[hh]
   rw[← hc]
   simp only[Option.map_some]
   unfold Ab.now
   grind
 ·unfold vw at hc ⊢
  rw[qY]at hc
  cases hl:Ab.cW N0 n with
  | none=>rw[hl]at hc;cases hc
  | some f =>
   rw[hl]at hc
   simp only[Option.map_some,Option.some.injEq]at hc
   have kZ:(A.dx 0 [] (-1) 0).now f=A.now f:=by unfold Ab.now;rw[ph n f hl]
   rw[kZ]at hc
   rcases h2.more n f hl with hm|⟨hd,hlen⟩
   ·grind
   grind
def pO(name:ByteArray)(A:Ab)(x:JN)(ls:List (List UInt8))(e:Nat)(A':Ab)(x':JN):Prop :=
 if x.br then e=10∧A'=A∧x'=x else if ls.any (fun b=>decide (4096<b.length))then e=1∧A'=A∧x'=x else if 524288<(ls.flatMap bB).length then e=3∧A'=A∧x'=x
 else ∃y:PS,CB name ls (A,x.n,x.s,x.c) e y∧A'=y.1∧x'=⟨y.2.1,y.2.2.1,y.2.2.2,decide (e≠0)⟩
theorem Tw{l:List (ByteArray × Nat)}(h1:(l.map (·.1)).Nodup)(h2:(l.map (·.2)).Nodup)(hf:∀x∈l,x.2≠f):((l.map fun x=>if x.1=n then(n,f)else x).map (·.2)).Nodup:=by
 unfold List.Nodup at h1 h2 ⊢
 rw[List.pairwise_map]at h1 h2
 rw[List.pairwise_map,List.pairwise_map]
 refine List.Pairwise.imp_of_mem ?_ (List.Pairwise.and h1 h2)
 grind
theorem P0(l:List (ByteArray × Nat))(n:ByteArray)(f:Nat):(l.map fun x=>if x.1=n then(n,f)else x).map (·.1)=l.map (·.1):=by
 rw[List.map_map]
 refine List.map_congr_left fun x _=>?_
 grind
theorem HA.Tx(h:HA A){o:ByteArray}{c d:List UInt8}(dw:o≠n)(hv:vw A o=some c)(IY:vw A n=some d)(hB:(e,B)=A.rename true o n) :
    e=0∧HA B∧vw B=gl (gl (vw A) o none) n (some c)∧B.room=A.room:=by
  obtain⟨f,hf,rfl⟩:∃f,A.look o=some f∧A.now f=c:=by
    unfold vw at hv
    cases hx:A.look o with
    | none=>rw[hx]at hv;cases hv
    | some f=>rw[hx]at hv;injection hv with hv;exact⟨f,rfl,hv⟩
  obtain⟨g,hg⟩:∃g,A.look n=some g:=by
    unfold vw at IY
    cases hx:A.look n with
    | none=>rw[hx]at IY;cases IY
    | some g=>exact⟨g,rfl⟩
  have Rm:Ab.cW (Ab.dW A.names o) n=some g:=by
    rw[oX,if_neg (fun e=>dw e.symm)]
    exact hg
  obtain⟨N,hN⟩:∃N,N=(Ab.dW A.names o).map (fun x=>if x.1=n then(n,f)else x):=⟨_,rfl⟩
  have nM:Ab.lh (Ab.dW A.names o) n f=N:=by
    unfold Ab.lh
    grind
  have hc:A.rename true o n=(0,A.oF N):=by
    unfold Ab.rename
    rw[h.find,hf]
    grind
  rw[hc]at hB
  injection hB with h1 h2
  subst h1 h2
  have eg:∀x∈Ab.dW A.names o,x∈A.names∧x.1≠o:=fun x hx=>by
    obtain⟨h1,h2⟩:=List.mem_filter.1 hx
    grind
  have DA:((Ab.dW A.names o).map (·.1)).Nodup:=(List.filter_sublist.map _).nodup h.keys
  have Ch:((Ab.dW A.names o).map (·.2)).Nodup:=(List.filter_sublist.map _).nodup h.own
  have hnf:∀x∈Ab.dW A.names o,x.2≠f:=fun x hx e=>by
    have h3:=fZ h.keys (eg x hx).1
    rw[e]at h3
    exact(eg x hx).2 (h.TG h3 hf)
  have hkN:(N.map (·.1)).Nodup:=by rw[hN,P0];exact DA
  have fk:∀x∈N,x=(n,f)∨(x∈Ab.dW A.names o∧x.1≠n):=fun x hx=>by
    grind
  have hH:HA (A.oF N):=⟨h.ei,h.on,hkN,by show(N.map (·.2)).Nodup;rw[hN];exact Tw DA Ch hnf,h.ids,fun x hx=>by
    rcases fk x hx with rfl|⟨hx,_⟩
    · exact h.known (o,f) (gS hf)
    · exact h.known x (eg x hx).1⟩
  refine⟨rfl,hH,funext fun m=>?_,rfl⟩
  have adl:(A.oF N).look m=if m=n then some f else if m=o then none else A.look m:=by
    have nI:∀x∈N,(A.oF N).look x.1=some x.2:=fun x hx=>fZ (A:=A.oF N) hkN hx
    by_cases hm:m=n
    · rw[if_pos hm,hm]
      refine nI (n,f) ?_
      rw[hN]
      refine List.mem_map.2 ⟨(n,g),?_,if_pos rfl⟩
      exact gS (A:=A.oF (Ab.dW A.names o)) Rm
    · rw[if_neg hm]
      have hd:Ab.cW (Ab.dW A.names o) m=if m=o then none else A.look m:=oX A.names o m
      rw[← hd]
      cases hx:Ab.cW (Ab.dW A.names o) m with
      | some k =>
        refine nI (m,k) ?_
        rw[hN]
        exact List.mem_map.2 ⟨(m,k),gS (A:=A.oF (Ab.dW A.names o)) hx,if_neg hm⟩
      | none =>
        cases hy:(A.oF N).look m with
        | none=>rfl
        | some k =>
          rcases fk _ (gS hy)with he|⟨afa,_⟩
          · grind
          · have:=fZ (A:=A.oF (Ab.dW A.names o)) DA afa
            have h2:(A.oF (Ab.dW A.names o)).look m=none:=hx
            grind
  unfold vw gl
  rw[adl]
  by_cases hm:m=n
  · rw[if_pos hm,if_pos hm];rfl
  · rw[if_neg hm,if_neg hm]
    by_cases ho:m=o
    · grind
    · rw[if_neg ho,if_neg ho];rfl
theorem C6{n s c:Int}{y:PS}(h:HA A)(hn:isName nm=true)(hf:isName (bU nm)=true)(dw:bU nm≠nm)(NH:vw A (bU nm)=none)(hl:A.names.length<200)(Ds:(cB ls).length≤1048576)(hr:A.used+(cB ls).length≤A.room)(hR:CB nm ls (A,n,s,c) e y) :
  e=0∧HA y.1∧vw y.1=gl (vw A) nm (some (cB ls))∧y.1.room=A.room∧y.2=(1,((ls.flatMap bB).length:Int),((ls.flatMap bB).length:Int)):=by
 unfold CB ie at hR
 have kr:(A.size (bU nm)).2=4:=by
  have qY:A.look (bU nm)=none:=by
   unfold vw at NH
   cases hx:A.look (bU nm)with
   | none=>rfl
   | some f=>rw[hx]at NH;cases NH
  unfold Ab.size
  rw[qY]
 simp only[kr]at hR
 rw[if_neg aj,List.nil_append]at hR
 obtain⟨e1,x1,⟨⟨f,h1f,Pb,Km⟩,h1c⟩,c1⟩:=hR
 rw[hf]at Pb Km
 obtain⟨g0,g1,g2,g3⟩:=h.Me NH hl h1f (B:=x1.1) (e:=e1) (by rw[Pb,Km])
 subst g0
 rcases c1 with⟨hJ,_⟩|⟨_,e2,x2,⟨⟨V7,I8⟩,h2c⟩,c2⟩
 ·grind
 have hw:gG (bU nm) 0 (cB ls)=true:=by
  grind [zG,cB]
 rw[hw]at V7 I8
 obtain⟨hu,NN⟩:=h.ru g1 NH g2
 obtain⟨k0,k1,k2,k3⟩:=g1.Ed (nm:=bU nm) (c:=[]) (by rw[g2,eN]) 0 (cB ls) (by rw[hu,g3];simp only[List.length_nil];omega) (B:=x2.1) (e:=e2) (by rw[V7,I8])
 subst k0
 rcases c2 with⟨hJ,_⟩|⟨_,e3,x3,⟨⟨Pa,HF⟩,h3c⟩,c3⟩
 ·grind
 rw[hf]at Pa HF
 have qW:bY [] 0 (cB ls)=cB ls:=by unfold bY;simp
 rw[qW]at k2
 obtain⟨m0,m1,m2,m3⟩:=k1.Ll (nm:=bU nm) (c:=cB ls) (by rw[k2,eN]) (B:=x3.1) (e:=e3) (by rw[Pa,HF])
 subst m0
 rcases c3 with⟨hJ,_⟩|⟨_,e4,x4,⟨⟨N6,L6⟩,h4c⟩,c4⟩
 ·grind
 have fH:[bU nm,nm].all isName=true:=by simp[hf,hn]
 rw[fH]at N6 L6
 have hvo:vw x3.1 (bU nm)=some (cB ls):=by rw[m2,k2,eN]
 have IY:vw x3.1 nm=vw A nm:=by rw[m2,k2,eM _ _ (fun e=>dw e.symm),g2,eM _ _ (fun e=>dw e.symm)]
 obtain⟨p0,p1,p2,p3⟩:e4=0∧HA x4.1∧vw x4.1=gl (gl (vw x3.1) (bU nm) none) nm (some (cB ls))∧x4.1.room=x3.1.room:=by
  cases hd:vw A nm with
  | none=>exact m1.Lo dw hvo (by rw[IY,hd]) (B:=x4.1) (e:=e4) (by rw[N6,L6])
  | some d=>exact m1.Tx dw hvo (by rw[IY,hd]) (B:=x4.1) (e:=e4) (by rw[N6,L6])
 subst p0
 rcases c4 with⟨hJ,_⟩|⟨_,e5,x5,⟨⟨UB,UA⟩,h5c⟩,c5⟩
 ·grind
 obtain⟨q0,q1,q2,q3⟩:=p1.Ah (B:=x5.1) (e:=e5) (by rw[UB,UA])
 subst q0
 rcases c5 with⟨hJ,_⟩|⟨_,e6,x6,⟨h6a,h6b⟩,c6⟩
 ·grind
 subst h6a
 rcases c6 with⟨hJ,_⟩|⟨_,he,hy⟩
 ·grind
 subst he
 rw[hy,h6b]
 simp only
 refine⟨trivial,q1,?_,by rw[q3,p3,m3,k3,g3],trivial⟩
 rw[q2,p2,m2,k2,g2]
 grind [gl,bU]
theorem F5{n:Nat}(h:n<128):cH [UInt8.ofNat n]=some n:=by
 have:=sK (n:=n) aj
 rwa[gi h]at this
theorem Jf{c:UInt8}(h:¬c.toNat<128):cH [c]=none:=by
 unfold cH db
 simp[nz,h]
theorem Nu{x:List UInt8}(hx:x.length≤4096)(rest:List UInt8):nj (bB x++rest)=some ((uv x.length).length,x.length):=by
 unfold nj bB
 have hp:=Eh x.length
 rw[if_pos (by simp only[List.length_append];omega)]
 by_cases h:x.length<128
 ·grind [gi,F5]
 ·have h2:uv x.length=[UInt8.ofNat (x.length%128+128),UInt8.ofNat (x.length/128)]:=by rw[xo h,gi aj]
  have hu:=sK (n:=x.length) aj
  rw[h2]at hu ⊢
  have e:(UInt8.ofNat (x.length%128+128)).toNat=x.length%128+128:=by simp only[UInt8.toNat_ofNat'];omega
  grind [Jf]
theorem rF:∀(ls:List (List UInt8)),(∀x∈ls,x.length≤4096)→cC (ls.flatMap bB)=ls
 | [],_=>by
  grind [tW,nj]
 | x::ls,h=>by
  have hx:=h x (List.mem_cons_self ..)
  have hl:=Nu hx (ls.flatMap bB)
  have Rx:(bB x).length=(uv x.length).length+x.length:=by simp[bB]
  rw[List.flatMap_cons,tX hl ⟨hx,by rw[List.length_append,Rx];omega⟩]
  congr 1
  ·grind [bB]
  ·rw[← Rx,List.drop_left,rF ls (fun y hy=>h y (List.mem_cons_of_mem _ hy))]
theorem AV{n:Nat}(hn:n<4294967296)(hm:m<4294967296):mf (cq n m)=n∧mf ((cq n m).drop 4)=m:=by
 unfold cq
 rw[List.append_assoc]
 refine⟨LF n hn _,?_⟩
 rw[show(vX n++(vX m++(vX n++vX m))).drop 4=vX m++(vX n++vX m)from rfl]
 exact LF m hm _
theorem NV{last n:Nat}(h:(C.drop (16*k)).take 16=cq n m)(hn:n<4294967296)(hm:m<4294967296):mj C k last=decide (last<n∧n≤1073741824∧n%2=k∧m+32≤C.length):=by
 grind [mj,AV]
theorem Ht{last:Nat}(h:(C.drop (16*k)).take 16=List.replicate 16 0):mj C k last=false:=by
 unfold mj
 rw[h]
 have:mf (List.replicate 16 0)=0:=by decide
 grind
theorem ln{n:Nat}{s:Nat × Nat}(h:(C.drop (16*k)).take 16=cq n m)(hn:n<4294967296)(hm:m<4294967296):fT C k s=if s.1<n∧n≤1073741824∧n%2=k∧m+32≤C.length then(n,m)else s:=by
 unfold fT
 rw[NV h hn hm,h,(AV hn hm).1,(AV hn hm).2]
 grind
def yT{s:Nat × Nat}(h:(C.drop (16*k)).take 16=List.replicate 16 0):fT C k s=s:=by
 unfold fT
 rw[Ht h];simp
theorem adP(a b c:List UInt8)(ha:a.length=16)(hb:b.length=16):((a++b++c).drop (16*0)).take 16=a∧((a++b++c).drop (16*1)).take 16=b∧(a++b++c).drop 32=c:=by
 grind
def I'(C b:List UInt8):bY C C.length b=C++b:=by
 unfold bY
 simp_all
def FZ(a h r:List UInt8)(hl:h.length=a.length):bY (a++r) 0 h=h++r:=by
 unfold bY
 simp_all
def QS(m:Nat)(body:List UInt8):List UInt8:=List.replicate 16 0++cq 1 m++body
theorem Nx(m:Nat)(body:List UInt8):(QS m body).length=32+body.length:=by
 grind [QS,gT]
def Jc(ls:List (List UInt8)):cB ls=QS (ls.flatMap bB).length (ls.flatMap bB):=rfl
structure CD(A:Ab)(D:Nat→Prop):Prop where
 wr:∀w∈A.writes,D w.1
 cl:∀f∈A.fs.map (·.1),¬D f→(A.file f).2=(A.file f).1
def Cd.fl(h:Cd k A D):CD A D:=⟨h.wr,h.cl⟩
theorem CD.create(h:CD A D)(hs:iG n A 0 B):∃f,B.look n=some f∧CD B D:=by
 rcases Fh hs with⟨dw,_⟩|⟨_,kZ,f,hf,hn,cN,ot,qW⟩
 ·grind
 refine⟨f,?_,fun w hw=>h.wr w (qW ▸ hw),fun g hg hd=>?_⟩
 ·unfold Ab.look at kZ ⊢
  grind [JW]
 ·rw[RM ot]
  split
  ·rfl
  ·rename_i Uj
   rw[TZ ot]at hg
   rcases List.mem_cons.1 hg with e|hg
   ·grind
   ·exact h.cl g hg hd
theorem CD.write(h:CD A D)(hw:gq n at_ b A 0 B):∃f,A.look n=some f∧B.look n=some f∧B.names=A.names∧B.aF=A.aF∧CD B (fun g=>D g∨g=f):=by
 rcases yx hw with⟨dw,_⟩|⟨_,f,hf,hn,hs,ot,qW⟩
 ·grind
 refine⟨f,hf,by unfold Ab.look at hf ⊢;rw[hn];exact hf,hn,hs,fun w hw=>?_,fun g hg hd=>?_⟩
 ·rw[qW,List.mem_append,List.mem_singleton]at hw
  rcases hw with hw|rfl
  ·exact .inl (h.wr w hw)
  grind
 ·rw[LM ot]at hg
  rw[Br ot hg,if_neg (fun e=>hd (.inr e))]
  exact h.cl g hg (fun x=>hd (.inl x))
theorem CD.sync(h:CD A D)(hs:gj n A 0 B):∃f,A.look n=some f∧B.names=A.names∧B.aF=A.aF∧CD B (fun g=>D g∧g≠f):=by
 rcases Ag hs with⟨dw,_⟩|⟨_,f,hf,hn,cN,ot,qW⟩
 ·grind
 refine⟨f,hf,hn,cN,fun w hw=>?_,fun g hg hd=>?_⟩
 ·rw[qW,List.mem_filter]at hw
  exact⟨h.wr w hw.1,by simpa using hw.2⟩
 ·rw[Hb ot]at hg
  rw[ye ot hg]
  by_cases Uj:g=f
  ·grind
  ·rw[if_neg Uj];exact h.cl g hg (fun x=>hd ⟨x,Uj⟩)
def CD.acJ(h:CD A D)(hf:B.fs=A.fs)(hw:B.writes=A.writes):CD B D:=⟨fun w hm=>h.wr w (hw ▸ hm),fun f hm hd=>by rw[wD hf];exact h.cl f (hf ▸ hm) hd⟩
theorem CD.rename{o:ByteArray}(h:CD A D)(hs:lP o n A 0 B):CD B D:=by
 rcases Ey hs with⟨dw,_⟩|⟨_,f,hf,hn,cN,ot,qW⟩
 ·grind
 ·exact h.acJ ot qW
theorem CD.names(h:CD A (fun _=>False))(hB:HA B)(hs:eb A 0 B)(hk:B.names.length≤k):Cz k B:=by
 rcases zn hs with⟨dw,_⟩|⟨_,hn,cN,ot,qW⟩
 ·grind
 have h2:=h.acJ ot qW
 exact Cd.one hB (by rw[cN,hn]) h2.wr h2.cl hk
theorem CD.put{C:Ab}(h:CD A (fun _=>False))(hw:gq n at_ b A 0 B)(hs:gj n B 0 C):CD C (fun _=>False):=by
 obtain⟨f,h1,h2,_,_,h3⟩:=h.write hw
 obtain⟨g,h4,_,_,h6⟩:=h3.sync hs
 grind
theorem Cz.begin{q:Int}(h:Cz k s.A)(hA:HA s.A)(hb:s.brk=false)(hn:s.A.names.length<k)(hk:k≤200)(hR:eh q x s e t):Cz k t.A:=by
 unfold eh at hR
 rw[if_neg (by rw[hb];simp)]at hR
 split at hR
 ·grind
 split at hR
 ·grind
 split at hR
 ·grind
 split at hR
 ·grind
 rename_i hS
 rw[mI]at hS
 have hv:vw s.A (fS x)=none:=by
  cases hx:vw s.A (fS x)with
  | none=>rfl
  | some c=>rw[hx]at hS;exact absurd rfl hS
 obtain⟨e1,s1,⟨B,⟨e2,A2,V1,qu⟩,rfl⟩,hc⟩:=hR
 have afu:=V1
 obtain⟨f,hf,V1⟩:=V1
 rw[ir]at V1
 obtain⟨rfl,h2,rl,rX,vu⟩:=hA.create hv aj hf V1
 obtain⟨_,_,pQ⟩:=h.fl.create afu
 rcases qu with⟨dw,_⟩|⟨_,e3,A3,LO,S6⟩
 ·grind
 obtain⟨rfl,h3,hv3,hl3,LU⟩:=h2.cG LO
 rcases S6 with⟨dw,_⟩|⟨_,rfl,rfl⟩
 ·grind
 rcases hc with⟨dw,_⟩|⟨_,rfl,rfl⟩
 ·grind
 exact pQ.names h3 LO (by rw[hl3,rX];omega)
theorem Cz.ael{i:Int}{u:fW}{e:Nat}(h:Cz k s.A)(hA:HA s.A)(hB:HA t.A)(hR:nE x i b s 0 t)(hS:kQ x t 0 u):Cz k u.A:=by
 unfold nE at hR
 split at hR
 ·grind
 split at hR
 ·cases hR.1
 split at hR
 ·cases hR.1
 obtain⟨B,⟨e1,A1,hw,hc⟩,rfl⟩:=hR
 unfold kQ at hS
 split at hS
 ·grind
 obtain⟨C,⟨e2,A2,hs,qu⟩,rfl⟩:=hS
 rcases hc with⟨dw,h0,_⟩|⟨h0,_,rfl⟩
 ·grind
 rcases qu with⟨dw,h02,_⟩|⟨h02,_,rfl⟩
 ·grind
 subst h0 h02
 exact h.put hA hB hw hs
theorem Cz.R7{c:List UInt8}(h:Cz k s.A)(hA:HA s.A)(hv:vw s.A (iL x.d)=some c)(hc:c.length≤1000)(hR:iS x s 0 t):Cz k t.A:=by
 unfold iS at hR
 split at hR
 ·grind
 obtain⟨s1,⟨B,⟨e1,A1,hw,y7⟩,rfl⟩,ht⟩:=hR
 rw[if_neg (by simp)]at ht
 rcases y7 with⟨dw,h0,_⟩|⟨h0,_,rfl⟩
 ·grind
 subst h0 ht
 exact h.remove hA hv hc hw
theorem Cz.QT{c:List UInt8}(h:Cz k s.A)(hA:HA s.A)(hb:s.brk=false)(ho:iN s.bu x.d=some x)(hv:vw s.A (iL x.d)=some c)(hc:c.length≤1000)(kZ:vw s.A (fB x)=none)(hn:s.A.names.length<k)(hR:dS x s e t):Cz k t.A:=by
 cases hw:eo x c with
 | false =>
  have hm:jD s x=0:=by unfold jD yL;simp[hb,ho]
  unfold dS at hR
  rw[hm,if_neg (by simp),pA hA,show vw s.A (fS x)=some c from hv,if_pos (by exact hw)]at hR
  obtain⟨e1,uh,he⟩:=hR
  obtain⟨rfl,_⟩:=Cg hA hb ho hv uh
  exact h.R7 hA hv hc uh
 | true =>
  obtain⟨A,bu,brk⟩:=s
  simp only at h hA hb ho hv kZ hn
  subst hb
  have hm:jD ⟨A,bu,false⟩ x=0:=by unfold jD yL;simp[ho]
  unfold dS at hR
  rw[hm,if_neg (by simp),pA hA,show vw A (fS x)=some c from hv,if_neg (by show ¬eo x c=false;rw[hw];simp)]at hR
  obtain⟨s1,⟨B,⟨e1,A1,h1,y7⟩,rfl⟩,ht⟩:=hR
  have h10:=h1
  unfold gj at h1
  rw[ir]at h1
  obtain⟨rfl,g1,v1,l1,r1⟩:=hA.sync hv h1
  have z1:=h.ZP hA h10
  rcases y7 with⟨dw,_⟩|⟨_,e2,A2,h2,qu⟩
  ·grind
  have h20:=h2
  unfold lP at h2
  rw[show [fS x,fB x].all isName=true from by simp[ir,Dp]]at h2
  obtain⟨rfl,g2,v2,r2,f,_,l2⟩:=g1.rename (HM x x) ((v1 _).trans hv) ((v1 _).trans kZ) h2
  have z2:=z1.fl.rename h20
  rcases qu with⟨dw,_⟩|⟨_,e3,A3,h3,S6⟩
  ·grind
  obtain⟨rfl,g3,v3,l3,r3⟩:=g2.cG h3
  rcases S6 with⟨dw,_⟩|⟨_,rfl,rfl⟩
  ·grind
  rw[if_neg (by simp)]at ht
  subst ht
  refine z2.names g3 h3 ?_
  have:(Ab.dW A1.names (fS x)).length≤A1.names.length:=List.length_filter_le _ _
  grind
def JC(C:List UInt8)(n:Nat)(ls:List (List UInt8)):Prop :=
  ∃h0 h1:List UInt8,C=h0++h1++ls.flatMap bB∧h0.length=16∧h1.length=16∧1≤n ∧
    (if n%2=1 then h1=cq n (ls.flatMap bB).length∧(h0=List.replicate 16 0∨∃s,s≤(ls.flatMap bB).length∧h0=cq (n-1) s)
     else h0=cq n (ls.flatMap bB).length∧(h1=List.replicate 16 0∨∃s,s≤(ls.flatMap bB).length∧h1=cq (n-1) s))
theorem JC.len{n:Nat}(h:JC C n ls):C.length=32+(ls.flatMap bB).length:=by
 obtain⟨h0,h1,rfl,l0,l1,_⟩:=h
 grind
def JC.whole(ls:List (List UInt8)):JC (cB ls) 1 ls:=⟨List.replicate 16 0,cq 1 (ls.flatMap bB).length,rfl,by simp,gT _ _,aj,by rw[if_pos rfl];exact⟨rfl,.inl rfl⟩⟩
theorem JC.found{n:Nat}(h:JC C n ls)(hn:n≤1073741824)(hs:(ls.flatMap bB).length<4294967296):fE C=ls.flatMap bB:=by
 have hlen:=h.len
 obtain⟨h0,h1,rfl,l0,l1,h1n,hc⟩:=h
 obtain⟨k0,k1,k2⟩:=adP h0 h1 (ls.flatMap bB) l0 l1
 unfold fE
 rw[if_neg aj,k2]
 have key:(fT (h0++h1++ls.flatMap bB) 1 (fT (h0++h1++ls.flatMap bB) 0 (0,0))).2=(ls.flatMap bB).length:=by
  by_cases hp:n%2=1
  ·rw[if_pos hp]at hc
   obtain⟨rfl,rfl|⟨s,ez,rfl⟩⟩:=hc
   ·rw[yT k0,ln k1 aj hs,if_pos ⟨by simp only;omega,hn,hp,aj⟩]
   ·rw[ln k0 aj aj]
    split
    ·rw[ln k1 aj hs,if_pos ⟨by simp only;omega,hn,hp,aj⟩]
    ·rw[ln k1 aj hs,if_pos ⟨by simp only;omega,hn,hp,aj⟩]
  ·rw[if_neg hp]at hc
   obtain⟨rfl,rfl|⟨s,ez,rfl⟩⟩:=hc
   ·rw[ln k0 aj hs,if_pos ⟨by simp only;omega,hn,aj,aj⟩,yT k1]
   ·rw[ln k0 aj hs,if_pos ⟨by simp only;omega,hn,aj,aj⟩,ln k1 aj aj,if_neg (by intro h;have:=h.1;simp only at this;omega)]
 grind
def Ec(a h h' r:List UInt8)(hl:h'.length=h.length):bY (a++h++r) a.length h'=a++h'++r:=by
 unfold bY
 simp_all
theorem JC.add{n:Nat}(h:JC C n ls)(b:List UInt8):JC (bY (bY C (32+(ls.flatMap bB).length) (bB b)) ((n+1)%2*16) (cq (n+1) ((ls.flatMap bB).length+(bB b).length))) (n+1) (ls++[b]):=by
 have hlen:=h.len
 rw[← hlen,I']
 obtain⟨h0,h1,rfl,l0,l1,h1n,hc⟩:=h
 have hf:(ls++[b]).flatMap bB=ls.flatMap bB++bB b:=by simp
 have pQ:((ls++[b]).flatMap bB).length=(ls.flatMap bB).length+(bB b).length:=by rw[hf,List.length_append]
 by_cases hp:n%2=1
 ·rw[if_pos hp]at hc
  have I0:(n+1)%2=0:=by omega
  rw[I0,Nat.zero_mul,← pQ,List.append_assoc,List.append_assoc,FZ h0 _ _ (by rw[gT,l0])]
  refine⟨cq (n+1) ((ls++[b]).flatMap bB).length,h1,by simp only[hf,List.append_assoc],gT _ _,l1,aj,?_⟩
  grind
 ·rw[if_neg hp]at hc
  have I0:(n+1)%2=1:=by omega
  rw[I0,Nat.one_mul,← pQ,List.append_assoc (h0++h1),← l0,Ec h0 h1 _ _ (by rw[gT,l1])]
  refine⟨h0,cq (n+1) ((ls++[b]).flatMap bB).length,by simp only[hf,List.append_assoc],l0,gT _ _,aj,?_⟩
  grind
def F1(h:HA A)(h':HA B){k:ByteArray}{c c':List UInt8}(hk:vw A k=some c)(hv:vw B=gl (vw A) k (some c')):B.used+c.length=A.used+c'.length:=by
 rw[oI h,oI h',hv]
 exact Th JY h.Jk (hv ▸ h'.Jk) hk
def CN(h:HA A)(h':HA B)(hv:vw B=vw A):B.used=A.used:=by
 rw[oI h,oI h',hv]
 exact F4 JY (hv ▸ h'.Jk) h.Jk
theorem JP{n:Nat}{bu:List (Dg × Bl)}{brk:Bool}{s:Int}{y:SJ}(h:HA A)(hz:Cz k A)(hv:vw A dF=some C)(hj:JC C n ls)(hs:s=((ls.flatMap bB).length:Int))(hb:b.length≤4096)(we:(ls.flatMap bB).length+(bB b).length≤524288)(hn1:n<1073741824)(hr:A.used+(64+(ls.flatMap bB).length+(bB b).length)≤A.room)(hR:jG (mw b) (⟨A,bu,brk⟩,⟨n,s,s,false⟩) e y) :
  e=0∧HA y.1.A∧Cz k y.1.A∧(∃C',vw y.1.A=gl (vw A) dF (some C')∧JC C' (n+1) (ls++[b]))∧y.1.A.room=A.room∧y.1.bu=bu∧y.1.brk=brk∧y.2=⟨((n+1:Nat):Int),(((ls++[b]).flatMap bB).length:Int),(((ls++[b]).flatMap bB).length:Int),false⟩∧y.1.A.names.length=A.names.length∧y.1.A.used≤A.used+(32+(ls.flatMap bB).length+(bB b).length):=by
 subst hs
 have kY:0<(bB b).length:=by have:=Eh b.length;simp[bB];omega
 have hlen:=hj.len
 have hf:((ls++[b]).flatMap bB).length=(ls.flatMap bB).length+(bB b).length:=by simp
 obtain⟨e1,x1,⟨Pb,Km⟩,c1⟩:=hR
 have hw:gG dF (32+((ls.flatMap bB).length:Int)) (bB b)=true:=by
  have:=zG fC (32+(ls.flatMap bB).length) (bB b) aj
  grind
 have ht:(32+((ls.flatMap bB).length:Int)).toNat=32+(ls.flatMap bB).length:=by omega
 obtain⟨a0,a1,a2,a3⟩:=h.Ed hv (32+(ls.flatMap bB).length) (bB b) aj (B:=(A.write true dF (32+(ls.flatMap bB).length) (bB b)).2) (e:=(A.write true dF (32+(ls.flatMap bB).length) (bB b)).1) rfl
 have hz1:gq dF (32+(ls.flatMap bB).length) (bB b) A 0 (A.write true dF (32+(ls.flatMap bB).length) (bB b)).2:=by
  grind [gq,gG,dF,bB]
 have afF:eW dF A ⟨n,((ls.flatMap bB).length:Int),((ls.flatMap bB).length:Int),false⟩ b=(0,(A.write true dF (32+(ls.flatMap bB).length) (bB b)).2,⟨n,(((ls++[b]).flatMap bB).length:Int),((ls.flatMap bB).length:Int),false⟩):=by
  unfold eW
  simp only[Bool.false_eq_true,if_false]
  rw[if_neg aj,if_neg aj,hw,ht,if_pos a0,hf]
  simp
 simp only[afF]at Pb Km
 subst Pb
 rcases c1 with⟨dw,_⟩|⟨_,e2,x2,⟨A',x',qu,I8⟩,c2⟩
 ·grind
 rw[Km]at qu I8
 simp only at qu I8
 obtain⟨A1,u5⟩:∃A1,A1=(A.write true dF (32+(ls.flatMap bB).length) (bB b)).2:=⟨_,rfl⟩
 rw[← u5]at a1 a2 a3 hz1 qu
 have hu1:=F1 h a1 hv a2
 have w0:=iB C (32+(ls.flatMap bB).length) (bB b)
 unfold jh at qu
 simp only[Bool.false_eq_true,if_false]at qu
 rw[if_neg (by rw[hf];omega),if_neg aj]at qu
 obtain⟨z,fe,rfl,rfl⟩:=qu
 obtain⟨e3,x3,⟨⟨Pa,HF⟩,h3c⟩,c3⟩:=fe
 simp only[fC]at Pa HF
 have LQ:gj dF A1 e3 x3.1:=by unfold gj;rw[fC,Pa,HF]
 obtain⟨g0,g1,g2,g3⟩:=a1.Ll (nm:=dF) (c:=bY C (32+(ls.flatMap bB).length) (bB b)) (by rw[a2,eN]) (B:=x3.1) (e:=e3) (by rw[Pa,HF])
 subst g0
 have z3:Cz k x3.1:=hz.put h a1 hz1 LQ
 rcases c3 with⟨dw,_⟩|⟨_,e4,x4,⟨⟨N6,L6⟩,h4c⟩,c4⟩
 ·grind
 have rn:(n:Int).toNat+1=n+1:=by omega
 have J2:(((ls++[b]).flatMap bB).length:Int).toNat=(ls.flatMap bB).length+(bB b).length:=by rw[hf];omega
 simp only[rn,J2]at N6 L6
 have hhl:=gT (n+1) ((ls.flatMap bB).length+(bB b).length)
 have hw4:gG dF (((n+1)%2*16:Nat):Int) (cq (n+1) ((ls.flatMap bB).length+(bB b).length))=true:=zG fC _ _ aj
 rw[hw4]at N6 L6
 have hu3:=CN a1 g1 g2
 obtain⟨k0,k1,k2,k3⟩:=g1.Ed (nm:=dF) (c:=bY C (32+(ls.flatMap bB).length) (bB b)) (by rw[g2,a2,eN]) ((n+1)%2*16) (cq (n+1) ((ls.flatMap bB).length+(bB b).length)) (by rw[hu3,g3,a3];omega) (B:=x4.1) (e:=e4) (by rw[N6,L6])
 subst k0
 have hs4:gq dF ((n+1)%2*16) (cq (n+1) ((ls.flatMap bB).length+(bB b).length)) x3.1 0 x4.1:=by
  grind [gq]
 have hu4:=F1 g1 k1 (by rw[g2,a2,eN]) k2
 have w1:=iB C (32+(ls.flatMap bB).length) (bB b)
 have w2:=iB (bY C (32+(ls.flatMap bB).length) (bB b)) ((n+1)%2*16) (cq (n+1) ((ls.flatMap bB).length+(bB b).length))
 rcases c4 with⟨dw,_⟩|⟨_,e5,x5,⟨⟨UB,UA⟩,h5c⟩,c5⟩
 ·grind
 simp only[fC]at UB UA
 have hs5:gj dF x4.1 e5 x5.1:=by unfold gj;rw[fC,UB,UA]
 obtain⟨m0,m1,m2,m3⟩:=k1.Ll (nm:=dF) (c:=bY (bY C (32+(ls.flatMap bB).length) (bB b)) ((n+1)%2*16) (cq (n+1) ((ls.flatMap bB).length+(bB b).length))) (by rw[k2,eN]) (B:=x5.1) (e:=e5) (by rw[UB,UA])
 subst m0
 have z5:Cz k x5.1:=z3.put g1 k1 hs4 hs5
 have hu5:=CN k1 m1 m2
 rcases c5 with⟨dw,_⟩|⟨_,e6,x6,⟨h6a,h6b⟩,c6⟩
 ·grind
 subst h6a
 rcases c6 with⟨dw,_⟩|⟨_,he,hy⟩
 ·grind
 subst he
 rw[hy,h6b]at I8
 simp only at I8
 rcases c2 with⟨dw,_⟩|⟨_,he,J1⟩
 ·grind
 subst he
 rw[J1,I8]
 simp only
 have rk:vw x5.1=gl (vw A) dF (some (bY (bY C (32+(ls.flatMap bB).length) (bB b)) ((n+1)%2*16) (cq (n+1) ((ls.flatMap bB).length+(bB b).length)))):=by
  rw[m2,k2,g2,a2]
  funext m
  unfold gl
  grind
 refine⟨trivial,m1,z5,⟨_,rk,hj.add b⟩,by rw[m3,k3,g3,a3],trivial,trivial,?_,h.G6 m1 (fun m=>?_),aj⟩
 ·grind
 ·rw[rk]
  unfold gl
  split
  ·rename_i hm;rw[hm,hv];rfl
  ·rfl
end Go.Proofs.YtlionahpheehaaaGreatDoor
