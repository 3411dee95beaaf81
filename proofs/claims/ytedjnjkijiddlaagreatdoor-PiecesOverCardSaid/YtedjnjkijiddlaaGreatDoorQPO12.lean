import Derived.Test.YtedjnjkijiddlaaGreatDoorQPO3
import Derived.Test.YtedjnjkijiddlaaGreatDoorQPO6
import Derived.Test.YtedjnjkijiddlaaGreatDoorQPO7
import Derived.Test.YtedjnjkijiddlaaGreatDoorQPO8
import Derived.Test.YtedjnjkijiddlaaGreatDoorQPO9
import Derived.Test.YtedjnjkijiddlaaGreatDoorQPO11
set_option linter.unusedSimpArgs false
set_option linter.unusedVariables false
set_option maxHeartbeats 1000000
namespace Go.Proofs.YtedjnjkijiddlaaGreatDoor
open Go Go.SL
def Wa(x:jS):jS:=(x >>> 1 &&& BitVec.ofInt 64 6148914691236517205)+(x &&& BitVec.ofInt 64 6148914691236517205)
def V'(x:jS):jS:=(x >>> 2 &&& BitVec.ofInt 64 3689348814741910323)+(x &&& BitVec.ofInt 64 3689348814741910323)
def Ql(x:jS):jS:=(x >>> 4+x) &&& BitVec.ofInt 64 1085102592571150095
def BH(k:Nat)(x:jS):jS:=x+x >>> k
def Gq(x:jS):jS:=BH 32 (BH 16 (BH 8 (Ql (V' (Wa x)))))
def Gr(y:jS):Int:=IntKind.i64.wrap ((BitVec.ofInt IntKind.i64.bits (IntKind.i64.wrap (y.toNat:Int)) &&& BitVec.ofInt IntKind.i64.bits 127).toNat:Int)
theorem Im(y:jS):0≤Gr y∧Gr y≤127:=by
 have h:(BitVec.ofInt IntKind.i64.bits (IntKind.i64.wrap (y.toNat:Int)) &&& BitVec.ofInt IntKind.i64.bits 127).toNat≤127:=by
  rw[BitVec.toNat_and]
  exact Nat.le_trans Nat.and_le_right (by decide)
 unfold Gr
 generalize (BitVec.ofInt IntKind.i64.bits (IntKind.i64.wrap (y.toNat:Int)) &&& BitVec.ofInt IntKind.i64.bits 127).toNat=m at h
 have e:IntKind.i64.wrap (m:Int)=(m:Int):=cK (by simp only[gg];omega)
 rw[e]
 omega
theorem uX(p:jS)(c:Int):IntKind.u64.wrap ((BitVec.ofInt IntKind.u64.bits (p.toNat:Int) &&& BitVec.ofInt IntKind.u64.bits c).toNat:Int)=((p &&& BitVec.ofInt 64 c).toNat:Int):=by
 rw[nD]
 exact mH (p &&& BitVec.ofInt 64 c)
def mE(ws:List jS):Int:=(ws.map fun w=>Gr (Gq w)).sum
theorem B8(ws:List jS):0≤mE ws∧mE ws≤127*ws.length:=by
 unfold mE
 induction ws with
 | nil=>simp
 | cons w ws ih =>
  have:=Im (Gq w)
  simp only[List.map_cons,List.sum_cons,List.length_cons]
  omega
attribute [local irreducible] J K aD Ends ag aB aM bN aZ aP aV bh bW aC
set_option maxRecDepth 20000 in
theorem O9(x:jS):aD Tryz.prog 108 [.int .u64 (x.toNat:Int)] [] (fun r H=>r = .int .i64 (Gr (Gq x))∧H=[]):=by
 refine aD.enter Tryz.func108 ak rfl Tryz.ntmps108 zr zr ?_
 intro G F R hE
 refine go ?_
 refine qp (p:=x) 1 zr zr zr zr ah ?_
 refine go ?_
 ((refine az 5 ((.int .u64 ((x >>> 1 &&& BitVec.ofInt 64 6148914691236517205).toNat:Int))) rfl ((congrArg (Value.int .u64) (uX _ _))) ?_))
 ((refine az 7 ((.int .u64 ((x &&& BitVec.ofInt 64 6148914691236517205).toNat:Int))) rfl ((congrArg (Value.int .u64) (uX _ _))) ?_))
 refine u3 (p:=x >>> 1 &&& BitVec.ofInt 64 6148914691236517205) (q:=x &&& BitVec.ofInt 64 6148914691236517205) zr zr zr ?_
 rw[show(x >>> 1 &&& BitVec.ofInt 64 6148914691236517205)+(x &&& BitVec.ofInt 64 6148914691236517205)=Wa x from rfl]
 obtain⟨a,ha⟩:∃a,a=Wa x:=⟨_,rfl⟩
 rw[← ha]
 refine go ?_
 refine qp (p:=a) 2 zr zr zr zr ah ?_
 refine go ?_
 ((refine az 11 ((.int .u64 ((a >>> 2 &&& BitVec.ofInt 64 3689348814741910323).toNat:Int))) rfl ((congrArg (Value.int .u64) (uX _ _))) ?_))
 ((refine az 13 ((.int .u64 ((a &&& BitVec.ofInt 64 3689348814741910323).toNat:Int))) rfl ((congrArg (Value.int .u64) (uX _ _))) ?_))
 refine u3 (p:=a >>> 2 &&& BitVec.ofInt 64 3689348814741910323) (q:=a &&& BitVec.ofInt 64 3689348814741910323) zr zr zr ?_
 rw[show(a >>> 2 &&& BitVec.ofInt 64 3689348814741910323)+(a &&& BitVec.ofInt 64 3689348814741910323)=V' a from rfl]
 obtain⟨b,hb⟩:∃b,b=V' a:=⟨_,rfl⟩
 rw[← hb]
 refine go ?_
 refine qp (p:=b) 4 zr zr zr zr ah ?_
 refine go ?_
 refine u3 (p:=b >>> 4) (q:=b) zr zr zr ?_
 refine go ?_
 ((refine az 20 ((.int .u64 ((Ql b).toNat:Int))) rfl ((congrArg (Value.int .u64) (uX _ _))) ?_))
 ((refine az 21 ((.int .u64 ((Ql b).toNat:Int))) rfl ((congrArg (Value.int .u64) (uX _ _))) ?_))
 obtain⟨c,hc⟩:∃c,c=Ql b:=⟨_,rfl⟩
 rw[← hc]
 refine qp (p:=c) 8 zr zr zr zr ah ?_
 refine go ?_
 refine u3 (p:=c) (q:=c >>> 8) zr zr zr ?_
 rw[show c+c >>> 8=BH 8 c from rfl]
 obtain⟨d,hd⟩:∃d,d=BH 8 c:=⟨_,rfl⟩
 rw[← hd]
 refine go ?_
 refine qp (p:=d) 16 zr zr zr zr ah ?_
 refine go ?_
 refine u3 (p:=d) (q:=d >>> 16) zr zr zr ?_
 rw[show d+d >>> 16=BH 16 d from rfl]
 obtain⟨e,he⟩:∃e,e=BH 16 d:=⟨_,rfl⟩
 rw[← he]
 refine go ?_
 refine qp (p:=e) 32 zr zr zr zr ah ?_
 refine go ?_
 refine u3 (p:=e) (q:=e >>> 32) zr zr zr ?_
 rw[show e+e >>> 32=BH 32 e from rfl,show BH 32 e=Gq x from by rw[he,hd,hc,hb,ha];rfl]
 refine go ?_
 refine iN zr zr zr zr zr zr ?_
 refine go ?_
 ((refine ae hE Tryz.func108 rfl _ rfl ⟨rfl,rfl⟩ ad))
set_option maxRecDepth 20000 in
theorem zp(sb n:Nat)(wv:Value)(ws:List jS)(hl:ws.length≤65536):aD Tryz.prog 51 [ptr sb] (iP sb n wv ws) (fun r H=>r = .int .i64 (mE ws)∧H=iP sb n wv ws):=by
 unfold iP
 refine aD.enter Tryz.func51 ak rfl Tryz.ntmps51 zr zr ?_
 intro G F R hE
 ((refine dv 1 rfl ?_))
 rintro a c rfl
 refine dB 1 rfl ?_
 intro dK
 refine go ?_
 refine bu (fun i:Nat=>i≤ws.length) (fun i=>ws.length-i) (fun i=>[(3,.int .i64 (mE (ws.take i))),(9,.slice a ws.length c),(10,.int .i64 (ws.length:Int)),(11,.int .i64 (i:Int))])
  (fun _=>ag sb (cl [.int .i64 (n:Int),.slice a ws.length c] 117)::aB 118 1 (.slice a ws.length c) ws.length (qV ws)::F) 0 (Nat.zero_le _) rfl cu ad ?_
 intro i hi ih
 have Yu:=B8 (ws.take i)
 rw[List.length_take,Nat.min_eq_left hi]at Yu
 refine go ?_
 refine au zr zr ?_ ?_
 ·intro cW
  have gw:i<ws.length:=by omega
  obtain⟨w,hw⟩:∃w,ws[i]?=some w:=⟨ws[i],by simp[gw]⟩
  have k9:mE (ws.take (i+1))=mE (ws.take i)+Gr (Gq w):=by
   unfold mE
   rw[List.take_add_one,hw];simp
  have FG:=Im (Gq w)
  obtain⟨b,o,gD,gb⟩:=dK.some (qNe gw)
  simp only[Value.slice.injEq]at gb
  obtain⟨rfl,_,rfl⟩:=gb
  refine go ?_
  refine bK i zr zr zr zr zr zr zr zr gw ?_
  refine aK ?_
  refine bg 1 i zr zr zr dK rfl (Gm hw) zr zr ?_
  unfold Mm
  refine go ?_
  ((refine ai zr zr zr zr (O9 w) ad ?_ bG))
  rintro _ _⟨rfl,rfl⟩
  refine go ?_
  ((refine bB 3 ((.int .i64 (mE (ws.take (i+1))))) rfl ((congrArg (Value.int .i64) k9.symm)) ?_))
  refine aL ih (i+1) rfl ah ah cu ad
 ·intro fq
  have sH:i=ws.length:=by omega
  subst sH
  rw[List.take_length]
  clear ih
  refine go ?_
  ((refine ae hE Tryz.func51 rfl _ rfl ⟨rfl,rfl⟩ ad))
def Tk.put(y:Tk)(i:Nat)(l:List Dg):Tk:=⟨y.yb,y.sb,y.mb,y.x,y.n,jI y.ws i true,fun j=>if j=(i:Int)then some l else y.pf j⟩
set_option maxRecDepth 20000 in
theorem CR(y:Tk)(i:Nat)(hi:i<y.n)(hn:y.n≤65536)(hw:y.n≤y.ws.length*64)(P:HP)(pv:Value)(l:List Dg)(hv:Vw P pv l.length (l.flatMap dC))(hl:l.length≤1000000) :
  aD Tryz.prog 50 [ptr y.yb,.int .i64 (i:Int),pv] [n9 y,P] (fun r H=>r = .tuple #[]∧H=[n9 (y.put i l),P]):=by
 have ln:=Fw P pv l hv hl
 obtain⟨a,c,rfl⟩:=hv.shape
 refine aD.enter Tryz.func50 ak rfl Tryz.ntmps50 zr zr ?_
 intro G F R hE
 refine eE (gj y) ?_
 rintro⟨wv,cs,M⟩ hz
 have q9:=FB y.sb y.n wv y.ws hn hw i hi true
 unfold iP at q9
 refine aj (H':=ag y.yb (cl (lz y) 93)::ag y.sb (cl [.int .i64 (y.n:Int),wv] 117)::aB 118 1 wv y.ws.length (qV y.ws)::aM (Value.int .i64) y.mb cs::aV 35 M::P::F) (by unfold mZ;exact ad) ?_
 refine go ?_
 ((refine ai zr zr zr zr (q9) ad ?_ bG))
 rintro _ _⟨rfl,rfl⟩
 refine go ?_
 refine aF (fun w=>Sat G w ([ag y.yb (cl (lz y) 93)])) (.st 0 (.st 1 (.st 2 (.st 3 (.st 4 (.st 5 (.act 6 (.act 7 .nil)))))))) rfl ak ak ak ei ?_
 refine go ?_
 ((refine ai rfl rfl rfl rfl (ln) ad ?_ (fun _ _ w hp hw=>by obtain rfl:=hp;exact hw.cy ad)))
 rintro r8 _ rfl
 refine go ?_
 ((refine aG (H':=aM (Value.int .i64) y.mb cs::aB 35 32 r8 l.length (l.flatMap dC)::aV 35 M::ag y.yb (cl (lz y) 93)::ag y.sb (cl [.int .i64 (y.n:Int),wv] 117)::aB 118 1 wv (jI y.ws i true).length (qV (jI y.ws i true))::P::F) ad ?_))
 refine iX (kv:=Value.int .i64) (es:=cs) (key:=(i:Int)) (v:=r8) 0 (BN Tryz.underlying3) gE zr zr zr zr zr zr zr zr ?_
 refine go ?_
 refine aj (ao.perm (List.Perm.swap ..)) ?_
 refine aj (H':=aB 35 32 r8 l.length (l.flatMap dC)::aV 35 M::aM (Value.int .i64) y.mb (nk cs (i:Int) r8)::ag y.yb (cl (lz y) 93)::ag y.sb (cl [.int .i64 (y.n:Int),wv] 117)::aB 118 1 wv (jI y.ws i true).length (qV (jI y.ws i true))::P::F) ad ?_
 refine aj (ao.join _ _ _) ?_
 refine eE (Df 35 32 l.length r8 (l.flatMap dC) M) ?_
 rintro M'⟨adl,er⟩
 have hz':Jh (wv,nk cs (i:Int) r8,M') (y.put i l):=Jh.put hz (i:Int) r8 wv l M' er adl _ rfl
 refine aj (H':=mZ (y.put i l) (wv,nk cs (i:Int) r8,M')++(P::F)) (by unfold mZ;exact ad) ?_
 refine aj (jh hz' _) ?_
 ((refine bS hE Tryz.func50 rfl _ rfl ⟨rfl,rfl⟩ ad))
theorem nO{ts:List Tk}{x:Bl}{y:Tk}(h:gy ts x=some y):∃i:Nat,ts[i]?=some y∧y.x=x:=by
 unfold gy at h
 have h1:=List.find?_some h
 obtain⟨i,hi⟩:=List.mem_iff_getElem?.1 (List.mem_of_find?_eq_some h)
 exact⟨i,hi,by simpa using h1⟩
def Nj(o:Option Tk):Value:=match o with
 | none => .tuple #[.int .i64 0,.int .i64 4]
 | some y => .tuple #[.int .i64 ((y.n:Int)-mE y.ws),.int .i64 0]
set_option maxRecDepth 20000 in
theorem E5(tb bs jb:Nat)(tv:Value)(br:Bool)(ts:List Tk)(x:Bl)(hl:ts.length≤1000000)(hn:∀y∈ts,y.n≤65536)(hw:∀y∈ts,y.ws.length≤65536) :
  aD Tryz.prog 22 [ptr tb,eg x] (dr tb bs jb tv ts br) (fun r H=>r=Nj (gy ts x)∧H=dr tb bs jb tv ts br):=by
 have hf:=qP tb bs jb tv br ts x hl
 unfold dr at hf ⊢
 unfold eg at hf ⊢
 refine aD.enter Tryz.func22 ak rfl Tryz.ntmps22 zr zr ?_
 intro G F R hE
 refine aE rfl ?_
 refine bC zr zr bz ?_
 intro b3
 refine go ?_
 refine aH (U:=aN) (l:=bD x) 0 zr zr zr zr zr zr ?_
 refine go ?_
 ((refine ai zr zr zr zr (hf) ad ?_ bG))
 rintro _ _⟨rfl,rfl⟩
 refine go ?_
 cases pW:gy ts x with
 | none =>
  rw[pW]at hE
  unfold P9
  refine go ?_
  ((refine ae hE Tryz.func22 rfl _ rfl ⟨rfl,rfl⟩ ad))
 | some y =>
  rw[pW]at hE
  obtain⟨i,hi,hx⟩:=nO pW
  have GO:y∈ts:=List.mem_of_getElem? hi
  have GN:=hn y GO
  have Kt:=hw y GO
  have Yu:=B8 y.ws
  unfold P9
  refine go ?_
  refine aj (H':=aU ts::ag tb (cl [ptr bs,ptr jb,tv,.bool br] 88)::aB 90 1 tv ts.length (ts.map cm)::F) ad ?_
  refine aj (lf hi _) ?_
  refine eE (gj y) ?_
  rintro⟨wv,cs,M⟩ hz
  refine aj (H':=ag y.yb (cl (lz y) 93)::ag y.sb (cl [.int .i64 (y.n:Int),wv] 117)::aB 118 1 wv y.ws.length (qV y.ws)::aM (Value.int .i64) y.mb cs::aV 35 M::aU (ts.take i++ts.drop (i+1))::ag tb (cl [ptr bs,ptr jb,tv,.bool br] 88)::aB 90 1 tv ts.length (ts.map cm)::F) (by unfold mZ;exact ad) ?_
  have vU:=zp y.sb y.n wv y.ws Kt
  unfold iP at vU
  refine aF (fun w=>Sat G w ([ag y.yb (cl (lz y) 93)])) (.st 0 (.st 1 (.st 2 (.st 3 (.st 5 (.st 6 (.st 7 (.st 8 (.act 4 (.act 9 (.st 10 (.st 11 (.st 12 .nil))))))))))))) rfl ak ak ak ei ?_
  refine go ?_
  ((refine ai rfl rfl rfl rfl (n8 y.sb y.n wv) ad ?_ jg))
  rintro _ _⟨rfl,rfl⟩
  refine go ?_
  ((refine ai rfl rfl rfl rfl (vU) ad ?_ jg))
  rintro _ _⟨rfl,rfl⟩
  refine go ?_
  refine aj (H':=mZ y (wv,cs,M)++(aU (ts.take i++ts.drop (i+1))::ag tb (cl [ptr bs,ptr jb,tv,.bool br] 88)::aB 90 1 tv ts.length (ts.map cm)::F)) (by unfold mZ;exact ad) ?_
  refine aj (jh hz _) ?_
  refine aj (mI hi _) ?_
  refine aj (H':=ag tb (cl [ptr bs,ptr jb,tv,.bool br] 88)::aB 90 1 tv ts.length (ts.map cm)::aU ts::F) ad ?_
  ((refine ae hE Tryz.func22 rfl _ rfl ⟨rfl,rfl⟩ ad))
set_option maxRecDepth 20000 in
theorem zS(v:Value)(l:List Tk)(X:HP)(g:FuncId)(cap:List Value)(p:Tk→Bool)(hlen:l.length≤1000000)(hf:∀x∈l,aD Tryz.prog g (ptr x.yb::cap) [X] (fun v H=>v = .bool (p x)∧H=[X])) :
  aD Tryz.prog 174 [v,.func (.func g) #[] cap.toArray] [aB 90 1 v l.length (l.map cm),X]
   (fun r H=>H=[aB 90 1 r (l.filter fun x => !p x).length ((l.filter fun x => !p x).map cm),X]):=by
 refine aD.enter Tryz.func174 ak rfl Tryz.ntmps174 zr zr ?_
 intro G F R hE
 refine dv 0 rfl ?_
 rintro a0 c rfl
 refine go ?_
 refine iL 0 rfl ?_
 intro hv
 refine cp [0,1] zr zr zr zr (ue _ X _ l hv hlen g cap p hf) rfl bG ?_
 rintro _ _⟨rfl,rfl⟩
 refine go ?_
 refine au zr zr ?_ ?_
 ·intro h0
  have lY:l.any p=false:=nI.1 ah
  have nJ:(l.filter fun x => !p x)=l:=List.filter_eq_self.2 fun x hx=>by
   have:=List.any_eq_false.1 lY x hx
   simpa using this
  rw[nJ]at hE
  refine go ?_
  refine ae hE Tryz.func174 rfl _ zr zr (ao.fin [0,1] 0 zr zr)
 ·intro h0
  obtain⟨i0,x0,KL,Wk,IM,rD⟩:=x7 h0
  have acU:i0<l.length:=by
   rcases Nat.lt_or_ge i0 l.length with h|h
   ·exact h
   ·rw[List.getElem?_eq_none h]at Wk;cases Wk
  rw[KL]
  refine go ?_
  refine sA (fun a lk hn _=>by omega) ?_
  rintro b o c' pre bQ oK mz hnc jl ln
  simp only[Value.slice.injEq,true_and]at oK
  obtain⟨rfl,rfl⟩:=oK
  have h1:l.take (i0+1)=l.take i0++[x0]:=by rw[List.take_add_one,Wk];rfl
  have GY:(l.take i0).filter (fun x => !p x)=l.take i0:=List.filter_eq_self.2 fun x hx=>by simp[rD x hx]
  refine bu (fun s:Nat × Nat × List Tk=>s.1<s.2.1∧s.2.1≤l.length∧s.2.2.length=l.length∧s.2.2.take s.1=(l.take s.2.1).filter (fun x => !p x)∧s.2.2.drop s.2.1=l.drop s.2.1) (fun s=>l.length-s.2.1)
   (fun s=>[(0,.slice (some ⟨b,o,none⟩) l.length c),(1,.func (.func g) #[] cap.toArray),(5,.int .i64 s.1),(6,.int .i64 s.2.1)])
   (fun s=>ag b (cl (pre++s.2.2.map cm++bQ) 90)::X::F) (i0,i0+1,l) ⟨by simp,by simp only;omega,rfl,by simp only[h1,List.filter_append,GY];simp[IM],rfl⟩ rfl cu (ao.refl _) ?_
  rintro⟨i,j,E⟩⟨AL,yg,PZ,Es,Rb⟩ ih
  simp only at AL yg PZ Es Rb
  have eH:(E.map cm).length=l.length:=by rw[List.length_map,PZ]
  have hvE:Vw (ag b (cl (pre++E.map cm++bQ) 90)) (.slice (some ⟨b,o,none⟩) l.length c) l.length (E.map cm):=Vw.ag (by rw[List.append_assoc,← mz,List.drop_left,List.take_left])
  refine go ?_
  refine au zr zr ?_ ?_
  ·intro cW
   simp only at cW
   have qL:j<l.length:=by omega
   obtain⟨x,hx⟩:∃x,l[j]?=some x:=⟨l[j],by simp[qL]⟩
   have hEx:E[j]?=some x:=by
    have:=congrArg (·[0]?) Rb
    simp only[List.getElem?_drop,Nat.add_zero]at this
    rw[this];exact hx
   have fg:=List.mem_of_getElem? hx
   have W3:=hf _ fg
   refine go ?_
   refine bK j zr zr zr zr zr zr zr zr qL ?_
   refine aK ?_
   refine bg 0 j zr zr zr hvE rfl (qx hEx) zr zr ?_
   refine go ?_
   refine cp [1] zr zr zr zr (W3) rfl bG ?_
   rintro _ _⟨rfl,rfl⟩
   refine go ?_
   refine fD zr zr ?_ ?_
   ·intro hp
    have sG:p x=false:=by simpa using hp
    refine go ?_
    refine bK i zr zr zr zr zr zr zr zr ah ?_
    refine kr (U:=aN) (l':=pre++(E.set i x).map cm++bQ) 1 gE zr zr zr zr zr zr zr ?_ ?_ rfl ?_
    ·show o+i+1≤_
     rw[List.length_append,List.length_append,eH];omega
    ·show _=List.take (o+i) (pre++E.map cm++bQ)++[cm x]++List.drop (o+i+1) (pre++E.map cm++bQ)
     have hs:=ot pre (E.map cm) bQ [cm x] i (by rw[eH];simp only[List.length_singleton];omega)
     rw[← mz]
     simp only[List.length_singleton]at hs
     rw[hs,List.map_set,List.set_eq_take_append_cons_drop,if_pos (by rw[eH];omega)]
     simp
    refine go ?_
    refine aL ih (i+1,j+1,E.set i x) rfl ⟨by simp only;omega,by simp only;omega,by simp only[List.length_set];exact PZ,?_,?_⟩ (by simp only;omega) cu ad
    ·simp only
     rw[List.take_add_one,List.take_set_of_le (Nat.le_refl i),Es,List.take_add_one (l:=l),hx,List.getElem?_set_self ah]
     simp[List.filter_append,sG]
    ·simp only
     rw[List.drop_set_of_lt ah,← List.drop_drop,Rb,List.drop_drop]
   ·intro hp
    have sG:p x=true:=by simpa using hp
    refine go ?_
    refine aL ih (i,j+1,E) rfl ⟨by simp only;omega,by simp only;omega,PZ,by simp only;rw[Es,List.take_add_one,hx];simp[List.filter_append,sG],by simp only;rw[← List.drop_drop,Rb,List.drop_drop]⟩ (by simp only;omega) cu ad
  ·intro fq
   refine go ?_
   simp only at fq
   have IU:j=l.length:=by omega
   subst IU
   rw[List.take_length]at Es
   have ye:(l.filter fun x => !p x).length=i:=by rw[← Es,List.length_take];omega
   refine lF zr zr zr zr zr zr zr ah ah (.inl rfl) ?_
   intro o1 N3 Yh
   simp only[Int.toNat_natCast]at N3 Yh
   have N2:i≠c→o1=o+i:=fun h=>by have h2:o1=o+i*1:=N3 h;omega
   have hL:(pre++E.map cm++bQ).length=o+l.length+bQ.length:=by rw[List.length_append,List.length_append,eH,mz]
   obtain⟨ry,Oa,acQ⟩:∃ry,(pre++E.map cm++bQ).take o1++(List.replicate (((l.length:Int).toNat-(i:Int).toNat)) [Value.pointer none]).flatten++(pre++E.map cm++bQ).drop (o1+((l.length:Int).toNat-(i:Int).toNat)*1)=pre++(E.take i).map cm++ry∧c*1≤i*1+ry.length:=by
    have W0:i≠c:=by omega
    rw[N2 W0,← mz,List.append_assoc pre,List.take_length_add_append,List.take_append_of_le_length (by rw[eH];omega),List.map_take]
    refine⟨_,by rw[List.append_assoc],?_⟩
    rw[List.length_append,List.length_drop,lZ]
    simp only[List.length_append,List.length_cons,List.length_nil,eH,Int.toNat_natCast]
    have:=jl
    rw[List.length_map]at this
    omega
   refine Jr (U:=aN) (l':=pre++(E.take i).map cm++ry) 0 gE zr zr zr zr zr zr zr zr ?_ ?_ rfl ?_
   ·have W0:i≠c:=by omega
    show o1+((l.length:Int).toNat-(i:Int).toNat)*1≤_
    rw[N2 W0,hL];omega
   ·rw[← Oa];rfl
   refine go ?_
   refine lF zr zr zr zr zr zr zr ah ah (.inr ah) ?_
   intro o2 ho3 ho4
   have WM:o2=o:=by
    by_cases sj:(0:Int).toNat=c
    ·exact ho4 sj
    ·have:=ho3 sj;rw[this];simp
   subst WM
   refine go ?_
   refine aj (lL (sz:=1) (nn:=i) (c:=c) mz ah (by rw[List.length_map,List.length_take,Nat.min_eq_left ah];omega) (by rw[List.length_map,List.length_take];omega) _) ?_
   rw[← Es,Es,ye,← Es]at hE
   refine ae hE Tryz.func174 rfl _ zr zr (ao.fin [0,1] 0 zr zr)
set_option maxRecDepth 20000 in
theorem Dm(ts:List Tk)(d:Dg)(bx:Nat)(y:Tk)(hy:y∈ts):aD Tryz.prog 175 [ptr y.yb,ptr bx] [Sep [aU ts,ag bx (cl (dC d) 35)] ] (fun r H=>r = .bool (decide (y.x.d=d))∧H=[Sep [aU ts,ag bx (cl (dC d) 35)] ]):=by
 obtain⟨i,hi⟩:=List.mem_iff_getElem?.1 hy
 refine aD.enter Tryz.func175 ak rfl Tryz.ntmps175 zr zr ?_
 intro G F R hE
 refine aj (ao.cB [_,_] _) ?_
 refine aj (lf hi _) ?_
 refine eE (gj y) ?_
 rintro z hz
 refine aj (H':=ag y.yb (cl (lz y) 93)::ag bx (cl (dC d) 35)::ag y.sb (cl [.int .i64 (y.n:Int),z.1] 117)::aB 118 1 z.1 y.ws.length (qV y.ws)::aM (Value.int .i64) y.mb z.2.1::aV 35 z.2.2::aU (ts.take i++ts.drop (i+1))::F) ad ?_
 refine go ?_
 refine aF (fun w=>Sat G w ([ag y.yb (cl (lz y) 93),ag bx (cl (dC d) 35)])) (.st 0 (.st 1 (.st 2 (.st 3 (.st 4 (.st 5 (.st 6 (.st 7 .nil)))))))) rfl ak ak ak ei ?_
 refine go ?_
 refine ck (U:=aN) 0 zr zr zr zr zr zr ?_
 refine go ?_
 refine bL (U:=aN) (l:=dC d) 1 zr zr zr zr zr zr ?_
 refine go ?_
 refine lx (b:=decide (y.x.d=d)) zr zr zr KY (fun w=>La y.x.d d w) ?_
 refine go ?_
 refine aj (H':=mZ y z++(aU (ts.take i++ts.drop (i+1))::ag bx (cl (dC d) 35)::F)) (by unfold mZ;exact ad) ?_
 refine aj (jh hz _) ?_
 refine aj (mI hi _) ?_
 refine aj (ao.bP [_,_] _) ?_
 ((refine ae hE Tryz.func175 rfl _ rfl ⟨rfl,rfl⟩ ad))
end Go.Proofs.YtedjnjkijiddlaaGreatDoor
namespace Go.Proofs.YtedjnjkijiddlaaGreatDoor
open Go Go.SL
theorem rR(q:Tk→Bool):∀(ts:List Tk) (H:List HP),ao (aU ts::H) (aU (ts.filter q)::H)
 | [],H=>ao.refl _
 | y::ts,H=>by
  have h1:ao (aU (y::ts)::H) (n9 y::aU ts::H):=Bp [] ts y H
  by_cases hq:q y=true
  ·rw[List.filter_cons_of_pos hq]
   have h2:ao (n9 y::aU (ts.filter q)::H) (aU (y::ts.filter q)::H):=uo [] (ts.filter q) y H
   exact h1.trans ((ao.cons _ (rR q ts H)).trans h2)
  ·rw[List.filter_cons_of_neg hq]
   exact h1.trans ((ao.drop _ _).trans (rR q ts H))
def lA(ts:List Tk)(d:Dg):List Tk:=ts.filter fun y => !decide (y.x.d=d)
attribute [local irreducible] J K aD Ends ag aB aM bN aZ aP aV bh bW aC
set_option maxRecDepth 20000 in
theorem xD(tb bs jb:Nat)(tv:Value)(br:Bool)(ts:List Tk)(d:Dg)(hl:ts.length≤1000000):aD Tryz.prog 112 [ptr tb,dV d] (dr tb bs jb tv ts br)
  (fun r H=>r = .tuple #[]∧∃nr,H=dr tb bs jb nr (lA ts d) br):=by
 unfold dr dV
 refine aD.enter Tryz.func112 ak rfl Tryz.ntmps112 zr zr ?_
 intro G F R hE
 ((refine dv 1 rfl ?_))
 rintro a c rfl
 refine aE rfl ?_
 refine bC zr zr bz ?_
 intro b3
 refine go ?_
 refine aG (H':=ag tb (cl [ptr bs,ptr jb,.slice a ts.length c,.bool br] 88)::aB 90 1 (.slice a ts.length c) ts.length (ts.map cm)::aU ts::ag b3 (cl (dC d) 35)::F) ad ?_
 refine aG (ao.cons _ (ao.cons _ (ao.bP [_,_] _))) ?_
 refine go ?_
 ((refine ai zr zr zr zr (zS _ ts _ 175 [ptr b3] (fun y=>decide (y.x.d=d)) hl (fun y hy=>Dm ts d b3 y hy)) ad ?_ bG))
 rintro r _ rfl
 ((refine aJ 0 rfl ?_))
 rintro a2 c2 rfl
 refine go ?_
 refine aj (H':=Sep [aU ts,ag b3 (cl (dC d) 35)]::ag tb (cl [ptr bs,ptr jb,.slice a2 (lA ts d).length c2,.bool br] 88)::aB 90 1 (.slice a2 (lA ts d).length c2) (lA ts d).length ((lA ts d).map cm)::F) ad ?_
 refine aj (ao.cB [_,_] _) ?_
 refine aj (rR (fun y => !decide (y.x.d=d)) ts _) ?_
 refine aj (H':=ag tb (cl [ptr bs,ptr jb,.slice a2 (lA ts d).length c2,.bool br] 88)::aB 90 1 (.slice a2 (lA ts d).length c2) (lA ts d).length ((lA ts d).map cm)::aU (lA ts d)::F) ad ?_
 ((refine bS hE Tryz.func112 rfl _ rfl ⟨rfl,_,rfl⟩ ad))
end Go.Proofs.YtedjnjkijiddlaaGreatDoor
namespace Go.Proofs.YtedjnjkijiddlaaGreatDoor
open Go Go.SL
def cd(bs bd jb:Nat)(q:Int)(mb:Nat)(Xs:List HP)(x:SJ):HP:=Sep (cg bs bd q mb x.1++(qY jb bd cS x.2::Xs))
theorem rP(l:List HP):ao [Sep l] l:=by have:=ao.cB l [];rwa[List.append_nil]at this
theorem rY(l:List HP):ao l [Sep l]:=by have:=ao.bP l [];rwa[List.append_nil]at this
def SQ(m:Nat)(i:Nat)(y:SJ):Prop:=0≤y.2.n∧(0≤y.2.s∧y.2.s≤1000000)∧y.1.A.aq.length≤m+10*i∧y.1.A.writes.length≤m+10*i
theorem SQ.append{m i:Nat}{x y:SJ}{b:List UInt8}{e:Nat}(h:SQ m i x)(hS:xu b x e y):SQ m (i+1) y:=by
 obtain⟨h1,h2⟩:=hS
 subst h2
 have hg:=tK x.1.A cS x.2 b
 obtain⟨a1,⟨a2,a3⟩,a4,a5⟩:=h
 unfold SQ
 dsimp only
 refine⟨?_,?_,ah,ah⟩
 ·unfold cT
  split
  ·exact a1
  split
  ·exact a1
  split
  ·exact a1
  split
  ·exact a1
  ·exact a1
 ·unfold cT
  split
  ·exact⟨a2,a3⟩
  split
  ·exact⟨a2,a3⟩
  split
  ·exact⟨a2,a3⟩
  split
  ·dsimp only;omega
  ·exact⟨a2,a3⟩
attribute [local irreducible] J K aD Ends ag aB aM bN aZ aP aV bh bW aC
theorem uE(tb bs jb bd b2 b3:Nat)(tv:Value)(q:Int)(mb:Nat)(x:SJ)(Z:HP)(Ys:List HP)(a:Option Addr)(c:Nat)(b:List UInt8)(hb:eJ Z (.slice a b.length c) b)(hl:b.length≤1000000)(hs:0≤x.2.s∧x.2.s≤1000000000)(eH:x.1.A.writes.length≤1000000000) :
  aD Tryz.prog 90 [ptr b2,ptr b3] [ig tb bs jb tv false,cd bs bd jb q mb (ag b2 (cl [ptr tb] 30)::ag b3 (cl [.slice a b.length c] 22)::Z::Ys) x]
  (fun r H=>∃(e:Nat) (x':SJ),r = .int .i64 (e:Int)∧H=[ig tb bs jb tv false,cd bs bd jb q mb (ag b2 (cl [ptr tb] 30)::ag b3 (cl [.slice a b.length c] 22)::Z::Ys) x']∧xu b x e x'):=by
 have c0:=aD.frame ([ag bs (cl (ej bd q mb x.1.brk) 123),aM dV mb (dt x.1.aY)]++Ys) (Gx tb bs jb bd b2 b3 tv x.1.A x.2 Z a c b hb ah hs eH)
 refine c0.conv ?_ ?_
 ·unfold cd cg
  exact(ao.cons _ (rP _)).trans ad
 ·rintro v H⟨H',⟨rfl,rfl⟩,rfl⟩
  refine⟨[ig tb bs jb tv false,cd bs bd jb q mb _ (⟨(cT cS x.1.A x.2 b).2.1,x.1.aY,x.1.brk⟩,(cT cS x.1.A x.2 b).2.2)],⟨_,_,rfl,rfl,rfl,rfl⟩,?_⟩
  unfold cd cg
  exact ao.trans ad (ao.cons _ (rY _))
theorem qe(tb bs jb bd:Nat)(tv:Value)(q:Int)(mb:Nat)(x:SJ)(Xs:List HP)(hn:0≤x.2.n)(hs:0≤x.2.s∧x.2.s≤1000000000)(cF:x.1.A.aq.length≤900000000)(pQ:x.1.A.writes.length≤900000000) :
  aD Tryz.prog 92 [ptr jb] [ig tb bs jb tv false,cd bs bd jb q mb Xs x]
  (fun r H=>∃(e:Nat) (x':SJ),r = .int .i64 (e:Int)∧H=[ig tb bs jb tv false,cd bs bd jb q mb Xs x']∧C6 x e x'):=by
 have c0:=aD.frame ([ig tb bs jb tv false,ag bs (cl (ej bd q mb x.1.brk) 123),aM dV mb (dt x.1.aY)]++Xs) (HT jb bd cS x.1.A x.2 hn hs cF pQ)
 refine c0.conv ?_ ?_
 ·unfold cd cg
  exact(ao.cons _ (rP _)).trans ad
 ·rintro v H⟨H',⟨e,A',x',rfl,rfl,hC⟩,rfl⟩
  refine⟨[ig tb bs jb tv false,cd bs bd jb q mb _ (⟨A',x.1.aY,x.1.brk⟩,x')],⟨e,_,rfl,rfl,A',x',hC,rfl⟩,?_⟩
  unfold cd cg
  exact ao.trans ad (ao.cons _ (rY _))
theorem Dd(tb bs jb bd b2 b3 row:Nat)(tv:Value)(q:Int)(mb:Nat)(x:SJ)(Z:HP)(Ys:List HP)(a:Option Addr)(c:Nat)(b:List UInt8)(hb:eJ Z (.slice a b.length c) b)(hl:b.length≤1000000)(m:Nat)(hm:m≤800000000)(hx:SQ m 0 x) :
  aD Tryz.prog 38 [ptr tb,.slice (some ⟨row,0,none⟩) 2 2] [ag row (cl (g8 b2 b3 jb) 96),ig tb bs jb tv false,cd bs bd jb q mb (ag b2 (cl [ptr tb] 30)::ag b3 (cl [.slice a b.length c] 22)::Z::Ys) x]
  (fun r H=>∃(e:Nat) (x':SJ),r = .int .i64 (e:Int)∧H=[ag row (cl (g8 b2 b3 jb) 96),ig tb bs jb tv (fR e),cd bs bd jb q mb (ag b2 (cl [ptr tb] 30)::ag b3 (cl [.slice a b.length c] 22)::Z::Ys) x']∧iA (jK b) x e x'):=by
 refine qz (cd bs bd jb q mb (ag b2 (cl [ptr tb] 30)::ag b3 (cl [.slice a b.length c] 22)::Z::Ys)) tb bs jb tv _ _ (g8 b2 b3 jb) (Vw.ag rfl) (by simp[g8]) (jK b) rfl (fun i y=>i≤1→SQ m i y) ?_ x (fun _=>hx)
 intro i fv s mB hs
 match i,mB,hs with
 | 0,mB,hs =>
  cases mB
  cases hs
  refine⟨_,_,_,rfl,fun y hy=>?_⟩
  have hq:=hy ah
  obtain⟨a1,⟨a2,a3⟩,a4,a5⟩:=hq
  refine aD.post (uE tb bs jb bd b2 b3 tv q mb y Z Ys a c b hb hl ⟨a2,ah⟩ ah) ?_
  rintro v H⟨e,x',rfl,rfl,hS⟩
  exact⟨e,x',rfl,rfl,hS,fun _ _=>SQ.append ⟨a1,⟨a2,a3⟩,a4,a5⟩ hS⟩
 | 1,mB,hs =>
  cases mB
  cases hs
  refine⟨_,_,_,rfl,fun y hy=>?_⟩
  have hq:=hy ah
  obtain⟨a1,⟨a2,a3⟩,a4,a5⟩:=hq
  refine aD.post (qe tb bs jb bd tv q mb y _ a1 ⟨a2,ah⟩ ah ah) ?_
  rintro v H⟨e,x',rfl,rfl,hS⟩
  exact⟨e,x',rfl,rfl,hS,fun _ h=>absurd h ah⟩
 | n+2,mB,hs=>cases hs
end Go.Proofs.YtedjnjkijiddlaaGreatDoor
namespace Go.Proofs.YtedjnjkijiddlaaGreatDoor
open Go Go.SL
theorem yZ(bs bd jb:Nat)(q:Int)(mb:Nat)(Xs:List HP)(x:SJ)(F:List HP):ao (cd bs bd jb q mb [] x::(Xs++F)) (cd bs bd jb q mb Xs x::F):=by
 unfold cd
 refine(ao.cB _ _).trans ?_
 have h:cg bs bd q mb x.1++[qY jb bd cS x.2]++(Xs++F)=(cg bs bd q mb x.1++(qY jb bd cS x.2::Xs))++F:=by simp
 rw[h]
 exact ao.bP _ _
theorem tR(bs bd jb:Nat)(q:Int)(mb:Nat)(Xs:List HP)(x:SJ)(F:List HP):ao (cd bs bd jb q mb Xs x::F) (cd bs bd jb q mb [] x::(Xs++F)):=by
 unfold cd
 refine(ao.cB _ _).trans ?_
 have h:(cg bs bd q mb x.1++(qY jb bd cS x.2::Xs))++F=cg bs bd q mb x.1++[qY jb bd cS x.2]++(Xs++F):=by simp
 rw[h]
 exact ao.bP _ _
theorem Pe(X:HP):rM X (.slice none 0 0) []:=⟨[],Vw.nil X none 0,rfl,⟨none,0,rfl,Nat.le_refl _⟩,fun i x h=>by simp at h⟩
def EB(d:Dg):List UInt8:=jA 3 d []
attribute [local irreducible] J K aD Ends ag aB aM bN aZ aP aV bh bW aC cd
set_option maxRecDepth 20000 in
theorem I2(tb bs jb bd:Nat)(tv:Value)(q:Int)(mb:Nat)(ts:List Tk)(s:SJ)(x:Bl)(hl:ts.length≤1000000)(m:Nat)(hm:m≤800000000)(hx:SQ m 0 s) :
  aD Tryz.prog 54 [ptr tb,eg x] (dr tb bs jb tv ts false++[cd bs bd jb q mb [] s])
  (fun r H=>∃(e:Nat) (s':SJ) (nr:Value),r = .int .i64 (e:Int)∧H=dr tb bs jb nr (if e=0 then lA ts x.d else ts) (fR e)++[cd bs bd jb q mb [] s']∧iA (jK (EB x.d)) s e s'):=by
 have hlen:=gQ 3 x.d [] (by simp) (by simp)
 have IK:=fun tv=>xD tb bs jb tv false ts x.d hl
 have R8:=fun a n c=>uD tb bs jb tv a n c
 have iH:=fun b2 b3 row Z Ys a c b hb hl=>Dd tb bs jb bd b2 b3 row tv q mb s Z Ys a c b hb hl m hm hx
 unfold dr at IK ⊢
 unfold ig at R8 iH
 unfold eg
 refine aD.enter Tryz.func54 ak rfl Tryz.ntmps54 zr zr ?_
 intro G F R hE
 refine aE rfl ?_
 refine bC zr zr bz ?_
 intro b3
 refine go ?_
 refine dw 0 zr zr zr zr zr zr ?_
 ((refine ai zr zr zr zr (rZ 3 x.d (ag b3 (cl (bD x) 37)) (.slice none 0 0) [] (Pe _) (by simp) (by simp)) ad ?_ bG))
 rintro r _ rfl
 ((refine aJ 0 rfl ?_))
 rintro a8 c8 rfl
 refine go ?_
 ((refine ai zr zr zr zr (R8 a8 (jA 3 x.d []).length c8) ad ?_ bG))
 rintro _ _⟨c2,c3,row,rfl,rfl⟩
 refine go ?_
 refine aG (H':=aB 5 1 (.slice a8 (jA 3 x.d []).length c8) (jA 3 x.d []).length (bV (jA 3 x.d []))::cd bs bd jb q mb [] s::ag c2 (cl [ptr tb] 30)::ag c3 (cl [.slice a8 (jA 3 x.d []).length c8] 22)::ag row (cl (g8 c2 c3 jb) 96)::ag tb (cl [ptr bs,ptr jb,tv,.bool false] 88)::aB 90 1 tv ts.length (ts.map cm)::aU ts::ag b3 (cl (bD x) 37)::F) ad ?_
 refine gB (bs:=jA 3 x.d []) 0 rfl ?_
 intro IY
 refine aG (H':=cd bs bd jb q mb [] s::([ag c2 (cl [ptr tb] 30),ag c3 (cl [.slice a8 (jA 3 x.d []).length c8] 22),aB 5 1 (.slice a8 (jA 3 x.d []).length c8) (jA 3 x.d []).length (bV (jA 3 x.d []))]++(ag row (cl (g8 c2 c3 jb) 96)::ag tb (cl [ptr bs,ptr jb,tv,.bool false] 88)::aB 90 1 tv ts.length (ts.map cm)::aU ts::ag b3 (cl (bD x) 37)::F))) ad ?_
 refine aG (yZ bs bd jb q mb _ s _) ?_
 ((refine ai zr zr zr zr (iH c2 c3 row _ [] a8 c8 (jA 3 x.d []) IY ah) ad ?_ bG))
 rintro _ _⟨e,s',rfl,rfl,hR⟩
 ((refine aG (H':=cd bs bd jb q mb (ag c2 (cl [ptr tb] 30)::ag c3 (cl [.slice a8 (jA 3 x.d []).length c8] 22)::aB 5 1 (.slice a8 (jA 3 x.d []).length c8) (jA 3 x.d []).length (bV (jA 3 x.d []))::[]) s'::ag tb (cl [ptr bs,ptr jb,tv,.bool (fR e)] 88)::aB 90 1 tv ts.length (ts.map cm)::aU ts::ag b3 (cl (bD x) 37)::F) ad ?_))
 refine aG (tR bs bd jb q mb _ s' _) ?_
 by_cases he:e=0
 ·subst he
  ((refine aG (H':=ag b3 (cl (bD x) 37)::ag tb (cl [ptr bs,ptr jb,tv,.bool false] 88)::aB 90 1 tv ts.length (ts.map cm)::aU ts::cd bs bd jb q mb [] s'::F) ad ?_))
  refine go ?_
  refine dw 0 zr zr zr zr zr zr ?_
  ((refine ai zr zr zr zr (IK tv) ad ?_ bG))
  rintro _ _⟨rfl,nr,rfl⟩
  refine go ?_
  refine aj (H':=ag tb (cl [ptr bs,ptr jb,nr,.bool false] 88)::aB 90 1 nr (lA ts x.d).length ((lA ts x.d).map cm)::aU (lA ts x.d)::cd bs bd jb q mb [] s'::F) ad ?_
  ((refine ae hE Tryz.func54 rfl _ rfl ⟨0,s',nr,rfl,rfl,hR⟩ ad))
 ·((refine aG (H':=ag tb (cl [ptr bs,ptr jb,tv,.bool (fR e)] 88)::aB 90 1 tv ts.length (ts.map cm)::aU ts::cd bs bd jb q mb [] s'::F) ad ?_))
  refine go ?_
  refine au zr zr ?_ ?_
  ·intro _
   refine go ?_
   ((refine ae hE Tryz.func54 rfl _ rfl ⟨e,s',tv,rfl,by rw[if_neg he],hR⟩ ad))
  ·intro h;exfalso;omega
end Go.Proofs.YtedjnjkijiddlaaGreatDoor
namespace Go.Proofs.YtedjnjkijiddlaaGreatDoor
open Go Go.SL
attribute [local irreducible] J K aD Ends ag aB aM bN aZ aP aV bh bW aC
theorem EU(tb bs jb bd b2 b3:Nat)(q:Int)(mb:Nat)(tv:Value)(s:eU)(x:Bl)(cF:s.A.aq.length≤900000000)(eH:s.A.writes.length≤900000000) :
  aD Tryz.prog 55 [ptr b2,ptr b3] (ig tb bs jb tv false::(cg bs bd q mb s++[ag b2 (cl [ptr tb] 30),ag b3 (cl (bD x) 37)]))
  (fun r H=>∃(e:Nat) (t:eU),r = .int .i64 (e:Int)∧H=ig tb bs jb tv false::(cg bs bd q mb t++[ag b2 (cl [ptr tb] 30),ag b3 (cl (bD x) 37)])∧gN x s e t):=by
 have sk:=FC bs bd q mb s x cF eH
 unfold eg at sk
 unfold ig
 refine aD.enter Tryz.func55 ak rfl Tryz.ntmps55 zr zr ?_
 intro G F R hE
 refine go ?_
 refine aF (fun w=>Sat G w ([ag tb (cl [ptr bs,ptr jb,tv,.bool false] 88),ag b2 (cl [ptr tb] 30),ag b3 (cl (bD x) 37)])) (.st 0 (.st 1 (.st 2 (.st 3 (.st 4 (.act 5 (.st 6 .nil))))))) rfl ak ak ak ei ?_
 refine go ?_
 refine bL (U:=aN) (l:=bD x) 2 zr zr zr zr zr zr ?_
 refine go ?_
 refine ai rfl rfl rfl rfl sk ad ?_ (fun _ _ w hp hw=>by obtain⟨_,_,rfl,rfl,_⟩:=hp;exact hw.cy ad)
 rintro _ _⟨e,t,rfl,rfl,hR⟩
 refine go ?_
 refine aj (H':=ag tb (cl [ptr bs,ptr jb,tv,.bool false] 88)::(cg bs bd q mb t++(ag b2 (cl [ptr tb] 30)::ag b3 (cl (bD x) 37)::F))) ad ?_
 ((refine ae hE Tryz.func55 rfl _ rfl ⟨e,t,rfl,rfl,hR⟩ ad))
theorem BY(X:HP)(hK:oe X)(tb bs jb bd b2 b3:Nat)(q:Int)(mb:Nat)(tv:Value)(s:eU)(x:Bl)(cF:s.A.aq.length≤900000000)(eH:s.A.writes.length≤900000000) :
  aD Tryz.prog 52 [ptr b2,ptr b3] (ig tb bs jb tv false::(cg bs bd q mb s++[X,ag b2 (cl [ptr tb] 30),ag b3 (cl (bD x) 37)]))
  (fun r H=>∃(e:Nat) (t:eU),r = .int .i64 (e:Int)∧H=ig tb bs jb tv false::(cg bs bd q mb t++[X,ag b2 (cl [ptr tb] 30),ag b3 (cl (bD x) 37)])∧dI x s e t):=by
 have sk:=HN X hK bs bd q mb s x cF eH
 unfold eg at sk
 unfold ig
 refine aD.enter Tryz.func52 ak rfl Tryz.ntmps52 zr zr ?_
 intro G F R hE
 refine go ?_
 refine aF (fun w=>Sat G w ([ag tb (cl [ptr bs,ptr jb,tv,.bool false] 88),ag b2 (cl [ptr tb] 30),ag b3 (cl (bD x) 37)])) (.st 0 (.st 1 (.st 2 (.st 3 (.st 4 (.act 5 (.st 6 .nil))))))) rfl ak ak ak ei ?_
 refine go ?_
 refine bL (U:=aN) (l:=bD x) 2 zr zr zr zr zr zr ?_
 refine go ?_
 refine ai rfl rfl rfl rfl sk ad ?_ (fun _ _ w hp hw=>by obtain⟨_,_,rfl,rfl,_⟩:=hp;exact hw.cy ad)
 rintro _ _⟨e,t,rfl,rfl,hR⟩
 refine go ?_
 refine aj (H':=ag tb (cl [ptr bs,ptr jb,tv,.bool false] 88)::(cg bs bd q mb t++(X::ag b2 (cl [ptr tb] 30)::ag b3 (cl (bD x) 37)::F))) ad ?_
 ((refine ae hE Tryz.func52 rfl _ rfl ⟨e,t,rfl,rfl,hR⟩ ad))
theorem EV(tb bs jb bd b2 b3:Nat)(q:Int)(mb:Nat)(tv:Value)(s:SJ)(x:Bl)(Ys:List HP)(cF:s.1.A.aq.length≤900000000)(eH:s.1.A.writes.length≤900000000) :
  aD Tryz.prog 55 [ptr b2,ptr b3] [ig tb bs jb tv false,cd bs bd jb q mb (ag b2 (cl [ptr tb] 30)::ag b3 (cl (bD x) 37)::Ys) s]
  (fun r H=>∃(e:Nat) (t:SJ),r = .int .i64 (e:Int)∧H=[ig tb bs jb tv false,cd bs bd jb q mb (ag b2 (cl [ptr tb] 30)::ag b3 (cl (bD x) 37)::Ys) t]∧ec (gN x) s e t):=by
 have c0:=aD.frame ([qY jb bd cS s.2]++Ys) (EU tb bs jb bd b2 b3 q mb tv s.1 x cF eH)
 refine c0.conv ?_ ?_
 ·unfold cd cg
  exact(ao.cons _ (rP _)).trans ad
 ·rintro v H⟨H',⟨e,t,rfl,rfl,hC⟩,rfl⟩
  refine⟨[ig tb bs jb tv false,cd bs bd jb q mb _ (t,s.2)],⟨e,_,rfl,rfl,hC,rfl⟩,?_⟩
  unfold cd cg
  exact ao.trans ad (ao.cons _ (rY _))
theorem BZ(X:HP)(hK:oe X)(tb bs jb bd b2 b3:Nat)(q:Int)(mb:Nat)(tv:Value)(s:SJ)(x:Bl)(Ys:List HP)(cF:s.1.A.aq.length≤900000000)(eH:s.1.A.writes.length≤900000000) :
  aD Tryz.prog 52 [ptr b2,ptr b3] [ig tb bs jb tv false,cd bs bd jb q mb (ag b2 (cl [ptr tb] 30)::ag b3 (cl (bD x) 37)::X::Ys) s]
  (fun r H=>∃(e:Nat) (t:SJ),r = .int .i64 (e:Int)∧H=[ig tb bs jb tv false,cd bs bd jb q mb (ag b2 (cl [ptr tb] 30)::ag b3 (cl (bD x) 37)::X::Ys) t]∧ec (dI x) s e t):=by
 have c0:=aD.frame ([qY jb bd cS s.2]++Ys) (BY X hK tb bs jb bd b2 b3 q mb tv s.1 x cF eH)
 refine c0.conv ?_ ?_
 ·unfold cd cg
  exact(ao.cons _ (rP _)).trans ad
 ·rintro v H⟨H',⟨e,t,rfl,rfl,hC⟩,rfl⟩
  refine⟨[ig tb bs jb tv false,cd bs bd jb q mb _ (t,s.2)],⟨e,_,rfl,rfl,hC,rfl⟩,?_⟩
  unfold cd cg
  exact ao.trans ad (ao.cons _ (rY _))
theorem De(tb bs jb bd row:Nat)(tv:Value)(q:Int)(mb:Nat)(s:SJ)(Xs:List HP)(g:FuncId)(cap:List Value)(S:SJ→Nat→SJ→Prop)(hc:aD Tryz.prog g cap [ig tb bs jb tv false,cd bs bd jb q mb Xs s] (fun r H=>∃(e:Nat) (t:SJ),r = .int .i64 (e:Int)∧H=[ig tb bs jb tv false,cd bs bd jb q mb Xs t]∧S s e t)) :
  aD Tryz.prog 38 [ptr tb,.slice (some ⟨row,0,none⟩) 1 1] [ag row (cl [.func (.func g) #[] cap.toArray] 96),ig tb bs jb tv false,cd bs bd jb q mb Xs s]
  (fun r H=>∃(e:Nat) (t:SJ),r = .int .i64 (e:Int)∧H=[ag row (cl [.func (.func g) #[] cap.toArray] 96),ig tb bs jb tv (fR e),cd bs bd jb q mb Xs t]∧S s e t):=by
 have h0:=qz (cd bs bd jb q mb Xs) tb bs jb tv (ag row (cl [.func (.func g) #[] cap.toArray] 96)) (.slice (some ⟨row,0,none⟩) 1 1) [.func (.func g) #[] cap.toArray] (Vw.ag rfl) (by simp) [S] rfl (fun i y=>i=0→y=s) (by
  intro i fv S' mB hs
  match i,mB,hs with
  | 0,mB,hs =>
   cases mB
   cases hs
   refine⟨_,_,_,rfl,fun y hy=>?_⟩
   have:=hy rfl
   subst this
   refine aD.post hc ?_
   rintro v H⟨e,t,rfl,rfl,hS⟩
   exact⟨e,t,rfl,rfl,hS,fun _ h=>absurd h ah⟩
  | n+1,mB,hs=>cases hs) s (fun _=>rfl)
 refine aD.post h0 ?_
 rintro v H⟨e,t,rfl,rfl,hR⟩
 refine⟨e,t,rfl,rfl,?_⟩
 obtain⟨e1,t1,hS,c1⟩:=hR
 rcases c1 with⟨_,rfl,rfl⟩|⟨rfl,rfl,rfl⟩
 ·exact hS
 ·exact hS
attribute [local irreducible] cd
set_option maxRecDepth 20000 in
theorem HX(tb bs jb bd:Nat)(tv:Value)(q:Int)(mb:Nat)(ts:List Tk)(br:Bool)(s:SJ)(x:Bl)(hl:ts.length≤1000000)(cF:s.1.A.aq.length≤900000000)(eH:s.1.A.writes.length≤900000000)(m:Nat)(hm:m≤800000000)(hx:∀t,ec (gN x) s 0 t→SQ m 0 t) :
  aD Tryz.prog 15 [ptr tb,eg x] (dr tb bs jb tv ts br++[cd bs bd jb q mb [] s])
  (fun r H=>(br=true∧r = .int .i64 10∧H=dr tb bs jb tv ts br++[cd bs bd jb q mb [] s])∨(br=false∧gy ts x=none∧r = .int .i64 4∧H=dr tb bs jb tv ts br++[cd bs bd jb q mb [] s]) ∨
   (br=false∧(gy ts x).isSome=true∧∃(e:Nat) (t:SJ),ec (gN x) s e t∧((e≠0∧r = .int .i64 (e:Int)∧H=dr tb bs jb tv ts (fR e)++[cd bs bd jb q mb [] t]) ∨
    (e=0∧∃(e':Nat) (t':SJ) (nr:Value),r = .int .i64 (e':Int)∧H=dr tb bs jb nr (if e'=0 then lA ts x.d else ts) (fR e')++[cd bs bd jb q mb [] t']∧iA (jK (EB x.d)) t e' t')))):=by
 have hf:=qP tb bs jb tv br ts x hl
 have hG:=fun t h=>I2 tb bs jb bd tv q mb ts t x hl m hm (hx t h)
 unfold dr eg at hf hG ⊢
 refine aD.enter Tryz.func15 ak rfl Tryz.ntmps15 zr zr ?_
 intro G F R hE
 refine aE rfl ?_
 refine bC zr zr bz ?_
 intro b2
 refine bC zr zr bz ?_
 intro b3
 cases br with
 | true =>
  refine go ?_
  refine aj (H':=ag tb (cl [ptr bs,ptr jb,tv,.bool true] 88)::aB 90 1 tv ts.length (ts.map cm)::aU ts::cd bs bd jb q mb [] s::F) ad ?_
  ((refine ae hE Tryz.func15 rfl _ rfl (.inl ⟨rfl,rfl,rfl⟩) ad))
 | false =>
  refine go ?_
  refine aH (U:=aN) (l:=bD x) 0 zr zr zr zr zr zr ?_
  ((refine ai zr zr zr zr (hf) ad ?_ bG))
  rintro _ _⟨rfl,rfl⟩
  cases pW:gy ts x with
  | none =>
   unfold P9
   refine go ?_
   refine aj (H':=ag tb (cl [ptr bs,ptr jb,tv,.bool false] 88)::aB 90 1 tv ts.length (ts.map cm)::aU ts::cd bs bd jb q mb [] s::F) ad ?_
   ((refine ae hE Tryz.func15 rfl _ rfl (.inr (.inl ⟨rfl,pW,rfl,rfl⟩)) ad))
  | some y =>
   unfold P9
   refine go ?_
   refine al (cs:=[.func (.func 55) #[] #[ptr b2,ptr b3] ]) zr zr zr zr zr zr zr zr zr bz ?_
   intro row
   refine aG (H':=cd bs bd jb q mb [] s::([ag b2 (cl [ptr tb] 30),ag b3 (cl (bD x) 37)]++(ag row (cl [.func (.func 55) #[] #[ptr b2,ptr b3] ] 96)::ag tb (cl [ptr bs,ptr jb,tv,.bool false] 88)::aB 90 1 tv ts.length (ts.map cm)::aU ts::F))) ad ?_
   refine aG (yZ bs bd jb q mb _ s _) ?_
   have iH:=De tb bs jb bd row tv q mb s _ _ [ptr b2,ptr b3] _ (EV tb bs jb bd b2 b3 q mb tv s x [] cF eH)
   unfold ig at iH
   ((refine ai zr zr zr zr (iH) ad ?_ bG))
   rintro _ _⟨e,t,rfl,rfl,hS⟩
   ((refine aG (H':=cd bs bd jb q mb (ag b2 (cl [ptr tb] 30)::ag b3 (cl (bD x) 37)::[]) t::ag tb (cl [ptr bs,ptr jb,tv,.bool (fR e)] 88)::aB 90 1 tv ts.length (ts.map cm)::aU ts::F) ad ?_))
   refine aG (tR bs bd jb q mb _ t _) ?_
   by_cases he:e=0
   ·subst he
    ((refine aG (H':=ag b3 (cl (bD x) 37)::ag b2 (cl [ptr tb] 30)::ag tb (cl [ptr bs,ptr jb,tv,.bool false] 88)::aB 90 1 tv ts.length (ts.map cm)::aU ts::cd bs bd jb q mb [] t::F) ad ?_))
    refine go ?_
    refine aH (U:=aN) (l:=bD x) 0 zr zr zr zr zr zr ?_
    ((refine ai zr zr zr zr (hG t hS) ad ?_ bG))
    rintro _ _⟨e',t',nr,rfl,rfl,hR⟩
    refine go ?_
    refine aj (H':=ag tb (cl [ptr bs,ptr jb,nr,.bool (fR e')] 88)::aB 90 1 nr (if e'=0 then lA ts x.d else ts).length ((if e'=0 then lA ts x.d else ts).map cm)::aU (if e'=0 then lA ts x.d else ts)::cd bs bd jb q mb [] t'::F) ad ?_
    ((refine ae hE Tryz.func15 rfl _ rfl (.inr (.inr ⟨rfl,by rw[pW];rfl,0,t,hS,.inr ⟨rfl,e',t',nr,rfl,rfl,hR⟩⟩)) ad))
   ·((refine aG (H':=ag tb (cl [ptr bs,ptr jb,tv,.bool (fR e)] 88)::aB 90 1 tv ts.length (ts.map cm)::aU ts::cd bs bd jb q mb [] t::F) ad ?_))
    refine go ?_
    refine au zr zr ?_ ?_
    ·intro _
     refine go ?_
     ((refine ae hE Tryz.func15 rfl _ rfl (.inr (.inr ⟨rfl,by rw[pW];rfl,e,t,hS,.inl ⟨he,rfl,rfl⟩⟩)) ad))
    ·intro h;exfalso;omega
def RM(x:Bl)(ts:List Tk)(s:SJ)(br:Bool)(r:Int)(dW:List Tk)(hJ:Bool)(t:SJ):Prop :=
 (br=true∧r=10∧dW=ts∧hJ=br∧t=s)∨(br=false∧gy ts x=none∧r=4∧dW=ts∧hJ=br∧t=s) ∨
 (br=false∧∃y,gy ts x=some y∧((mE y.ws<y.n∧r=9∧dW=ts∧hJ=br∧t=s) ∨
  (¬mE y.ws<y.n∧∃(e:Nat) (u:SJ),ec (dI x) s e u∧((e≠0∧e≠8∧r=e∧dW=ts∧hJ=fR e∧t=u) ∨
   ((e=0∨e=8)∧∃e':Nat,r=(if e'=0 then(e:Int)else e')∧dW=(if e'=0 then lA ts x.d else ts)∧hJ=fR e'∧iA (jK (EB x.d)) u e' t)))))
set_option maxRecDepth 20000 in
theorem vK(X:HP)(hK:oe X)(tb bs jb bd:Nat)(tv:Value)(q:Int)(mb:Nat)(ts:List Tk)(br:Bool)(s:SJ)(x:Bl)(hl:ts.length≤1000000)(hn:∀y∈ts,y.n≤65536)(hw:∀y∈ts,y.ws.length≤65536)(cF:s.1.A.aq.length≤900000000)(eH:s.1.A.writes.length≤900000000)(m:Nat)(hm:m≤800000000)(hx:∀e t,ec (dI x) s e t→SQ m 0 t) :
  aD Tryz.prog 14 [ptr tb,eg x] (dr tb bs jb tv ts br++[cd bs bd jb q mb [] s,X])
  (fun r H=>∃(ri:Int) (dW:List Tk) (nr:Value) (hJ:Bool) (t:SJ),r = .int .i64 ri∧H=dr tb bs jb nr dW hJ++[cd bs bd jb q mb [] t,X]∧RM x ts s br ri dW hJ t):=by
 have hf:=qP tb bs jb tv br ts x hl
 have hG:=fun e t h=>I2 tb bs jb bd tv q mb ts t x hl m hm (hx e t h)
 unfold dr eg at hf hG ⊢
 refine aD.enter Tryz.func14 ak rfl Tryz.ntmps14 zr zr ?_
 intro G F R hE
 refine aE rfl ?_
 refine bC zr zr bz ?_
 intro b2
 refine bC zr zr bz ?_
 intro b3
 refine go ?_
 refine aH (U:=aN) (l:=bD x) 0 zr zr zr zr zr zr ?_
 ((refine ai zr zr zr zr (hf) ad ?_ bG))
 rintro _ _⟨rfl,rfl⟩
 cases br with
 | true =>
  refine go ?_
  refine aj (H':=ag tb (cl [ptr bs,ptr jb,tv,.bool true] 88)::aB 90 1 tv ts.length (ts.map cm)::aU ts::cd bs bd jb q mb [] s::X::F) ad ?_
  ((refine ae hE Tryz.func14 rfl _ rfl ⟨10,ts,tv,true,s,rfl,rfl,.inl ⟨rfl,rfl,rfl,rfl,rfl⟩⟩ ad))
 | false =>
  cases pW:gy ts x with
  | none =>
   unfold P9
   refine go ?_
   refine aj (H':=ag tb (cl [ptr bs,ptr jb,tv,.bool false] 88)::aB 90 1 tv ts.length (ts.map cm)::aU ts::cd bs bd jb q mb [] s::X::F) ad ?_
   ((refine ae hE Tryz.func14 rfl _ rfl ⟨4,ts,tv,false,s,rfl,rfl,.inr (.inl ⟨rfl,pW,rfl,rfl,rfl,rfl⟩)⟩ ad))
  | some y =>
   obtain⟨i,hi,CF⟩:=nO pW
   have GO:y∈ts:=List.mem_of_getElem? hi
   have GN:=hn y GO
   have Kt:=hw y GO
   have Yu:=B8 y.ws
   unfold P9
   refine go ?_
   refine aj (H':=aU ts::ag tb (cl [ptr bs,ptr jb,tv,.bool false] 88)::aB 90 1 tv ts.length (ts.map cm)::cd bs bd jb q mb [] s::X::ag b2 (cl [ptr tb] 30)::ag b3 (cl (bD x) 37)::F) ad ?_
   refine aj (lf hi _) ?_
   refine eE (gj y) ?_
   rintro⟨wv,cs,M⟩ hz
   refine aj (H':=ag y.yb (cl (lz y) 93)::ag y.sb (cl [.int .i64 (y.n:Int),wv] 117)::aB 118 1 wv y.ws.length (qV y.ws)::aM (Value.int .i64) y.mb cs::aV 35 M::aU (ts.take i++ts.drop (i+1))::ag tb (cl [ptr bs,ptr jb,tv,.bool false] 88)::aB 90 1 tv ts.length (ts.map cm)::cd bs bd jb q mb [] s::X::ag b2 (cl [ptr tb] 30)::ag b3 (cl (bD x) 37)::F) (by unfold mZ;exact ad) ?_
   have vU:=zp y.sb y.n wv y.ws Kt
   unfold iP at vU
   refine aF (fun w=>Sat G w ([ag y.yb (cl (lz y) 93)])) (.st 0 (.st 1 (.st 2 (.st 3 (.st 5 (.st 6 (.st 7 (.st 8 (.act 4 (.act 9 (.st 10 (.st 11 .nil)))))))))))) rfl ak ak ak ei ?_
   refine go ?_
   ((refine ai rfl rfl rfl rfl (vU) ad ?_ jg))
   rintro _ _⟨rfl,rfl⟩
   refine go ?_
   ((refine ai rfl rfl rfl rfl (n8 y.sb y.n wv) ad ?_ jg))
   rintro _ _⟨rfl,rfl⟩
   refine go ?_
   refine aj (H':=mZ y (wv,cs,M)++(aU (ts.take i++ts.drop (i+1))::ag tb (cl [ptr bs,ptr jb,tv,.bool false] 88)::aB 90 1 tv ts.length (ts.map cm)::cd bs bd jb q mb [] s::X::ag b2 (cl [ptr tb] 30)::ag b3 (cl (bD x) 37)::F)) (by unfold mZ;exact ad) ?_
   refine aj (jh hz _) ?_
   refine aj (mI hi _) ?_
   refine aj (H':=ag b3 (cl (bD x) 37)::ag b2 (cl [ptr tb] 30)::ag tb (cl [ptr bs,ptr jb,tv,.bool false] 88)::aB 90 1 tv ts.length (ts.map cm)::aU ts::cd bs bd jb q mb [] s::X::F) ad ?_
   refine fD zr zr ?_ ?_
   ·intro cW
    refine go ?_
    refine aj (H':=ag tb (cl [ptr bs,ptr jb,tv,.bool false] 88)::aB 90 1 tv ts.length (ts.map cm)::aU ts::cd bs bd jb q mb [] s::X::F) ad ?_
    ((refine ae hE Tryz.func14 rfl _ rfl ⟨9,ts,tv,false,s,rfl,rfl,.inr (.inr ⟨rfl,y,pW,.inl ⟨by simpa using cW,rfl,rfl,rfl,rfl⟩⟩)⟩ ad))
   intro fq
   have W2:¬mE y.ws<y.n:=by simpa using fq
   refine go ?_
   refine al (cs:=[.func (.func 52) #[] #[ptr b2,ptr b3] ]) zr zr zr zr zr zr zr zr zr bz ?_
   intro row
   refine aG (H':=cd bs bd jb q mb [] s::([ag b2 (cl [ptr tb] 30),ag b3 (cl (bD x) 37),X]++(ag row (cl [.func (.func 52) #[] #[ptr b2,ptr b3] ] 96)::ag tb (cl [ptr bs,ptr jb,tv,.bool false] 88)::aB 90 1 tv ts.length (ts.map cm)::aU ts::F))) ad ?_
   refine aG (yZ bs bd jb q mb _ s _) ?_
   have iH:=De tb bs jb bd row tv q mb s _ _ [ptr b2,ptr b3] _ (BZ X hK tb bs jb bd b2 b3 q mb tv s x [] cF eH)
   unfold ig at iH
   ((refine ai zr zr zr zr (iH) ad ?_ bG))
   rintro _ _⟨e,t,rfl,rfl,hS⟩
   ((refine aG (H':=cd bs bd jb q mb (ag b2 (cl [ptr tb] 30)::ag b3 (cl (bD x) 37)::X::[]) t::ag tb (cl [ptr bs,ptr jb,tv,.bool (fR e)] 88)::aB 90 1 tv ts.length (ts.map cm)::aU ts::F) ad ?_))
   refine aG (tR bs bd jb q mb _ t _) ?_
   ((refine aG (H':=ag b3 (cl (bD x) 37)::ag b2 (cl [ptr tb] 30)::ag tb (cl [ptr bs,ptr jb,tv,.bool (fR e)] 88)::aB 90 1 tv ts.length (ts.map cm)::aU ts::cd bs bd jb q mb [] t::X::F) ad ?_))
   by_cases NQ:e=0∨e=8
   ·have hb:fR e=false:=decide_eq_false ah
    rw[hb]
    have lV:∀e:Nat,(e=0∨e=8)→True:=fun _ _=>trivial
    rcases NQ with rfl|rfl
    all_goals(
     refine go ?_
     refine aH (U:=aN) (l:=bD x) 0 zr zr zr zr zr zr ?_
     ((refine ai zr zr zr zr (hG _ t hS) ad ?_ bG))
     rintro _ _⟨e',t',nr,rfl,rfl,hR⟩
     by_cases L7:e'=0
     ·subst L7
      refine go ?_
      refine aj (H':=ag tb (cl [ptr bs,ptr jb,nr,.bool (fR 0)] 88)::aB 90 1 nr (lA ts x.d).length ((lA ts x.d).map cm)::aU (lA ts x.d)::cd bs bd jb q mb [] t'::X::F) ad ?_
      ((refine ae hE Tryz.func14 rfl _ rfl ⟨_,lA ts x.d,nr,fR 0,t',rfl,rfl,.inr (.inr ⟨rfl,y,pW,.inr ⟨W2,_,t,hS,.inr ⟨ah,0,rfl,rfl,rfl,hR⟩⟩⟩)⟩ ad))
     ·refine go ?_
      refine au zr zr ?_ ?_
      ·intro _
       refine go ?_
       refine aj (H':=ag tb (cl [ptr bs,ptr jb,nr,.bool (fR e')] 88)::aB 90 1 nr (if e'=0 then lA ts x.d else ts).length ((if e'=0 then lA ts x.d else ts).map cm)::aU (if e'=0 then lA ts x.d else ts)::cd bs bd jb q mb [] t'::X::F) ad ?_
       ((refine ae hE Tryz.func14 rfl _ rfl ⟨e',_,nr,fR e',t',rfl,rfl,.inr (.inr ⟨rfl,y,pW,.inr ⟨W2,_,t,hS,.inr ⟨ah,e',(if_neg L7).symm,rfl,rfl,hR⟩⟩⟩)⟩ ad))
      ·intro h;exfalso;omega)
   ·refine go ?_
    ((refine az 37 ((.bool true)) rfl ((congrArg Value.bool (by simp;omega))) ?_))
    refine go ?_
    refine fD zr zr ?_ ?_
    ·intro _
     refine go ?_
     refine aj (H':=ag tb (cl [ptr bs,ptr jb,tv,.bool (fR e)] 88)::aB 90 1 tv ts.length (ts.map cm)::aU ts::cd bs bd jb q mb [] t::X::F) ad ?_
     ((refine ae hE Tryz.func14 rfl _ rfl ⟨e,ts,tv,fR e,t,rfl,rfl,.inr (.inr ⟨rfl,y,pW,.inr ⟨W2,e,t,hS,.inl ⟨ah,ah,rfl,rfl,rfl,rfl⟩⟩⟩)⟩ ad))
    ·intro h
     exfalso
     simp at h
     omega
end Go.Proofs.YtedjnjkijiddlaaGreatDoor
namespace Go.Proofs.YtedjnjkijiddlaaGreatDoor
open Go Go.SL
attribute [local irreducible] J K aD Ends ag aB aM bN aZ aP aV bh bW aC
def dZ(s:eU)(x:Bl)(i:Int):List UInt8 × Nat:=if pI s.aY x then(match cP x i with
 | none=>([],1)
 | some (a,n)=>s.A.read (du kS x.d) a n)else([],4)
set_option maxRecDepth 20000 in
theorem Hx(bs bd:Nat)(q:Int)(mb:Nat)(s:eU)(x:Bl)(i:Int):aD Tryz.prog 138 [ptr bs,eg x,.int .i64 i] (cg bs bd q mb s)
  (fun r H=>∃rv,r = .tuple #[rv,.int .i64 ((dZ s x i).2:Int)]∧H=aB 5 1 rv (dZ s x i).1.length (bV (dZ s x i).1)::cg bs bd q mb s):=by
 obtain⟨A,aY,brk⟩:=s
 have ho:=DF bs bd q mb brk aY x
 have fW:=yX x i
 have hf:=nP kS x.d (by decide)
 unfold eg dV at *
 unfold cg
 dsimp only
 refine aD.enter Tryz.func138 ak rfl Tryz.ntmps138 zr zr ?_
 intro G F R hE
 refine aE rfl ?_
 refine bC zr zr bz ?_
 intro b4
 refine go ?_
 refine aH (U:=aN) (l:=bD x) 0 zr zr zr zr zr zr ?_
 ((refine ai zr zr zr zr (ho) ad ?_ bG))
 rintro _ _⟨rfl,rfl⟩
 cases hh:pI aY x with
 | false =>
  have h1:dZ ⟨A,aY,brk⟩ x i=([],4):=by unfold dZ;rw[if_neg (by simp[hh])]
  rw[h1]at hE
  refine go ?_
  refine aj (bJ 5 1 none _) ?_
  refine aj (H':=aB 5 1 (.slice none 0 0) 0 []::ag bs (cl (ej bd q mb brk) 123)::aM dV mb (dt aY)::aC bd A::F) ad ?_
  ((refine ae hE Tryz.func138 rfl _ rfl ⟨_,rfl,rfl⟩ ad))
 | true =>
  refine go ?_
  refine aH (U:=aN) (l:=bD x) 2 zr zr zr zr zr zr ?_
  ((refine go ?_;(refine ai zr zr zr zr (fW) ad ?_ bG)))
  rintro _ _⟨rfl,rfl⟩
  cases hs:cP x i with
  | none =>
   have h1:dZ ⟨A,aY,brk⟩ x i=([],1):=by unfold dZ;rw[if_pos (by simp[hh]),hs]
   rw[h1]at hE
   refine go ?_
   refine aj (bJ 5 1 none _) ?_
   refine aj (H':=aB 5 1 (.slice none 0 0) 0 []::ag bs (cl (ej bd q mb brk) 123)::aM dV mb (dt aY)::aC bd A::F) ad ?_
   ((refine ae hE Tryz.func138 rfl _ rfl ⟨_,rfl,rfl⟩ ad))
  | some an =>
   obtain⟨a,n⟩:=an
   have h1:dZ ⟨A,aY,brk⟩ x i=A.read (du kS x.d) a n:=by unfold dZ;rw[if_pos (by simp[hh]),hs]
   rw[h1]at hE
   have vz:=Co bd A (du kS x.d) a n
   refine go ?_
   refine aj (H':=ag b4 (cl (bD x) 37)::ag bs (cl (ej bd q mb brk) 123)::aM dV mb (dt aY)::aC bd A::F) ad ?_
   refine aF (fun w=>Sat G w ([ag b4 (cl (bD x) 37),ag bs (cl (ej bd q mb brk) 123)])) (.st 0 (.st 1 (.st 2 (.st 3 (.st 4 (.st 5 (.st 7 (.st 8 (.act 6 (.act 9 (.st 10 (.st 11 (.st 12 (.st 13 .nil)))))))))))))) rfl ak ak ak ei ?_
   refine go ?_
   refine ck (U:=aN) 0 zr zr zr zr zr zr ?_
   refine go ?_
   ((refine ai rfl rfl rfl rfl (hf) ad ?_ jg))
   rintro _ _⟨rfl,rfl⟩
   refine go ?_
   ((refine ai rfl rfl rfl rfl (vz) ad ?_ (fun _ _ w hp hw=>by obtain⟨r,rfl,rfl⟩:=hp;exact hw.cy ad)))
   rintro _ _⟨r,rfl,rfl⟩
   refine go ?_
   refine aj (H':=aB 5 1 r (A.read (du kS x.d) a n).1.length (bV (A.read (du kS x.d) a n).1)::ag bs (cl (ej bd q mb brk) 123)::aM dV mb (dt aY)::aC bd A::F) ad ?_
   ((refine ae hE Tryz.func138 rfl _ rfl ⟨_,rfl,rfl⟩ ad))
theorem J2(tb bs jb bd b2 b3:Nat)(q:Int)(mb:Nat)(tv:Value)(s:eU)(x:Bl)(cF:s.A.aq.length≤900000000)(eH:s.A.writes.length≤900000000) :
  aD Tryz.prog 47 [ptr b2,ptr b3] (ig tb bs jb tv false::(cg bs bd q mb s++[ag b2 (cl [ptr tb] 30),ag b3 (cl (bD x) 37)]))
  (fun r H=>∃(e:Nat) (t:eU),r = .int .i64 (e:Int)∧H=ig tb bs jb tv false::(cg bs bd q mb t++[ag b2 (cl [ptr tb] 30),ag b3 (cl (bD x) 37)])∧j8 x s e t):=by
 have sk:=RC bs bd q mb s x cF eH
 unfold eg at sk
 unfold ig
 refine aD.enter Tryz.func47 ak rfl Tryz.ntmps47 zr zr ?_
 intro G F R hE
 refine go ?_
 refine aF (fun w=>Sat G w ([ag tb (cl [ptr bs,ptr jb,tv,.bool false] 88),ag b2 (cl [ptr tb] 30),ag b3 (cl (bD x) 37)])) (.st 0 (.st 1 (.st 2 (.st 3 (.st 4 (.act 5 (.st 6 .nil))))))) rfl ak ak ak ei ?_
 refine go ?_
 refine bL (U:=aN) (l:=bD x) 2 zr zr zr zr zr zr ?_
 refine go ?_
 refine ai rfl rfl rfl rfl sk ad ?_ (fun _ _ w hp hw=>by obtain⟨_,_,rfl,rfl,_⟩:=hp;exact hw.cy ad)
 rintro _ _⟨e,t,rfl,rfl,hR⟩
 refine go ?_
 refine aj (H':=ag tb (cl [ptr bs,ptr jb,tv,.bool false] 88)::(cg bs bd q mb t++(ag b2 (cl [ptr tb] 30)::ag b3 (cl (bD x) 37)::F))) ad ?_
 ((refine ae hE Tryz.func47 rfl _ rfl ⟨e,t,rfl,rfl,hR⟩ ad))
theorem J4(X:HP)(tb bs jb bd b2 b3 b4 b5:Nat)(q:Int)(mb:Nat)(tv:Value)(s:eU)(x:Bl)(i:Int)(a:Option Addr)(c:Nat)(b:List UInt8)(hv:Vw X (.slice a b.length c) b.length (bV b))(iD:b.length≤1000000000)(hi : -9223372036854775808≤i∧i≤9223372036854775807)(cF:s.A.aq.length≤900000000)(eH:s.A.writes.length≤900000000) :
  aD Tryz.prog 45 [ptr b2,ptr b3,ptr b4,ptr b5] (ig tb bs jb tv false::(cg bs bd q mb s++[X,ag b2 (cl [ptr tb] 30),ag b3 (cl (bD x) 37),ag b4 (cl [.int .i64 i] 3),ag b5 (cl [.slice a b.length c] 22)]))
  (fun r H=>∃(e:Nat) (t:eU),r = .int .i64 (e:Int)∧H=ig tb bs jb tv false::(cg bs bd q mb t++[X,ag b2 (cl [ptr tb] 30),ag b3 (cl (bD x) 37),ag b4 (cl [.int .i64 i] 3),ag b5 (cl [.slice a b.length c] 22)])∧mF x i b s e t):=by
 have sk:=XV X bs bd q mb s x i _ b hv iD hi cF eH
 unfold eg at sk
 unfold ig
 refine aD.enter Tryz.func45 ak rfl Tryz.ntmps45 zr zr ?_
 intro G F R hE
 refine go ?_
 refine aF (fun w=>Sat G w ([ag tb (cl [ptr bs,ptr jb,tv,.bool false] 88),ag b2 (cl [ptr tb] 30),ag b3 (cl (bD x) 37),ag b4 (cl [.int .i64 i] 3),ag b5 (cl [.slice a b.length c] 22)])) (.st 0 (.st 1 (.st 2 (.st 3 (.st 4 (.st 5 (.st 6 (.act 7 (.st 8 .nil))))))))) rfl ak ak ak ei ?_
 refine go ?_
 refine bL (U:=aN) (l:=bD x) 2 zr zr zr zr zr zr ?_
 (repeat((refine aK ?_;first|refine lH 3 zr zr zr zr zr zr ?_|refine lH 4 zr zr zr zr zr zr ?_)))
 refine ai rfl rfl rfl rfl sk ad ?_ (fun _ _ w hp hw=>by obtain⟨_,_,rfl,rfl,_⟩:=hp;exact hw.cy ad)
 rintro _ _⟨e,t,rfl,rfl,hR⟩
 refine go ?_
 refine aj (H':=ag tb (cl [ptr bs,ptr jb,tv,.bool false] 88)::(cg bs bd q mb t++(X::ag b2 (cl [ptr tb] 30)::ag b3 (cl (bD x) 37)::ag b4 (cl [.int .i64 i] 3)::ag b5 (cl [.slice a b.length c] 22)::F))) ad ?_
 ((refine ae hE Tryz.func45 rfl _ rfl ⟨e,t,rfl,rfl,hR⟩ ad))
attribute [local irreducible] LI vq
set_option maxRecDepth 20000 in
theorem Fp(jb bd:Nat)(name:ByteArray)(IP:name.size≤1000000000)(A:Ab)(x:JN)(V:HP)(lv:Value)(ls:List (List UInt8))(hv:rM V lv ls)(hl:(ls.flatMap aR).length≤100000000)(hn:ls.length≤1000000000)(cF:A.aq.length≤900000000)(pQ:A.writes.length≤900000000) :
    aD Tryz.prog 79 [ptr jb,lv] [aC bd A,qY jb bd name x,V]
      (fun r H=>∃(e:Nat) (A':Ab) (x':JN),r = .int .i64 (e:Int)∧H=[aC bd A',qY jb bd name x',V]∧n7 name A x ls e A' x'):=by
  obtain⟨n,s,c,bk⟩:=x
  have lk:=hv
  obtain⟨cs,dK,ln,⟨a,cc,rfl,hcc⟩,pj⟩:=hv
  dsimp only [qY,jr]
  refine aD.enter Tryz.func79 ak rfl Tryz.ntmps79 zr zr ?_
  intro G F R hE
  unfold n7 at hE
  cases bk with
  | true =>
    simp only[if_true]at hE
    refine go ?_
    ((refine ae hE Tryz.func79 rfl _ rfl ⟨10,_,⟨n,s,c,true⟩,rfl,rfl,rfl,rfl,rfl⟩ ad))
  | false =>
    simp only[Bool.false_eq_true,if_false]at hE
    refine go ?_
    refine bu (fun i:Nat=>i≤ls.length∧∀(j:Nat) (y:List UInt8),j<i→ls[j]?=some y→y.length≤4096) (fun i=>ls.length-i)
      (fun i=>[(0,ptr jb),(0+1,.slice a ls.length cc),(5,.int .i64 (((ls.take i).flatMap aR).length:Int)),(12,.slice a ls.length cc),(13,.int .i64 ls.length),(14,.int .i64 (i:Int))])
      (fun _=>aC bd A::ag jb (cl [ptr bd,.string name,.int .i64 n,.int .i64 s,.int .i64 c,.bool false] 186)::V::F) 0 ⟨Nat.zero_le _,fun j y hj=>by omega⟩ rfl cu ad ?_
    rintro i⟨hi,zE⟩ ih
    refine go ?_
    refine au zr zr ?_ ?_
    case' refine_1 =>
      intro cW
      have Sf:i<ls.length:=by omega
      obtain⟨y,hy⟩:∃y,ls[i]?=some y:=⟨ls[i],by simp⟩
      obtain⟨cv,mO,hby⟩:=pj i y hy
      obtain⟨b1,o1,k1,zF⟩:=dK.some (by intro e;rw[e]at mO;simp at mO)
      simp only[Value.slice.injEq,true_and]at zF
      obtain⟨rfl,rfl⟩:=zF
      obtain⟨ay,ky,rfl,hky⟩:=hby.2
      have GY:=AS hy
      have nJ:((ls.take (i+1)).flatMap aR).length=((ls.take i).flatMap aR).length+(aR y).length:=by rw[GY,List.length_append]
      have hle:=I0 ls (i+1)
      refine go ?_
      refine bK i zr zr zr zr zr zr zr zr Sf ?_
      refine bg 2 i zr zr zr dK rfl mO zr zr ?_
      refine go ?_
      refine au zr zr ?_ ?_
      · intro uK
        have lY:(ls.any fun b=>decide (4096<b.length))=true:=List.any_eq_true.2 ⟨y,List.mem_of_getElem? hy,decide_eq_true ah⟩
        simp only[if_pos lY]at hE
        refine go ?_
        ((refine ae hE Tryz.func79 rfl _ rfl ⟨1,_,⟨n,s,c,false⟩,rfl,rfl,rfl,rfl,rfl⟩ ad))
      intro lC
      have adV:=nQ y ah
      refine go ?_
      ((refine ai zr zr zr zr (qb V _ y hby ah) ad ?_ bG))
      rintro r _ rfl
      ((refine aJ 0 rfl ?_))
      rintro ra rc rfl
      refine go ?_
      ((refine bB 5 ((.int .i64 (((ls.take (i+1)).flatMap aR).length:Int))) rfl ((congrArg (Value.int .i64) (by rw[nJ];simp))) ?_))
      refine go ?_
      refine aL ih (i+1) rfl (⟨ah,fun j z hj hz=>by
        rcases Nat.lt_or_ge j i with h|h
        · exact zE j z h hz
        · have:j=i:=by omega
          subst this
          rw[hy]at hz;cases hz;omega⟩) ah cu ad
    intro fq
    have sH:i=ls.length:=by omega
    subst sH
    rw[List.take_length]
    have lY:¬(ls.any fun b=>decide (4096<b.length))=true:=fun h=>by
      obtain⟨y,hy,hb⟩:=List.any_eq_true.1 h
      obtain⟨j,hj,rfl⟩:=List.getElem_of_mem hy
      have:=zE j _ ah (List.getElem?_eq_getElem hj)
      simp at hb;omega
    simp only[if_neg lY]at hE
    refine go ?_
    refine au zr zr ?_ ?_
    · intro uK
      have qM:524288<(ls.flatMap aR).length:=by omega
      simp only[if_pos qM]at hE
      refine go ?_
      ((refine ae hE Tryz.func79 rfl _ rfl ⟨3,_,⟨n,s,c,false⟩,rfl,rfl,rfl,rfl,rfl⟩ ad))
    intro lC
    have qM:¬524288<(ls.flatMap aR).length:=by omega
    simp only[if_neg qM]at hE
    refine go ?_
    ((refine ai zr zr zr zr (Ik jb bd name n s c false A V _ ls lk ah hn IP cF pQ) ad ?_ bG))
    rintro _ _⟨e,⟨A',n',s',c'⟩,rfl,rfl,q9⟩
    refine go ?_
    ((refine ai zr zr zr zr (sr jb bd name n' s' c' false e) ad ?_ bG))
    rintro _ _⟨rfl,rfl⟩
    refine go ?_
    ((refine ae hE Tryz.func79 rfl _ rfl ⟨e,A',⟨n',s',c',decide (e≠0)⟩,rfl,rfl,_,q9,rfl,rfl⟩ ad))
end Go.Proofs.YtedjnjkijiddlaaGreatDoor
namespace Go.Proofs.YtedjnjkijiddlaaGreatDoor
open Go Go.SL
def iO(b:List UInt8):Option (UInt8 × Dg × List (List UInt8)):=match pg b with
 | some (x1::x2::l)=>if((x1::x2::l).getLast?.map (·.1))=some ((2+l.length:Nat):Int)∧x1.2.length=1∧x2.2.length=32 then some (x1.2.headD 0,tJ x2.2,l.map (·.2))else none
 | _=>none
def pJ(b:List UInt8):Option Nat:=(cX b).bind fun n=>if n≤1048576 then some n else none
def gx(b:List UInt8):Option Dg:=if b.length=32 then some (tJ b)else none
def DM(n:Nat):Int:=IntKind.u64.wrap ((BitVec.ofInt IntKind.u64.bits (n:Int) &&& BitVec.ofInt IntKind.u64.bits 4294967295).toNat:Int)
theorem Az(n:Nat):∃k:Nat,DM n=k∧k<4294967296∧(n≤1048576→k=n):=by
 have e1:(BitVec.ofInt IntKind.u64.bits (4294967295:Int)).toNat=4294967295:=by decide
 obtain⟨k,hk⟩:∃k,k=(BitVec.ofInt IntKind.u64.bits (n:Int) &&& BitVec.ofInt IntKind.u64.bits 4294967295).toNat:=⟨_,rfl⟩
 have hle:k≤4294967295:=by
  rw[hk,BitVec.toNat_and,e1]
  exact Nat.and_le_right
 refine⟨k,?_,ah,fun hn=>?_⟩
 ·unfold DM
  rw[← hk]
  exact cK (by simp only[gg];omega)
 ·rw[hk,BitVec.toNat_and,e1]
  have e2:(BitVec.ofInt IntKind.u64.bits (n:Int)).toNat=n:=by
   rw[BitVec.ofInt_natCast,BitVec.toNat_ofNat]
   exact Nat.mod_eq_of_lt (by show n<2 ^ 64;omega)
  rw[e2,show(4294967295:Nat)=2 ^ 32-1 from rfl,Nat.and_two_pow_sub_one_eq_mod]
  exact Nat.mod_eq_of_lt ah
attribute [local irreducible] J K aD Ends ag aB aM bN aZ aP aV bh bW Sha.chunks Sha.chunk Sha.rounds Sha.sched dM ct cU DM
theorem pH(X:HP)(v:Value)(b:List UInt8)(hb:eJ X v b)(hl:b.length≤1000000) :
  aD Tryz.prog 135 [v] [X] (fun r H=>H=[X]∧∃k:Nat,k<4294967296∧r = .tuple #[.int .i64 (k:Int),.bool (pJ b).isSome]∧∀m,pJ b=some m→k=m):=by
 have htu:=me X v b hb ah
 obtain⟨a,c,rfl,hc⟩:=hb.2
 refine aD.enter Tryz.func135 ak rfl Tryz.ntmps135 zr zr ?_
 intro G F R hE
 refine go ?_
 ((refine ai zr zr zr zr (htu) ad ?_ bG))
 rintro _ _⟨rfl,rfl⟩
 unfold pJ at hE
 cases hu:cX b with
 | none =>
  rw[hu]at hE
  simp only
  obtain⟨k,zI,yf,_⟩:=Az 0
  refine go ?_
  ((refine az 12 ((.int .u64 (k:Int))) rfl ((congrArg (Value.int .u64) (by rw[← zI];unfold DM;rfl))) ?_))
  refine go ?_
  ((refine ae hE Tryz.func135 rfl _ rfl ⟨rfl,k,yf,rfl,fun m h=>by cases h⟩ ad))
 | some n =>
  rw[hu]at hE
  simp only[Option.bind_some]at hE ⊢
  obtain⟨k,zI,yf,hk3⟩:=Az n
  refine go ?_
  ((refine az 12 ((.int .u64 (k:Int))) rfl ((congrArg (Value.int .u64) (by rw[← zI];unfold DM;rfl))) ?_))
  refine go ?_
  by_cases hn:n≤1048576
  ·rw[if_pos hn]at hE
   ((refine bB 3 ((.bool true)) rfl ((congrArg Value.bool (decide_eq_true ah))) ?_))
   refine go ?_
   ((refine ae hE Tryz.func135 rfl _ rfl ⟨rfl,k,yf,rfl,fun m h=>by injection h with h;rw[← h];exact hk3 hn⟩ ad))
  ·rw[if_neg hn]at hE
   ((refine bB 3 ((.bool false)) rfl ((congrArg Value.bool (decide_eq_false ah))) ?_))
   refine go ?_
   ((refine ae hE Tryz.func135 rfl _ rfl ⟨rfl,k,yf,rfl,fun m h=>by cases h⟩ ad))
theorem uC(X:HP)(v:Value)(b:List UInt8)(hb:eJ X v b)(hl:b.length≤1000000) :
  aD Tryz.prog 136 [v] [X] (fun r H=>H=[X]∧r = .tuple #[dV ((gx b).getD Dg.zero),.bool (gx b).isSome]):=by
 obtain⟨dK,a,c,rfl,hc⟩:=hb
 refine aD.enter Tryz.func136 ak rfl Tryz.ntmps136 zr zr ?_
 intro G F R hE
 refine aE rfl ?_
 refine aw zr zr zr bz ?_
 intro b2
 unfold gx at hE
 refine go ?_
 refine au zr zr ?_ ?_
 ·intro bT
  rw[if_neg ah]at hE
  refine go ?_
  refine jT (U:=aN) zr zr zr zr zr ?_
  refine go ?_
  (refine aS hE ?_;apply aQ (U:=aN) hE Tryz.func136 rfl (ao.refl _);(repeat(first|exact aI.nil|apply aI.tmp rfl|apply aI.agg 0 zr zr zr zr zr));exact⟨rfl,rfl⟩;exact ad)
 ·intro heq
  have Ss:b.length=32:=by omega
  rw[if_pos Ss]at hE
  rw[yF Ss]at dK
  obtain⟨bb,oo,cc,he⟩:=dK.some (by intro h;have:=congrArg List.length h;rw[db]at this;cases this)
  simp only[Value.slice.injEq,true_and]at he
  obtain⟨rfl,rfl⟩:=he
  refine go ?_
  refine Be (U:=aN) zr zr zr zr ah ?_
  refine go ?_
  refine aK ?_
  refine de (U:=aN) (es:=dC (tJ b)) 1 0 zr zr zr dK rfl (fun j v hj=>by rw[Nat.zero_add];exact hj) zr zr zr ?_
  refine go ?_
  (refine aS hE ?_;apply aQ (U:=aN) hE Tryz.func136 rfl (ao.refl _);(repeat(first|exact aI.nil|apply aI.tmp rfl|apply aI.agg 0 zr zr zr zr zr));exact⟨rfl,rfl⟩;exact ad)
theorem Gl{b:List UInt8}(h:pg b=none):iO b=none:=by unfold iO;rw[h]
theorem Dv{b:List UInt8}{xs:List (Int × List UInt8)}(h:pg b=some xs)(hl:xs.length<2):iO b=none:=by
 unfold iO;rw[h]
 match xs,hl with
 | [],_=>rfl
 | [_],_=>rfl
theorem JZ{b:List UInt8}{n1 n2:Int}{b1 b2:List UInt8}{l:List (Int × List UInt8)}{n:Int}(h:pg b=some ((n1,b1)::(n2,b2)::l))(hn:(((n1,b1)::(n2,b2)::l).getLast?.map (·.1))=some n) :
  iO b=if n=((2+l.length:Nat):Int)∧b1.length=1∧b2.length=32 then some (b1.headD 0,tJ b2,l.map (·.2))else none:=by
 unfold iO;rw[h]
 simp only
 rw[hn]
 simp only[Option.some.injEq]
theorem rM.ofP{X:HP}{a:Option Addr}{c:Nat}{ls:List (List UInt8)}{cs:List Value}(hv:Vw (aB 22 1 (.slice a ls.length c) ls.length cs) (.slice a ls.length c) ls.length cs)(hc:ls.length≤c)(hl:cs.length=ls.length)(si:∀(j:Nat) (z:List UInt8),ls[j]?=some z→∃cv,cs[j]?=some cv∧eJ X cv z):rM (Sep [aB 22 1 (.slice a ls.length c) ls.length cs,X]) (.slice a ls.length c) ls :=
  ⟨cs,hv.mono (aW (i:=0) rfl),hl,⟨a,c,rfl,hc⟩,fun i x hx=>by
    obtain⟨cv,h1,h2⟩:=si i x hx
    exact⟨cv,h1,h2.mono (aW (i:=1) rfl)⟩⟩
theorem Ew(l:List It):l.map It.v=l.flatMap fun x=>[x.v]:=by induction l with|nil=>rfl|cons x l ih=>simp[ih]
set_option maxRecDepth 20000 in
theorem J5(X:HP)(v:Value)(b:List UInt8)(hb:eJ X v b)(hl:b.length≤1000000) :
  aD Tryz.prog 134 [v] [X] (fun r H=>(iO b=none∧(∃(k:UInt8) (d:Dg) (a:Option Addr) (n c:Nat),r = .tuple #[u8 k,dV d,.slice a n c,.bool false])∧H=[X]) ∨
   ∃k d more mv Z,iO b=some (k,d,more)∧rM Z mv more∧(∀x∈more,x.length≤65536)∧more.length≤65536∧r = .tuple #[u8 k,dV d,mv,.bool true]∧H=[Z,X]):=by
 have QM:=mY X v b hb ah
 obtain⟨a,c,rfl,hc⟩:=hb.2
 refine aD.enter Tryz.func134 ak rfl Tryz.ntmps134 zr zr ?_
 intro G F R hE
 refine aE rfl ?_
 refine go ?_
 refine aw zr zr zr bz ?_
 intro b3
 refine go ?_
 ((refine ai zr zr zr zr (QM) ad ?_ bG))
 rintro _ _ (⟨hn,rfl,rfl⟩|⟨xs,fA,Z0,rv,hs,po,⟨dK,vB⟩,rfl,rfl,ra,rc,rfl,NV⟩)
 ·have hd:=Gl hn
  refine go ?_
  refine jT (U:=aN) zr zr zr zr zr ?_
  refine go ?_
  (refine aS hE ?_;apply aQ (U:=aN) hE Tryz.func134 rfl (ao.refl _);(repeat(first|exact aI.nil|apply aI.tmp rfl|apply aI.agg 1 zr zr zr zr zr));exact(.inl ⟨hd,⟨0,Dg.zero,none,0,0,rfl⟩,rfl⟩);exact ad)
 have NL:=sN hs
 have PJ:fA.length≤65536:=by
  have h1:xs.length≤65536:=by
   unfold pg at hs
   split at hs
   ·cases hs
   ·split at hs
    ·cases hs
     have:=sM _ b (Nat.le_refl _)
     unfold eQ at this;omega
    ·cases hs
  rw[← po,List.length_map]at h1;exact h1
 by_cases h2:fA.length<2
 ·have hd:=Dv hs (by rw[← po,List.length_map];exact h2)
  refine go ?_
  ((refine az 25 ((.bool true)) rfl ((congrArg Value.bool (decide_eq_true ah))) ?_))
  refine go ?_
  refine jT (U:=aN) zr zr zr zr zr ?_
  refine go ?_
  (refine aS hE ?_;apply aQ (U:=aN) hE Tryz.func134 rfl (ao.refl _);(repeat(first|exact aI.nil|apply aI.tmp rfl|apply aI.agg 2 zr zr zr zr zr));exact(.inl ⟨hd,⟨0,Dg.zero,none,0,0,rfl⟩,rfl⟩);exact ad)
 obtain⟨i1,i2,rest,zJ⟩:∃i1 i2 rest,fA=i1::i2::rest:=by
  match fA,h2 with
  | i1::i2::rest,_=>exact⟨i1,i2,rest,rfl⟩
  | [],h=>exact absurd (by simp) h
  | [_],h=>exact absurd (by simp) h
 have hlen:fA.length=rest.length+2:=by rw[zJ];rfl
 obtain⟨lst,WT⟩:∃x,fA[rest.length+1]?=some x:=⟨fA[rest.length+1]' ah,by simp⟩
 have kO:((fA.map It.p).getLast?.map (·.1))=some lst.n:=by
  rw[List.getLast?_eq_getElem?,List.length_map,List.getElem?_map,show fA.length-1=rest.length+1 from by omega,WT]
  rfl
 obtain⟨rb,ro,rcc,he⟩:=dK.some (by rw[zJ];intro h;simp[lB]at h)
 simp only[Value.slice.injEq,true_and]at he
 obtain⟨rfl,rfl⟩:=he
 have zL:fA[0]?=some i1:=by rw[zJ];rfl
 have Ee:fA[1]?=some i2:=by rw[zJ];rfl
 have nK:=vB i1 (List.mem_of_getElem? zL)
 have qM:=vB i2 (List.mem_of_getElem? Ee)
 have AF:(fA.flatMap lB)[0*2+1]?=some i1.v:=cY iY zL 1 ah
 have Wl:(fA.flatMap lB)[1*2+1]?=some i2.v:=cY iY Ee 1 ah
 have eH:(fA.flatMap lB)[(rest.length+1)*2+0]?=some (.int .i64 lst.n):=cY iY WT 0 ah
 have WS:=NL i2.p (by rw[← po];exact List.mem_map.2 ⟨_,List.mem_of_getElem? Ee,rfl⟩)
 obtain⟨n1,v1,b1⟩:=i1
 obtain⟨n2,v2,b2⟩:=i2
 simp only at nK qM AF Wl
 obtain⟨a1,c1,rfl,FL⟩:=nK.2
 obtain⟨a2,c2,rfl,mC⟩:=qM.2
 simp only[It.p]at WS
 have Yb:=JZ (n1:=n1) (b1:=b1) (n2:=n2) (b2:=b2) (l:=rest.map It.p) (n:=lst.n) (by rw[hs,← po,zJ];rfl) (by rw[zJ]at kO;exact kO)
 rw[List.length_map]at Yb
 refine go ?_
 ((refine az 25 ((.bool false)) rfl ((congrArg Value.bool (decide_eq_false ah))) ?_))
 refine go ?_
 refine cO (rest.length+1) 2 zr zr zr zr zr zr zr ah ah ?_
 refine go ?_
 refine aK ?_
 refine bg 0 ((rest.length+1)*2+0) zr zr zr dK (Nat.add_assoc _ _ _) eH zr zr ?_
 refine go ?_
 by_cases vS:lst.n=((2+rest.length:Nat):Int)
 case neg =>
  have hd:iO b=none:=by rw[Yb,if_neg (fun h=>vS h.1)]
  ((refine az 37 ((.bool true)) rfl ((congrArg Value.bool (decide_eq_true ah))) ?_))
  refine go ?_
  refine jT (U:=aN) zr zr zr zr zr ?_
  refine go ?_
  (refine aS hE ?_;apply aQ (U:=aN) hE Tryz.func134 rfl (ao.refl _);(repeat(first|exact aI.nil|apply aI.tmp rfl|apply aI.agg 2 zr zr zr zr zr));exact(.inl ⟨hd,⟨0,Dg.zero,none,0,0,rfl⟩,rfl⟩);exact ad)
 ((refine az 37 ((.bool false)) rfl ((congrArg Value.bool (decide_eq_false ah))) ?_))
 refine go ?_
 refine cO 0 2 zr zr zr zr zr zr zr zr ah ?_
 refine go ?_
 refine aK ?_
 refine bg 0 (0*2+1) zr zr zr dK (Nat.add_assoc _ _ _) AF zr zr ?_
 refine go ?_
 by_cases h1l:b1.length=1
 case neg =>
  have hd:iO b=none:=by rw[Yb,if_neg (fun h=>h1l h.2.1)]
  ((refine bB 44 ((.bool true)) rfl ((congrArg Value.bool (decide_eq_true ah))) ?_))
  refine go ?_
  refine jT (U:=aN) zr zr zr zr zr ?_
  refine go ?_
  (refine aS hE ?_;apply aQ (U:=aN) hE Tryz.func134 rfl (ao.refl _);(repeat(first|exact aI.nil|apply aI.tmp rfl|apply aI.agg 2 zr zr zr zr zr));exact(.inl ⟨hd,⟨0,Dg.zero,none,0,0,rfl⟩,rfl⟩);exact ad)
 obtain⟨kb,rfl⟩:∃k,b1=[k]:=by
  match b1,h1l with
  | [k],_=>exact⟨k,rfl⟩
 ((refine bB 44 ((.bool false)) rfl ((congrArg Value.bool (decide_eq_false (by simp)))) ?_))
 refine go ?_
 refine cO 1 2 zr zr zr zr zr zr zr zr ah ?_
 refine go ?_
 refine aK ?_
 refine bg 0 (1*2+1) zr zr zr dK (Nat.add_assoc _ _ _) Wl zr zr ?_
 refine go ?_
 ((refine ai zr zr zr zr (uC Z0 _ b2 qM ah) ad ?_ bG))
 rintro _ _⟨rfl,rfl⟩
 unfold dV
 refine go ?_
 refine aw zr zr zr bz ?_
 intro b8
 refine go ?_
 refine bj (p:=2) (q:=(fA.length:Int)) zr zr zr zr zr zr zr ah ah (.inl rfl) ?_
 ((refine az 55 ((.slice (sliceAt (some ⟨rb,ro,none⟩) rc 2 2) rest.length (rc-2))) rfl ((by rw[show(fA.length:Int).toNat=rest.length+2 from by omega,show(2:Int).toNat=2 from rfl,show rest.length+2-2=rest.length by omega];rfl)) ?_))
 have IF:=dK.OI (s:=2) (cH iY _) NV 2 ah
 have Yr:(fA.flatMap lB).drop (2*2)=rest.flatMap lB:=by rw[zJ];rfl
 rw[Yr,show fA.length-2=rest.length from by omega]at IF
 have aaP:∀x∈rest,eJ Z0 x.v x.b:=fun x hx=>vB x (by rw[zJ];simp[hx])
 have hxr:∀x∈rest,x.b.length≤65536:=fun x hx=>NL x.p (by rw[← po,zJ];simp;right;right;exact⟨x,hx,rfl⟩)
 clear Wl eH WT kO zL Ee hs po vB NL zJ
 refine go ?_
 refine aj (bJ 22 1 none _) ?_
 obtain⟨dh,hdh⟩:∃d,d=(gx b2).getD Dg.zero:=⟨_,rfl⟩
 rw[← hdh]
 refine bu (fun y:Nat × Option Addr × Nat=>y.1≤rest.length) (fun y=>rest.length-y.1)
  (fun y=>[(3,ptr b3),(6,.slice (some ⟨rb,ro,none⟩) fA.length rc),(8,ptr b8),(9,.bool (gx b2).isSome),(10,.slice y.2.1 y.1 y.2.2),(55,.slice (sliceAt (some ⟨rb,ro,none⟩) rc 2 2) rest.length (rc-2)),(56,.int .i64 (rest.length:Int)),(57,.int .i64 (y.1:Int))])
  (fun y=>aB 22 1 (.slice y.2.1 y.1 y.2.2) y.1 ((rest.take y.1).flatMap fun x=>[x.v])::Z0::X::ag b3 (cl (dC Dg.zero) 35)::ag b8 (cl (dC dh) 35)::F) (0,none,0) (Nat.zero_le _) rfl cu ad ?_
 rintro⟨j,ma,mc⟩ hj ih
 simp only at hj
 dsimp only
 refine go ?_
 refine au zr zr ?_ ?_
 ·intro cW
  have qL:j<rest.length:=by omega
  obtain⟨it,KJ⟩:∃x,rest[j]?=some x:=⟨rest[j],by simp⟩
  have KS:=aaP it (List.mem_of_getElem? KJ)
  obtain⟨xn,xv,xb⟩:=it
  simp only at KS
  obtain⟨va,vc,rfl,_⟩:=KS.2
  have Ww:sliceAt (some ⟨rb,ro,none⟩) rc 2 2=some ⟨rb,ro+4,none⟩:=by
   unfold sliceAt
   rw[if_neg ah]
   rfl
  rw[Ww]at IF
  refine bB 55 (.slice (some ⟨rb,ro+4,none⟩) rest.length (rc-2)) rfl (by rw[Ww]) ?_
  refine go ?_
  refine cO j 2 zr zr zr zr zr zr zr zr qL ?_
  refine aK ?_
  refine de (U:=aN) (es:=lB ⟨xn,.slice va xb.length vc,xb⟩) 1 (j*2) zr zr zr IF rfl (fun q v hq=>?_) zr zr zr ?_
  ·rw[cY iY KJ q (by rcases Nat.lt_or_ge q 2 with h|h;exact h;rw[List.getElem?_eq_none (by rw[iY];exact h)]at hq;cases hq)];exact hq
  refine aw zr zr zr bz ?_
  intro EP
  refine go ?_
  refine al (cs:=[.slice va xb.length vc]) zr zr zr zr zr zr zr zr zr bz ?_
  intro row
  refine go ?_
  have jY:(rest.take (j+1)).flatMap (fun x=>[x.v])=(rest.take j).flatMap (fun x=>[x.v])++[.slice va xb.length vc]:=by rw[List.take_add_one,KJ];simp
  refine aO (mm:=1) (news:=[.slice va xb.length vc]) 2 0 rfl rfl rfl rfl rfl rfl rfl rfl rfl rfl rfl rfl (Vw.ag rfl) rfl (by intro v hv;simp at hv;rw[hv];rfl) ah (by show(_+_)*24≤_;omega) (fun _=>rfl) bz ?_
  intro v1
  rw[← jY]
  ((refine aJ 2 rfl ?_))
  rintro ja jc rfl
  refine go ?_
  ((refine bB 55 ((.slice (sliceAt (some ⟨rb,ro,none⟩) rc 2 2) rest.length (rc-2))) rfl ((by rw[Ww])) ?_))
  refine aL ih (j+1,ja,jc) rfl (by simp only;omega) (by simp only;omega) cu ad
 ·intro fq
  have Oc:j=rest.length:=by omega
  subst Oc
  rw[List.take_length]
  clear ih
  obtain⟨bb1,oo1,cc1,Sk⟩:=nK.1.some (by simp[bV])
  simp only[Value.slice.injEq,true_and]at Sk
  obtain⟨rfl,rfl⟩:=Sk
  have lS:Vw Z0 (.slice (some ⟨bb1,oo1,none⟩) 1 c1) 1 (bV [kb]):=nK.1
  have BR:(rest.map It.b).length=rest.length:=List.length_map ..
  refine mi 0 rfl ?_
  intro jl
  refine dB 0 rfl ?_
  intro NN
  have mA:rM (Sep [aB 22 1 (.slice ma rest.length mc) rest.length (rest.flatMap fun x=>[x.v]),Z0]) (.slice ma rest.length mc) (rest.map It.b):=by
   rw[← BR]at NN jl ⊢
   refine rM.ofP NN jl (by rw[← Ew];simp) (fun i z hz=>?_)
   rw[List.getElem?_map]at hz
   cases hx:rest[i]? with
   | none=>rw[hx]at hz;cases hz
   | some y =>
    rw[hx]at hz
    injection hz with hz
    subst hz
    exact⟨y.v,by rw[← Ew,List.getElem?_map,hx];rfl,aaP y (List.mem_of_getElem? hx)⟩
  have hmb:(rest.map It.p).map (·.2)=rest.map It.b:=by rw[List.map_map];rfl
  rw[hmb]at Yb
  have hdd:∀d,gx b2=some d→iO b=some (kb,d,rest.map It.b):=fun d hd=>by
   unfold gx at hd
   split at hd
   ·rename_i Ss
    injection hd with hd
    rw[Yb,if_pos ⟨vS,rfl,Ss⟩,hd]
    rfl
   ·cases hd
  have ym:gx b2=none→iO b=none:=fun hd=>by
   unfold gx at hd
   split at hd
   ·cases hd
   ·rename_i Ss
    rw[Yb,if_neg (fun h=>Ss h.2.2)]
  refine go ?_
  refine aF (fun w=>Sat G w ([Z0,ag b8 (cl (dC dh) 35)])) (.st 0 (.st 1 (.st 2 (.st 3 (.st 4 (.st 5 (.st 6 (.st 7 (.st 8 (.st 9 (.act 10 (.st 11 (.st 12 .nil))))))))))))) rfl ak ak ak ei ?_
  refine go ?_
  refine cO 0 2 zr zr zr zr zr zr zr zr ah ?_
  refine go ?_
  refine aK ?_
  refine cJ 0 (0*2+1) zr zr zr dK (Nat.add_assoc _ _ _) AF zr zr ?_
  refine go ?_
  refine bK 0 zr zr zr zr zr zr zr zr (by simp) ?_
  refine go ?_
  refine aK ?_
  refine cJ 0 0 zr zr zr lS zr zr zr zr ?_
  refine go ?_
  refine bL (U:=aN) (l:=dC dh) 1 zr zr zr zr zr zr ?_
  refine go ?_
  refine aT ?_
  refine cD (U:=aN) (l':=dC dh) 3 ei rfl rfl rfl rfl (by intro e;cases e) (by rw[dG];exact jy _) rfl rfl rfl ?_
  refine go ?_
  refine aj (H':=Sep [aB 22 1 (.slice ma rest.length mc) rest.length (rest.flatMap fun x=>[x.v]),Z0]::X::ag b3 (cl (dC dh) 35)::ag b8 (cl (dC dh) 35)::F) (ao.trans ad (ao.bP [aB 22 1 (.slice ma rest.length mc) rest.length (rest.flatMap fun x=>[x.v]),Z0] _)) ?_
  cases Yo:gx b2 with
  | none =>
   simp only[Option.isSome_none]
   (refine aS hE ?_;apply aQ (U:=aN) hE Tryz.func134 rfl (ao.refl _);(repeat(first|exact aI.nil|apply aI.tmp rfl|apply aI.agg 2 zr zr zr zr zr));exact(.inl ⟨ym Yo,⟨kb,dh,_,_,_,rfl⟩,rfl⟩);exact ad)
  | some d =>
   rw[Yo]at hdh
   simp only[Option.getD_some]at hdh
   subst hdh
   simp only[Option.isSome_some]
   (refine aS hE ?_;apply aQ (U:=aN) hE Tryz.func134 rfl (ao.refl _);(repeat(first|exact aI.nil|apply aI.tmp rfl|apply aI.agg 2 rfl rfl rfl rfl rfl));exact(.inr ⟨kb,dh,_,_,_,hdd dh Yo,mA,(fun x hx=>by obtain⟨y,hy,rfl⟩:=List.mem_map.1 hx;exact hxr y hy),ah,rfl,rfl⟩);exact ad)
end Go.Proofs.YtedjnjkijiddlaaGreatDoor
namespace Go.Proofs.YtedjnjkijiddlaaGreatDoor
open Go Go.SL
def HQ(X:HP)(v:Value)(l:List Dg):Prop:=Vw X v l.length (l.flatMap dC)∧∃a c,v = .slice a l.length c∧l.length≤c
theorem HQ.mono{A B:HP}{v:Value}{l:List Dg}(h:HQ A v l)(Xv:∀h,B h→∃h',sub h' h∧A h'):HQ B v l:=⟨h.1.mono Xv,h.2⟩
def xq(n i:Nat):Int:=match fb n i with
 | some s=>(s:Int)
 | none => -1
theorem Md(n:Nat):n ^^^ 1=if n%2=1 then n-1 else n+1:=by
 have h1:=Nat.xor_div_two (a:=n) (b:=1)
 have h2:(n ^^^ 1)%2=(n+1)%2:=by
  rcases Nat.mod_two_eq_zero_or_one n with h|h
  ·have:=(Nat.xor_mod_two_eq_one (a:=n) (b:=1)).2 (by simp[h])
   omega
  ·have:=(Nat.xor_mod_two_eq_one (a:=n) (b:=1))
   have h3:¬(n ^^^ 1)%2=1:=fun e=>by have:=this.1 e;simp[h]at this
   omega
 simp only[show(1:Nat)/2=0 from rfl,Nat.xor_zero]at h1
 split <;> omega
theorem Me(n:Nat)(h:n<1000000000):IntKind.i64.wrap ((BitVec.ofInt IntKind.i64.bits (n:Int) ^^^ BitVec.ofInt IntKind.i64.bits 1).toNat:Int)=((if n%2=1 then n-1 else n+1:Nat):Int):=by
 have e1:(BitVec.ofInt IntKind.i64.bits (1:Int)).toNat=1:=by decide
 rw[BitVec.toNat_xor,wj ah,e1,Md]
 exact cK (by simp only[gg];split <;> omega)
def bE:Nat→Nat→Nat→List (Nat × Nat)
 | 0,_,_=>[]
 | f+1,n,i=>if n≤1 then []else(n,i)::bE f ((n+1)/2) (i/2)
theorem sY:∀(f g n i:Nat),n≤f→n≤g→bE f n i=bE g n i
 | 0,0,_,_,_,_=>rfl
 | 0,g+1,n,i,hf,_=>by
  obtain rfl:n=0:=by omega
  rfl
 | f+1,0,n,i,_,hg=>by
  obtain rfl:n=0:=by omega
  rfl
 | f+1,g+1,n,i,hf,hg=>by
  unfold bE
  split
  ·rfl
  ·rw[sY f g ((n+1)/2) (i/2) ah ah]
theorem BI(f n i:Nat)(hf:n≤f)(hn:1<n):bE f n i=(n,i)::bE f ((n+1)/2) (i/2):=by
 rw[sY f (f+1) n i hf ah]
 conv=>lhs;unfold bE
 rw[if_neg ah]
theorem DB(f n i:Nat)(hn:n≤1):bE f n i=[]:=by
 cases f with
 | zero=>rfl
 | succ f=>unfold bE;rw[if_pos hn]
theorem sd:∀(f n i:Nat),i<n→∀p∈bE f n i,p.2<p.1∧p.1≤n
 | 0,_,_,_,p,h=>by cases h
 | f+1,n,i,hi,p,h=>by
  unfold bE at h
  split at h
  ·cases h
  ·rcases List.mem_cons.1 h with rfl|h
   ·exact⟨hi,Nat.le_refl _⟩
   ·obtain⟨h1,h2⟩:=sd f ((n+1)/2) (i/2) ah p h
    exact⟨h1,ah⟩
def nh(l:List (Nat × Nat)):Nat:=(l.filter fun p=>(fb p.1 p.2).isSome).length
theorem EG(l:List (Nat × Nat))(p:Nat × Nat):nh (l++[p])=nh l+if(fb p.1 p.2).isSome then 1 else 0:=by
 unfold nh
 rw[List.filter_append,List.length_append]
 congr 1
 cases h:(fb p.1 p.2).isSome <;> simp[h]
theorem uQ:∀(f n i:Nat),ng f n i=nh (bE f n i)
 | 0,_,_=>rfl
 | f+1,n,i=>by
  unfold ng bE
  split
  ·rfl
  ·rw[uQ f]
   unfold nh
   rw[List.filter_cons]
   cases h:(fb n i).isSome <;> simp[h] <;> omega
def xk(z:Dg × List Dg)(p:Nat × Nat):Dg × List Dg:=match fb p.1 p.2 with
 | none=>z
 | some s=>(if s<p.2 then g9 (z.2.headD Dg.zero) z.1 else g9 z.1 (z.2.headD Dg.zero),z.2.tail)
def qf(l:List (Nat × Nat))(z:Dg × List Dg):Dg × List Dg:=l.foldl xk z
theorem OM(l:List (Nat × Nat))(p:Nat × Nat)(z:Dg × List Dg):qf (l++[p]) z=xk (qf l z) p:=by unfold qf;rw[List.foldl_append];rfl
theorem uT:∀(f n i:Nat) (x:Dg) (p:List Dg),ni f n i x p=(qf (bE f n i) (x,p)).1
 | 0,_,_,_,_=>rfl
 | f+1,n,i,x,p=>by
  unfold ni bE
  split
  ·rfl
  ·unfold qf
   rw[List.foldl_cons]
   unfold xk
   cases h:fb n i with
   | none=>simp only;exact uT f _ _ _ _
   | some s=>simp only;exact uT f _ _ _ _
theorem EH:∀(l:List (Nat × Nat)) (z:Dg × List Dg),(qf l z).2.length=z.2.length-nh l
 | [],z=>rfl
 | p::l,z=>by
  have:=EH l (xk z p)
  unfold qf at this ⊢
  rw[List.foldl_cons,this]
  unfold xk nh
  rw[List.filter_cons]
  cases h:fb p.1 p.2 with
  | none=>simp
  | some s=>simp only[Option.isSome_some,if_true,List.length_tail,List.length_cons];omega
theorem Jc(l:List (Nat × Nat))(j:Nat):nh (l.take j)≤nh l:=by
 conv=>rhs;rw[← List.take_append_drop j l]
 unfold nh
 rw[List.filter_append,List.length_append]
 omega
attribute [local irreducible] J K aD Ends ag aB aM bN aZ aP aV bh bW Sha.chunks Sha.chunk Sha.rounds Sha.sched dM ct cU g9
def lM(n i:Int):Bool:=decide (1≤n∧n≤1024∧0≤i∧i<n)
theorem xN(n i:Int):aD Tryz.prog 158 [.int .i64 n,.int .i64 i] [] (fun r H=>r = .bool (lM n i)∧H=[]):=by
 have hF:(¬(1≤n∧n≤1024∧0≤i))→Value.bool false = .bool (lM n i):=fun h=>by unfold lM;rw[decide_eq_false ah]
 have hT:(1≤n∧n≤1024∧0≤i)→Value.bool (decide (i<n)) = .bool (lM n i):=fun h=>by unfold lM;exact congrArg Value.bool (decide_eq_decide.2 ah)
 refine aD.enter Tryz.func158 ak rfl Tryz.ntmps158 zr zr ?_
 intro G F R hE
 repeat'(first|(with_reducible intro qh)|refine gO ?_|refine iC zr zr zr zr ?_ ?_|fail)
 all_goals(first|((refine ae hE Tryz.func158 rfl _ rfl ⟨hF ah,rfl⟩ ad))|((refine ae hE Tryz.func158 rfl _ rfl ⟨hT ah,rfl⟩ ad)))
theorem yR(n i:Nat)(hi:i<n)(hn:n≤1000000):aD Tryz.prog 161 [.int .i64 (n:Int),.int .i64 (i:Int)] [] (fun r H=>r = .int .i64 (xq n i)∧H=[]):=by
 refine aD.enter Tryz.func161 ak rfl Tryz.ntmps161 zr zr ?_
 intro G F R hE
 have hx:=Me i ah
 refine go ?_
 refine au zr zr ?_ ?_
 ·intro cW
  rw[hx]at cW
  have hs:xq n i=((if i%2=1 then i-1 else i+1:Nat):Int):=by
   unfold xq fb
   by_cases h:i%2=1
   ·rw[if_pos h,if_pos h]
   ·rw[if_neg h,if_neg h,if_pos (by rw[if_neg h]at cW;omega)]
  refine go ?_
  ((refine ae hE Tryz.func161 rfl _ rfl ⟨congrArg (Value.int .i64) (hx.trans hs.symm),rfl⟩ ad))
 ·intro fq
  rw[hx]at fq
  have hs:xq n i = -1:=by
   unfold xq fb
   by_cases h:i%2=1
   ·rw[if_pos h]at fq;exfalso;omega
   ·rw[if_neg h,if_neg (by rw[if_neg h]at fq;omega)]
  refine go ?_
  ((refine ae hE Tryz.func161 rfl _ rfl ⟨congrArg (Value.int .i64) hs.symm,rfl⟩ ad))
theorem xG(n i:Int):aD Tryz.prog 160 [.int .i64 n,.int .i64 i] [] (fun r H=>∃b1 b2,r = .func (.func 205) #[] #[ptr b1,ptr b2]∧H=[ag b1 (cl [.int .i64 n] 3),ag b2 (cl [.int .i64 i] 3)]):=by
 refine aD.enter Tryz.func160 ak rfl Tryz.ntmps160 zr zr ?_
 intro G F R hE
 refine aE rfl ?_
 refine bC zr zr bz ?_
 intro b1
 refine bC zr zr bz ?_
 intro b2
 refine go ?_
 ((refine ae hE Tryz.func160 rfl _ rfl ⟨b1,b2,rfl,rfl⟩ ad))
set_option maxRecDepth 20000 in
theorem vl(b1 b2 n i:Nat)(hn:n≤1000000)(hi:i≤1000000)(l:Nat)(Lp:HP)(Inv:Nat→HP)(hy:∀j p,(bE n n i)[j]?=some p→bW Tryz.prog l [.int .i64 (p.1:Int),.int .i64 (p.2:Int)] [Lp,Inv j] (fun v H=>v = .bool true∧H=[Lp,Inv (j+1)])) :
  aD Tryz.prog 205 [.func (.yield l) #[] #[],ptr b1,ptr b2] [Lp,Inv 0,ag b1 (cl [.int .i64 (n:Int)] 3),ag b2 (cl [.int .i64 (i:Int)] 3)] (fun _ H=>H=[Lp,Inv (bE n n i).length]):=by
 refine aD.enter Tryz.func205 ak rfl Tryz.ntmps205 zr zr ?_
 intro G F R hE
 refine bu (fun y:Nat × Nat × Nat=>y.1≤n∧y.2.1≤i∧(bE n n i).drop y.2.2=bE n y.1 y.2.1∧y.2.2≤(bE n n i).length) (fun y=>y.1)
  (fun _=>[(0,.func (.yield l) #[] #[]),(1,ptr b1),(2,ptr b2)])
  (fun y=>Lp::Inv y.2.2::ag b1 (cl [.int .i64 (y.1:Int)] 3)::ag b2 (cl [.int .i64 (y.2.1:Int)] 3)::F) (n,i,0) ⟨Nat.le_refl _,Nat.le_refl _,rfl,Nat.zero_le _⟩ rfl cu ad ?_
 rintro⟨m,k,j⟩⟨hm,hk,hd,hj⟩ ih
 simp only at hm hk hd hj
 dsimp only
 refine go ?_
 refine au zr zr ?_ ?_
 ·intro PV
  have zK:1<m:=by omega
  rw[BI n m k hm zK]at hd
  have hx:(bE n n i)[j]?=some (m,k):=by
   have:=congrArg (fun l=>l[0]?) hd
   simpa using this
  have yg:=(List.getElem?_eq_some_iff.1 hx).1
  have Oi:(bE n n i).drop (j+1)=bE n ((m+1)/2) (k/2):=by
   have:=congrArg (fun l=>l.drop 1) hd
   simpa[List.drop_drop]using this
  refine go ?_
  refine kE zr zr zr (hy j (m,k) hx) ad ?_ bG
  rintro _ _⟨rfl,rfl⟩
  refine go ?_
  ((refine aj (H':=ag b1 (cl [.int .i64 (m:Int)] 3)::ag b2 (cl [.int .i64 (k:Int)] 3)::Lp::Inv (j+1)::F) ad ?_))
  refine aF (fun w=>Sat G w ([])) (.fork (.act 0 (.st 1 (.st 2 (.fork (.act 3 (.st 4 (.act 5 (.act 6 .nil)))) (.act 5 (.act 3 (.st 4 (.act 6 .nil)))))))) (.act 3 (.st 4 (.act 0 (.st 1 (.st 2 (.act 5 (.act 6 .nil)))))))) rfl ak ak ak ei ?_
  repeat'(first|refine gO ?_|refine qt ?_ ?_|(refine lu ?_;refine iW zr zr zr ah ?_;first|(refine az 8 (.int .i64 (((m+1)/2:Nat):Int)) rfl (congrArg (Value.int .i64) (by show((m:Int)+1)/2 ^ 1=_;omega)) ?_)|(refine az 10 (.int .i64 ((k/2:Nat):Int)) rfl (congrArg (Value.int .i64) (by show(k:Int)/2 ^ 1=_;omega)) ?_))|(refine aT ?_;(refine bZ 0 ei zr zr zr zr zr zr zr zr zr ?_)))
  all_goals(
   refine aL ih ((m+1)/2,k/2,j+1) rfl ⟨by simp only;omega,by simp only;omega,Oi,by simp only;omega⟩ (by simp only;omega) cu ad)
 ·intro fq
  have hz:bE n m k=[]:=DB n m k ah
  rw[hz]at hd
  have Oc:j=(bE n n i).length:=by
   have:=congrArg List.length hd
   rw[List.length_drop,List.length_nil]at this
   omega
  subst Oc
  refine go ?_
  ((refine bS hE Tryz.func205 rfl _ zr zr ad))
set_option maxRecDepth 20000 in
theorem Bg(n i:Int):aD Tryz.prog 159 [.int .i64 n,.int .i64 i] [] (fun r H=>r = .int .i64 (eB n i:Int)∧H=[]):=by
 refine aD.enter Tryz.func159 ak rfl Tryz.ntmps159 zr zr ?_
 intro G F R hE
 refine go ?_
 refine aw zr zr zr bz ?_
 intro b5
 refine go ?_
 ((refine ai zr zr zr zr (xN n i) ad ?_ bG))
 rintro _ _⟨rfl,rfl⟩
 cases hr:lM n i with
 | false =>
  have hd:eB n i=0:=by
   unfold eB
   rw[if_neg (by unfold lM at hr;simpa using hr)]
  rw[hd]at hE
  refine go ?_
  ((refine ae hE Tryz.func159 rfl _ rfl ⟨rfl,rfl⟩ ad))
 | true =>
  have GU:1≤n∧n≤1024∧0≤i∧i<n:=by unfold lM at hr;simpa using hr
  obtain⟨m,rfl⟩:∃m:Nat,n=m:=⟨n.toNat,ah⟩
  obtain⟨k,rfl⟩:∃m:Nat,i=m:=⟨i.toNat,ah⟩
  have hd:eB (m:Int) (k:Int)=nh (bE m m k):=by
   unfold eB
   rw[if_pos GU]
   simp only[Int.toNat_natCast]
   exact uQ m m k
  have pV:=sd m m k ah
  have FK:=qR (m:Int) (k:Int)
  rw[hd]at hE FK
  refine go ?_
  ((refine ai zr zr zr zr (xG (m:Int) (k:Int)) ad ?_ bG))
  rintro _ _⟨b1,b2,rfl,rfl⟩
  refine go ?_
  refine iR rfl ?_
  have sj:nh ((bE m m k).take 0)=0:=rfl
  refine aj (H':=ag b5 (cl [.int .i64 (nh ((bE m m k).take 0):Int)] 3)::ag b1 (cl [.int .i64 (m:Int)] 3)::ag b2 (cl [.int .i64 (k:Int)] 3)::F) (by rw[sj];exact ad) ?_
  refine qm (Fr:=F) (Pre:=fun _ _=>[ag b5 (cl [.int .i64 (nh ((bE m m k).take 0):Int)] 3),ag b1 (cl [.int .i64 (m:Int)] 3),ag b2 (cl [.int .i64 (k:Int)] 3)]) (fun _ _ Lp v H=>H=[Lp .ready none,ag b5 (cl [.int .i64 (nh ((bE m m k).take (bE m m k).length):Int)] 3)]) rfl hE.1.1 rfl ?c (fun l r=>ad) ?hG
  case c =>
   intro l r
   refine vl b1 b2 m k ah ah l _ (fun j=>ag b5 (cl [.int .i64 (nh ((bE m m k).take j):Int)] 3)) ?_
   rintro j⟨p,q⟩ hp
   obtain⟨h1,h2⟩:=pV _ (List.mem_of_getElem? hp)
   have jY:(bE m m k).take (j+1)=(bE m m k).take j++[(p,q)]:=by rw[List.take_add_one,hp];rfl
   have PW:nh ((bE m m k).take (j+1))=nh ((bE m m k).take j)+if(fb p q).isSome then 1 else 0:=by rw[jY,EG]
   have ln:=Jc (bE m m k) j
   simp only at h1 h2
   refine bW.DG zr zr ?_
   intro G2 F2 R2 hY
   refine go ?_
   refine fV rfl hY ?_
   refine go ?_
   ((refine ai zr zr zr zr (yR p q h1 ah) ad ?_ bG))
   rintro _ _⟨rfl,rfl⟩
   unfold xq
   cases hs:fb p q with
   | none =>
    rw[hs]at PW
    simp only[Option.isSome_none,Bool.false_eq_true,if_false,Nat.add_zero]at PW
    rw[PW]at hY
    simp only
    refine go ?_
    refine fu hY rfl ad ⟨rfl,rfl⟩
   | some s =>
    rw[hs]at PW
    simp only[Option.isSome_some,if_true]at PW
    rw[PW]at hY
    simp only
    refine go ?_
    refine fu hY rfl ad ⟨rfl,rfl⟩
  rintro l r v H' rfl
  refine⟨_,_,_,rfl,by decide,?_⟩
  rw[hE.1.2,List.take_length]
  refine go ?_
  (apply aQ (U:=aN) hE Tryz.func159 rfl ad;(repeat(first|exact aI.nil|apply aI.tmp rfl));exact⟨rfl,rfl⟩;exact ad)
end Go.Proofs.YtedjnjkijiddlaaGreatDoor
namespace Go.Proofs.YtedjnjkijiddlaaGreatDoor
open Go Go.SL
def X6(b8 b9:Nat)(X:HP)(z:Dg × List Dg):HP:=fun h=>∃v:Value,HQ X v z.2∧Sep [ag b8 (cl (dC z.1) 35),ag b9 (cl [v] 42),X] h
theorem Fx(b8 b9:Nat)(X:HP)(z:Dg × List Dg):∀h,X6 b8 b9 X z h→∃v:Value,HQ X v z.2∧Sep [ag b8 (cl (dC z.1) 35),ag b9 (cl [v] 42),X] h:=fun h hs=>hs
theorem CD{b8 b9:Nat}{X:HP}{z:Dg × List Dg}{v:Value}(hv:HQ X v z.2)(H:List HP):ao (ag b8 (cl (dC z.1) 35)::ag b9 (cl [v] 42)::X::H) (X6 b8 b9 X z::H) :=
 ao.fold (A:=X6 b8 b9 X z) (B:=[ag b8 (cl (dC z.1) 35),ag b9 (cl [v] 42),X]) fun h hs=>⟨h,sub.refl h,v,hv,hs⟩
theorem HQ.tail{X:HP}{a:Option Addr}{c:Nat}{x:Dg}{l:List Dg}(h:HQ X (.slice a (x::l).length c) (x::l)):HQ X (.slice (sliceAt a c 1 32) l.length (c-1)) l:=by
 obtain⟨hv,a',c',he,hc⟩:=h
 simp only[Value.slice.injEq,true_and]at he
 obtain⟨rfl,rfl⟩:=he
 have:=hv.OI (s:=32) (cH db _) hc 1 (by simp)
 rw[List.length_cons,Nat.add_sub_cancel,List.flatMap_cons,show 1*32=(dC x).length from by rw[db],List.drop_left]at this
 exact⟨this,_,_,rfl,by simp only[List.length_cons]at hc;omega⟩
attribute [local irreducible] J K aD Ends ag aB aM bN aZ aP aV bh bW Sha.chunks Sha.chunk Sha.rounds Sha.sched dM ct cU g9 X6
set_option maxRecDepth 20000 in
theorem LZ(X:HP)(hK:oe X)(root leaf:Dg)(n i:Int)(pv:Value)(proof:List Dg)(hp:HQ X pv proof) :
  aD Tryz.prog 98 [dV root,.int .i64 n,.int .i64 i,dV leaf,pv] [X] (fun r H=>r = .bool (jo root n i leaf proof)∧H=[X]):=by
 have IM:=hp
 obtain⟨hv,a,c,rfl,hc⟩:=hp
 unfold dV
 refine aD.enter Tryz.func98 ak rfl Tryz.ntmps98 zr zr ?_
 intro G F R hE
 refine aE rfl ?_
 refine bC zr zr bz ?_
 intro b5
 refine bC zr zr bz ?_
 intro b8
 refine bC zr zr bz ?_
 intro b9
 refine go ?_
 refine aF (fun w=>Sat G w ([ag b9 (cl [.slice a proof.length c] 42)])) (.st 0 (.st 1 (.act 2 (.st 3 (.st 4 (.st 5 (.st 6 (.st 7 (.st 8 (.act 9 (.st 10 (.st 11 .nil)))))))))))) rfl ak ak ak ei ?_
 refine go ?_
 ((refine ai rfl rfl rfl rfl (xN n i) ad ?_ jg))
 rintro _ _⟨rfl,rfl⟩
 cases hr:lM n i with
 | false =>
  have hcf:jo root n i leaf proof=false:=by
   unfold jo
   exact decide_eq_false fun h=>by unfold lM at hr;rw[decide_eq_true h.1]at hr;cases hr
  rw[hcf]at hE
  refine go ?_
  (refine aS hE ?_;apply aQ (U:=aN) hE Tryz.func98 rfl (ao.refl _);(repeat(first|exact aI.nil|apply aI.tmp rfl));exact⟨rfl,rfl⟩;exact ad)
 | true =>
  have GU:1≤n∧n≤1024∧0≤i∧i<n:=by unfold lM at hr;simpa using hr
  refine go ?_
  ((refine ai rfl rfl rfl rfl (Bg n i) ad ?_ jg))
  rintro _ _⟨rfl,rfl⟩
  refine go ?_
  refine fD zr zr ?_ ?_
  ·intro bT
   have fE:proof.length≠eB n i:=by
    intro e
    rw[e]at bT
    simp at bT
   have hcf:jo root n i leaf proof=false:=by
    unfold jo
    exact decide_eq_false fun h=>fE h.2.1
   rw[hcf]at hE
   refine go ?_
   (refine aS hE ?_;apply aQ (U:=aN) hE Tryz.func98 rfl (ao.refl _);(repeat(first|exact aI.nil|apply aI.tmp rfl));exact⟨rfl,rfl⟩;exact ad)
  intro heq
  have oM:proof.length=eB n i:=by
   by_cases h:(proof.length:Int)=(eB n i:Int)
   ·omega
   ·simp[h]at heq
  obtain⟨m,rfl⟩:∃m:Nat,n=m:=⟨n.toNat,ah⟩
  obtain⟨k,rfl⟩:∃m:Nat,i=m:=⟨i.toNat,ah⟩
  have hd:eB (m:Int) (k:Int)=nh (bE m m k):=by
   unfold eB
   rw[if_pos GU]
   simp only[Int.toNat_natCast]
   exact uQ m m k
  have pV:=sd m m k ah
  have Yt:jo root (m:Int) (k:Int) leaf proof=decide ((qf (bE m m k) (leaf,proof)).1=root):=by
   unfold jo
   rw[decide_eq_decide]
   simp only[Int.toNat_natCast,uT]
   exact⟨fun h=>h.2.2,fun h=>⟨GU,oM,h⟩⟩
  rw[Yt]at hE
  refine go ?_
  ((refine ai zr zr zr zr (xG (m:Int) (k:Int)) ad ?_ bG))
  rintro _ _⟨b1,b2,rfl,rfl⟩
  refine go ?_
  refine iR rfl ?_
  refine aj (H':=ag b8 (cl (dC leaf) 35)::ag b9 (cl [.slice a proof.length c] 42)::X::ag b1 (cl [.int .i64 (m:Int)] 3)::ag b2 (cl [.int .i64 (k:Int)] 3)::ag b5 (cl (dC root) 35)::F) ad ?_
  refine aj (CD (z:=qf ((bE m m k).take 0) (leaf,proof)) IM _) ?_
  refine qm (Fr:=ag b5 (cl (dC root) 35)::F) (Pre:=fun _ _=>[X6 b8 b9 X (qf ((bE m m k).take 0) (leaf,proof)),ag b1 (cl [.int .i64 (m:Int)] 3),ag b2 (cl [.int .i64 (k:Int)] 3)]) (fun _ _ Lp v H=>H=[Lp .ready none,X6 b8 b9 X (qf ((bE m m k).take (bE m m k).length) (leaf,proof))]) rfl hE.1.1 rfl ?c (fun l r=>ad) ?hG
  case c =>
   intro l r
   refine vl b1 b2 m k ah ah l _ (fun j=>X6 b8 b9 X (qf ((bE m m k).take j) (leaf,proof))) ?_
   rintro j⟨p,q⟩ D7
   obtain⟨h1,h2⟩:=pV _ (List.mem_of_getElem? D7)
   have jY:(bE m m k).take (j+1)=(bE m m k).take j++[(p,q)]:=by rw[List.take_add_one,D7];rfl
   have KQ:qf ((bE m m k).take (j+1)) (leaf,proof)=xk (qf ((bE m m k).take j) (leaf,proof)) (p,q):=by rw[jY,OM]
   have NK:=EH ((bE m m k).take j) (leaf,proof)
   have PW:nh ((bE m m k).take (j+1))=nh ((bE m m k).take j)+if(fb p q).isSome then 1 else 0:=by rw[jY,EG]
   have ln:=Jc (bE m m k) (j+1)
   simp only at h1 h2 NK
   rw[KQ]
   obtain⟨z,hz⟩:∃z,z=qf ((bE m m k).take j) (leaf,proof):=⟨_,rfl⟩
   rw[← hz]at NK ⊢
   clear KQ hz
   refine bW.DG zr zr ?_
   intro G F2 R2 hY
   unfold xk at hY
   obtain⟨x,prf⟩:=z
   refine go ?_
   refine fV rfl hY ?_
   refine aj (ao.pick [1] rfl) ?_
   refine eE (Fx b8 b9 X (x,prf)) ?_
   rintro v hdv
   simp only at hdv
   refine go ?_
   ((refine ai zr zr zr zr (yR p q h1 ah) ad ?_ bG))
   rintro _ _⟨rfl,rfl⟩
   unfold xq
   cases hs:fb p q with
   | none =>
    rw[hs]at PW hY
    simp only at hY ⊢
    refine go ?_
    refine aj (CD (z:=(x,prf)) hdv _) ?_
    refine fu hY rfl ad ⟨rfl,rfl⟩
   | some s =>
    rw[hs]at PW hY
    simp only[Option.isSome_some,if_true]at PW
    simp only at hY ⊢
    simp only at NK
    obtain⟨p0,rest,rfl⟩:∃p0 rest,prf=p0::rest:=by
     cases prf with
     | nil=>rw[List.length_nil]at NK;exfalso;omega
     | cons p0 rest=>exact⟨p0,rest,rfl⟩
    simp only[List.headD_cons,List.tail_cons]at hY
    obtain⟨dK,a1,c1,rfl,FL⟩:=hdv
    obtain⟨bb,oo,cc,he⟩:=dK.some (by rw[List.flatMap_cons];intro h;simp[dC]at h)
    simp only[Value.slice.injEq,true_and]at he
    obtain⟨rfl,rfl⟩:=he
    have tr:=HQ.tail ⟨dK,_,_,rfl,FL⟩
    have fq:∀(q':Nat) (v:Value),(dC p0)[q']?=some v→((p0::rest).flatMap dC)[0+q']?=some v:=fun q' v hq=>by
     rw[Nat.zero_add,List.flatMap_cons,List.getElem?_append_left (List.getElem?_eq_some_iff.1 hq).1];exact hq
    have qZ:s≠q:=(wh h1 hs).2.2
    refine go ?_
    refine au zr zr ?_ ?_
    ·intro cW
     have vR:s<q:=by omega
     rw[if_pos vR]at hY
     refine go ?_
     refine aF (fun w=>Sat G w ([ag b8 (cl (dC x) 35),ag b9 (cl [.slice (some ⟨bb,oo,none⟩) (p0::rest).length c1] 42),X])) (.st 0 (.st 1 (.st 2 (.st 3 (.act 4 (.act 5 .nil)))))) rfl ak ak ak ei ?_
     (repeat(first|refine gO ?_|refine cO 0 32 zr zr zr zr zr zr zr zr (by simp) ?_|refine bL (U:=aN) (l:=dC x) 0 zr zr zr zr zr zr ?_|(refine aK ?_;refine gI (U:=aN) (es:=dC p0) 2 0 zr zr zr dK rfl fq zr zr zr ?_)))
     ((refine ai rfl rfl rfl rfl (y9 X hK p0 x) ad ?_ jg))
     rintro _ _⟨rfl,rfl⟩
     refine aT ?_
     refine cD (U:=aN) (l':=dC (g9 p0 x)) 1 gE rfl rfl rfl rfl (by intro e;cases e) (by rw[dG];exact jy _) rfl rfl rfl ?_
     refine go ?_
     refine bj (p:=1) (q:=((p0::rest).length:Int)) zr zr zr zr zr zr zr ah (by simp only[List.length_cons];omega) (.inl rfl) ?_
     ((refine az 52 ((.slice (sliceAt (some ⟨bb,oo,none⟩) c1 1 32) rest.length (c1-1))) rfl ((by rw[show((p0::rest).length:Int).toNat=rest.length+1 from by simp[List.length_cons],show(1:Int).toNat=1 from rfl,show rest.length+1-1=rest.length by omega];rfl)) ?_))
     refine go ?_
     refine aj (ao.trans ad (CD (z:=(g9 p0 x,rest)) tr _)) ?_
     refine fu hY rfl ad ⟨rfl,rfl⟩
    ·intro cW
     have vR:¬s<q:=by omega
     rw[if_neg vR]at hY
     refine go ?_
     refine aF (fun w=>Sat G w ([ag b8 (cl (dC x) 35),ag b9 (cl [.slice (some ⟨bb,oo,none⟩) (p0::rest).length c1] 42),X])) (.st 0 (.st 1 (.st 2 (.st 3 (.act 4 (.act 5 .nil)))))) rfl ak ak ak ei ?_
     (repeat(first|refine gO ?_|refine cO 0 32 zr zr zr zr zr zr zr zr (by simp) ?_|refine bL (U:=aN) (l:=dC x) 0 zr zr zr zr zr zr ?_|(refine aK ?_;refine gI (U:=aN) (es:=dC p0) 2 0 zr zr zr dK rfl fq zr zr zr ?_)))
     ((refine ai rfl rfl rfl rfl (y9 X hK x p0) ad ?_ jg))
     rintro _ _⟨rfl,rfl⟩
     refine aT ?_
     refine cD (U:=aN) (l':=dC (g9 x p0)) 1 gE rfl rfl rfl rfl (by intro e;cases e) (by rw[dG];exact jy _) rfl rfl rfl ?_
     refine go ?_
     refine bj (p:=1) (q:=((p0::rest).length:Int)) zr zr zr zr zr zr zr ah (by simp only[List.length_cons];omega) (.inl rfl) ?_
     ((refine az 52 ((.slice (sliceAt (some ⟨bb,oo,none⟩) c1 1 32) rest.length (c1-1))) rfl ((by rw[show((p0::rest).length:Int).toNat=rest.length+1 from by simp[List.length_cons],show(1:Int).toNat=1 from rfl,show rest.length+1-1=rest.length by omega];rfl)) ?_))
     refine go ?_
     refine aj (ao.trans ad (CD (z:=(g9 x p0,rest)) tr _)) ?_
     refine fu hY rfl ad ⟨rfl,rfl⟩
  rintro l r v H' rfl
  refine⟨_,_,_,rfl,by decide,?_⟩
  rw[hE.1.2,List.take_length]
  refine eE (Fx b8 b9 X _) ?_
  rintro v -
  refine go ?_
  refine aH (U:=aN) (l:=dC (qf (bE m m k) (leaf,proof)).1) 0 zr zr zr zr zr zr ?_
  refine go ?_
  refine aH (U:=aN) (l:=dC root) 4 zr zr zr zr zr zr ?_
  refine go ?_
  refine lx (b:=decide ((qf (bE m m k) (leaf,proof)).1=root)) zr zr zr KY (fun w=>La _ root w) ?_
  refine go ?_
  (apply aQ (U:=aN) hE Tryz.func98 rfl ad;(repeat(first|exact aI.nil|apply aI.tmp rfl));exact⟨rfl,rfl⟩;exact ad)
set_option maxRecDepth 20000 in
theorem xR(X:HP)(hK:oe X)(x:Bl)(i:Int)(bv:Value)(b:List UInt8)(hb:eJ X bv b)(iD:b.length≤900000000)(pv:Value)(proof:List Dg)(hp:HQ X pv proof) :
  aD Tryz.prog 44 [eg x,.int .i64 i,bv,pv] [X] (fun r H=>r = .bool (cM x i b proof)∧H=[X]):=by
 have o7:=yX x i
 have Ol:=u6 x
 have Yt:=LZ X hK x.root (cU b) (bO x) i pv proof hp
 have hlf:=E6 X hK bv b hb iD
 obtain⟨ba,bc,rfl,Oq⟩:=hb.2
 obtain⟨pa,pc,rfl,tt⟩:=hp.2
 unfold eg at o7 Ol ⊢
 unfold dV at Yt hlf
 refine aD.enter Tryz.func44 ak rfl Tryz.ntmps44 zr zr ?_
 intro G F R hE
 refine aE rfl ?_
 refine bC zr zr bz ?_
 intro b4
 refine go ?_
 refine aH (U:=aN) (l:=bD x) 0 zr zr zr zr zr zr ?_
 refine go ?_
 ((refine ai zr zr zr zr (o7) ad ?_ bG))
 rintro _ _⟨rfl,rfl⟩
 unfold cM at hE
 cases fW:cP x i with
 | none =>
  rw[fW]at hE
  simp only at hE ⊢
  refine go ?_
  refine aF (fun w=>Sat G w ([ag b4 (cl (bD x) 37)])) (.st 0 (.st 1 (.st 2 (.st 3 (.st 4 (.st 5 (.st 6 (.st 7 (.st 8 (.st 9 (.st 10 (.st 11 (.st 13 (.st 14 (.st 16 (.act 12 (.act 15 (.act 17 (.st 18 (.st 19 .nil)))))))))))))))))))) rfl ak ak ak ei ?_
  refine go ?_
  ((refine ae hE Tryz.func44 rfl _ rfl ⟨rfl,rfl⟩ ad))
 | some w =>
  obtain⟨at_,n⟩:=w
  rw[fW]at hE
  simp only at hE ⊢
  refine go ?_
  refine aF (fun w=>Sat G w ([ag b4 (cl (bD x) 37)])) (.st 0 (.st 1 (.st 2 (.st 3 (.st 4 (.st 5 (.st 6 (.st 7 (.st 8 (.st 9 (.st 10 (.st 11 (.st 13 (.st 14 (.st 16 (.act 12 (.act 15 (.act 17 (.st 18 (.st 19 .nil)))))))))))))))))))) rfl ak ak ak ei ?_
  refine go ?_
  by_cases hl:(b.length:Int)=n
  case neg =>
   rw[decide_eq_false hl,Bool.false_and]at hE
   ((refine az 27 ((.bool false)) rfl ((congrArg Value.bool (decide_eq_false hl))) ?_))
   refine go ?_
   ((refine ae hE Tryz.func44 rfl _ rfl ⟨rfl,rfl⟩ ad))
  rw[decide_eq_true hl,Bool.true_and]at hE
  ((refine az 27 ((.bool true)) rfl ((congrArg Value.bool (decide_eq_true hl))) ?_))
  refine go ?_
  refine ck (U:=aN) (cs:=dC x.root) 0 zr zr zr zr zr zr ?_
  refine go ?_
  refine bL (U:=aN) (l:=bD x) 0 zr zr zr zr zr zr ?_
  refine go ?_
  ((refine ai rfl rfl rfl rfl (Ol) ad ?_ jg))
  rintro _ _⟨rfl,rfl⟩
  refine go ?_
  ((refine ai rfl rfl rfl rfl (hlf) ad ?_ jg))
  rintro _ _⟨rfl,rfl⟩
  refine go ?_
  ((refine ai rfl rfl rfl rfl (Yt) ad ?_ jg))
  rintro _ _⟨rfl,rfl⟩
  refine go ?_
  ((refine ae hE Tryz.func44 rfl _ rfl ⟨rfl,rfl⟩ ad))
end Go.Proofs.YtedjnjkijiddlaaGreatDoor
namespace Go.Proofs.YtedjnjkijiddlaaGreatDoor
open Go Go.SL
structure TC where
 x:Bl
 n:Nat
 ws:List jS
 pf:Int→Option (List Dg)
def Tk.c(y:Tk):TC:=⟨y.x,y.n,y.ws,y.pf⟩
def gh(ts:List Tk):List TC:=ts.map Tk.c
namespace TC
def put(c:TC)(i:Nat)(l:List Dg):TC:=⟨c.x,c.n,jI c.ws i true,fun j=>if j=(i:Int)then some l else c.pf j⟩
def drop(c:TC)(i:Nat):TC:=⟨c.x,c.n,jI c.ws i false,fun j=>if j=(i:Int)then none else c.pf j⟩
end TC
def cQ(x:Bl):TC:=⟨x,(bO x).toNat,List.replicate (((bO x).toNat+63)/64) 0#64,fun _=>none⟩
def mP:List (List UInt8)→Option (List Dg)
 | []=>some []
 | b::l=>match gx b,mP l with
  | some d,some ds=>some (d::ds)
  | _,_=>none
def lP(cs:List TC)(d:Dg)(m:List UInt8)(l:List (List UInt8)):List TC:=match pJ m,mP l with
 | some i,some p=>cs.map fun y=>if y.x.d=d∧i<y.n∧p.length=eB y.n i then y.put i p else y
 | _,_=>cs
def Dl(cs:List TC)(d:Dg):List TC:=cs.filter fun y => !decide (y.x.d=d)
def dm(cs:List TC)(b:List UInt8):List TC:=match iO b with
 | none=>cs
 | some (k,d,more) =>
  if k=3∧more=[]then Dl cs d
  else match more with
   | [s,p,r]=>if k=1 then(match pJ s,pJ p,gx r with
     | some s,some p,some r=>if bo ⟨d,s,p,r⟩then Dl cs d++[cQ ⟨d,s,p,r⟩]else cs
     | _,_,_=>cs)
    else if k=2 then lP cs d s [p,r]else cs
   | m::l=>if k=2 then lP cs d m l else cs
   | []=>cs
def bF(d:Dg)(i:Nat)(p:List Dg):List UInt8:=jA 2 d (uv i::p.map Dg.bs)
def kM(s:eU)(z:TC × List (List UInt8))(i:Nat):TC × List (List UInt8) :=
 if cE z.1.ws z.1.n (i:Int)then(if(dZ s z.1.x i).2≠0∨cM z.1.x i (dZ s z.1.x i).1 ((z.1.pf i).getD [])=false then(z.1.drop i,z.2)else(z.1,z.2++[bF z.1.x.d i ((z.1.pf i).getD [])]))else z
def iu(s:eU)(c:TC)(k:Nat):TC × List (List UInt8):=(List.range k).foldl (kM s) (c,[bR c.x])
def j0(s:eU)(c:TC):TC × List (List UInt8):=iu s c c.n
def rL(q:Int):List TC→eU→List TC→List (List UInt8)→Nat→eU→List TC→List (List UInt8)→Prop
 | [],s,cs,rs,e,t,j6,Am=>e=0∧t=s∧j6=cs∧Am=rs
 | c::l,s,cs,rs,e,t,j6,Am=>∃e1 s1,dJ q c.x s e1 s1 ∧
  if e1=5∨e1=11 then rL q l s1 cs rs e t j6 Am
  else if e1≠0 then e=e1∧t=s1
  else rL q l s1 (cs++[(j0 s1 c).1]) (rs++(j0 s1 c).2) e t j6 Am
def Cp(q:Int)(s:eU)(e:Nat)(t:eU)(jn:JN)(cs:List TC):Prop :=
 ∃e1 A1 j1,nY s.A cS e1 A1 j1∧if e1≠0 then e=e1∧t=⟨A1,s.aY,s.brk⟩else
  ∃e2 s2 rs,rL q ((fH s.A cS).foldl dm []) ⟨A1,s.aY,s.brk⟩ [] [] e2 s2 cs rs∧if e2≠0 then e=e2∧t=s2 else
   ∃A3,n7 cS s2.A j1 rs e A3 jn∧t=⟨A3,s2.aY,s2.brk⟩
theorem lU(s:eU)(c:TC)(k:Nat):iu s c (k+1)=kM s (iu s c k) k:=by
 unfold iu
 rw[List.range_succ,List.foldl_append]
 rfl
theorem QS(s:eU)(z:TC × List (List UInt8))(i:Nat):(kM s z i).1.x=z.1.x∧(kM s z i).1.n=z.1.n∧(kM s z i).1.ws.length=z.1.ws.length:=by
 unfold kM
 split
 ·split
  ·exact⟨rfl,rfl,iq _ _ _⟩
  ·exact⟨rfl,rfl,rfl⟩
 ·exact⟨rfl,rfl,rfl⟩
theorem IN(s:eU)(c:TC):∀k,(iu s c k).1.x=c.x∧(iu s c k).1.n=c.n∧(iu s c k).1.ws.length=c.ws.length
 | 0=>⟨rfl,rfl,rfl⟩
 | k+1=>by
  rw[lU]
  obtain⟨h1,h2,h3⟩:=QS s (iu s c k) k
  obtain⟨g1,g2,g3⟩:=IN s c k
  exact⟨h1.trans g1,h2.trans g2,h3.trans g3⟩
theorem mU(ts:List Tk):(gh ts).length=ts.length:=by simp[gh]
end Go.Proofs.YtedjnjkijiddlaaGreatDoor
