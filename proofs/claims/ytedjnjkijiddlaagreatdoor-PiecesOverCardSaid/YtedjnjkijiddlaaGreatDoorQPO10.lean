import Derived.Test.YtedjnjkijiddlaaGreatDoorQPO3
import Derived.Test.YtedjnjkijiddlaaGreatDoorQPO4
import Derived.Test.YtedjnjkijiddlaaGreatDoorQPO5
import Derived.Test.YtedjnjkijiddlaaGreatDoorQPO6
import Derived.Test.YtedjnjkijiddlaaGreatDoorQPO9
set_option linter.unusedSimpArgs false
set_option linter.unusedVariables false
namespace Go.Proofs.YtedjnjkijiddlaaGreatDoor
open Go Go.SL
def Cf(k:Nat):jS:=(1#64) <<< k
def cE(ws:List jS)(n:Nat)(i:Int):Bool:=decide (0≤i∧i<n) && decide (((ws.getD (i.toNat/64) 0#64) >>> (i.toNat%64)) &&& 1#64=1#64)
def jI(ws:List jS)(i:Nat)(one:Bool):List jS:=ws.set (i/64) (if one then ws.getD (i/64) 0#64 ||| Cf (i%64)else ws.getD (i/64) 0#64 &&& ~~~(Cf (i%64)))
theorem iq(ws:List jS)(i:Nat)(one:Bool):(jI ws i one).length=ws.length:=by simp[jI]
theorem Ry(w:jS)(k:Nat):(w >>> k &&& 1#64=1#64)↔w.getLsbD k=true:=by
 constructor
 ·intro h
  have:=congrArg (fun x:jS=>x.getLsbD 0) h
  simpa using this
 ·intro h
  apply BitVec.eq_of_getLsbD_eq
  intro i hi
  by_cases h0:i=0
  ·subst h0;simpa using h
  ·have:(1#64).getLsbD i=false:=by
    rw[BitVec.getLsbD_one];simp[h0]
   simp[this]
theorem Ce(k i:Nat)(hk:k<64)(hi:i<64):(Cf k).getLsbD i=decide (i=k):=by
 unfold Cf
 rw[BitVec.getLsbD_shiftLeft,BitVec.getLsbD_one]
 by_cases h:i=k
 ·subst h;simp[hi]
 ·by_cases h2:i<k
  ·simp[h2,h]
  ·have:¬i-k=0:=by omega
   simp[hi,h2,h,this]
theorem yr{ws:List jS}{n:Nat}{i:Nat}(hi:i<n):cE ws n (i:Int)=(ws.getD (i/64) 0#64).getLsbD (i%64):=by
 unfold cE
 rw[decide_eq_true (show 0≤(i:Int)∧(i:Int)<n by omega),Bool.true_and,Int.toNat_natCast,Bool.eq_iff_iff,decide_eq_true_iff]
 exact Ry _ _
theorem Ou{ws:List jS}{n i j:Nat}{one:Bool}(hw:n≤ws.length*64)(hi:i<n)(hj:j<n):cE (jI ws i one) n (j:Int)=if j=i then one else cE ws n (j:Int):=by
 rw[yr hj,yr hj]
 unfold jI
 have kY:i/64<ws.length:=by omega
 by_cases h:j/64=i/64
 ·rw[h,List.getD_eq_getElem?_getD,List.getElem?_set_self kY,Option.getD_some]
  cases one with
  | true =>
   rw[if_pos rfl,BitVec.getLsbD_or,Ce _ _ ah ah]
   by_cases BS:j=i
   ·subst BS;simp
   ·have:¬j%64=i%64:=by omega
    simp[BS,this]
  | false =>
   rw[if_neg (by simp),BitVec.getLsbD_and,BitVec.getLsbD_not,Ce _ _ ah ah]
   by_cases BS:j=i
   ·subst BS;simp
   ·have:¬j%64=i%64:=by omega
    have Et:j%64<64:=by omega
    simp[BS,this,Et]
 ·have BS:¬j=i:=fun e=>h (by rw[e])
  rw[if_neg BS,List.getD_eq_getElem?_getD,List.getElem?_set_ne (fun e=>h e.symm),← List.getD_eq_getElem?_getD]
theorem pZ{ws:List jS}{n:Nat}{i:Int}(h:i<0∨(n:Int)≤i):cE ws n i=false:=by
 unfold cE
 rw[decide_eq_false ah,Bool.false_and]
theorem tz(m n:Nat)(i:Int):cE (List.replicate m 0#64) n i=false:=by
 unfold cE
 have h:(List.replicate m 0#64).getD (i.toNat/64) 0#64=0#64:=by
  rw[List.getD_eq_getElem?_getD,List.getElem?_replicate]
  split <;> rfl
 rw[h]
 simp
def iP(sb n:Nat)(wv:Value)(ws:List jS):List HP:=[ag sb (cl [.int .i64 (n:Int),wv] 117),aB 118 1 wv ws.length (qV ws)]
structure Tk where
 yb:Nat
 sb:Nat
 mb:Nat
 x:Bl
 n:Nat
 ws:List jS
 pf:Int→Option (List Dg)
def Jh(z:Value × List (Int × Value) × fF)(y:Tk):Prop:=∀k,match eh z.2.1 k with
 | none=>y.pf k=none
 | some v=>∃l,y.pf k=some l∧CL z.2.2 32 v l.length (l.flatMap dC)
def lz(y:Tk):List Value:=bD y.x++[ptr y.sb,.map (some y.mb)]
def mZ(y:Tk)(z:Value × List (Int × Value) × fF):List HP:=[ag y.yb (cl (lz y) 93),ag y.sb (cl [.int .i64 (y.n:Int),z.1] 117),aB 118 1 z.1 y.ws.length (qV y.ws),aM (Value.int .i64) y.mb z.2.1,aV 35 z.2.2]
def n9(y:Tk):HP:=fun h=>∃z:Value × List (Int × Value) × fF,Jh z y∧Sep (mZ y z) h
theorem gj(y:Tk):∀h,n9 y h→∃z:Value × List (Int × Value) × fF,Jh z y∧Sep (mZ y z) h:=fun h hs=>hs
theorem jh{y:Tk}{z:Value × List (Int × Value) × fF}(hR:Jh z y)(H:List HP):ao (mZ y z++H) (n9 y::H) :=
 ao.fold (B:=mZ y z) fun h hp=>⟨h,sub.refl h,z,hR,hp⟩
theorem Jh.put{z:Value × List (Int × Value) × fF}{y:Tk}(h:Jh z y)(k:Int)(v wv:Value)(l:List Dg)(M:fF)(hM:∀a∈z.2.2,a∈M)(hv:CL M 32 v l.length (l.flatMap dC))(y':Tk)(hy:y'.pf=fun j=>if j=k then some l else y.pf j):Jh (wv,nk z.2.1 k v,M) y':=fun j=>by
 rw[hy]
 simp only
 rw[Hu]
 by_cases hj:j=k
 ·rw[if_pos hj,if_pos hj];exact⟨l,rfl,hv⟩
 ·rw[if_neg hj,if_neg hj]
  have:=h j
  cases hx:eh z.2.1 j with
  | none=>rw[hx]at this;exact this
  | some u =>
   rw[hx]at this
   obtain⟨l',h1,h2⟩:=this
   exact⟨l',h1,h2.mono hM⟩
def aU(ts:List Tk):HP:=Sep (ts.map n9)
theorem H5(H:List HP):ao H (aU []::H):=ao.qg H
theorem Bp(a b:List Tk)(y:Tk)(H:List HP):ao (aU (a++y::b)::H) (n9 y::aU (a++b)::H):=by
 unfold aU
 rw[List.map_append,List.map_cons,List.map_append]
 refine(ao.cB _ _).trans ((ao.perm (H':=n9 y::((a.map n9++b.map n9)++H)) ?_).trans (ao.cons _ (ao.bP _ _)))
 rw[List.append_assoc,List.cons_append,List.append_assoc]
 exact List.perm_middle
theorem uo(a b:List Tk)(y:Tk)(H:List HP):ao (n9 y::aU (a++b)::H) (aU (a++y::b)::H):=by
 unfold aU
 rw[List.map_append,List.map_append,List.map_cons]
 refine(ao.cons _ (ao.cB _ _)).trans ((ao.perm (H':=(a.map n9++n9 y::b.map n9)++H) ?_).trans (ao.bP _ _))
 rw[List.append_assoc,List.append_assoc,List.cons_append]
 exact List.perm_middle.symm
theorem F1{ts:List Tk}{i:Nat}{y:Tk}(h:ts[i]?=some y):ts=ts.take i++y::ts.drop (i+1):=by
 obtain⟨hi,rfl⟩:=List.getElem?_eq_some_iff.1 h
 rw[← List.drop_eq_getElem_cons hi,List.take_append_drop]
theorem lf{ts:List Tk}{i:Nat}{y:Tk}(h:ts[i]?=some y)(H:List HP):ao (aU ts::H) (n9 y::aU (ts.take i++ts.drop (i+1))::H):=by
 have:=Bp (ts.take i) (ts.drop (i+1)) y H
 rwa[← F1 h]at this
theorem H4{ts:List Tk}{i:Nat}{y:Tk}(h:ts[i]?=some y)(y':Tk)(H:List HP):ao (n9 y'::aU (ts.take i++ts.drop (i+1))::H) (aU (ts.set i y')::H):=by
 have hi:=(List.getElem?_eq_some_iff.1 h).1
 rw[List.set_eq_take_append_cons_drop,if_pos hi]
 exact uo (ts.take i) (ts.drop (i+1)) y' H
theorem mI{ts:List Tk}{i:Nat}{y:Tk}(h:ts[i]?=some y)(H:List HP):ao (n9 y::aU (ts.take i++ts.drop (i+1))::H) (aU ts::H):=by
 have:=uo (ts.take i) (ts.drop (i+1)) y H
 rwa[← F1 h]at this
def cm(y:Tk):Value:=ptr y.yb
def dr(tb bs jb:Nat)(v:Value)(ts:List Tk)(br:Bool):List HP:=[ag tb (cl [ptr bs,ptr jb,v,.bool br] 88),aB 90 1 v ts.length (ts.map cm),aU ts]
theorem qx{ts:List Tk}{i:Nat}{y:Tk}(h:ts[i]?=some y):(ts.map cm)[i]?=some (ptr y.yb):=by rw[List.getElem?_map,h];rfl
attribute [local irreducible] J K aD Ends ag aB aM bN aZ aP aV bh
theorem xL(n:Nat)(h:n<9223372036854775808):aD Tryz.prog 204 [.int .i64 (n:Int)] [] (fun v H=>∃b,v = .slice (some ⟨b,0,none⟩) 4 4∧H=[ag b (cl (bV (vr n)) 5)]):=by
 refine aD.enter Tryz.func204 ak rfl Tryz.ntmps204 zr zr ?_
 intro G F R hE
 (repeat(first|refine gO ?_|refine iN zr zr zr zr zr zr ?_|refine iW zr zr zr ah ?_))
 refine az 4 (u8 (UInt8.ofNat n)) rfl (lq n) ?_
 refine az 7 (u8 (UInt8.ofNat (n/256))) rfl (by rw[show(n:Int)/2 ^ (min (Int.toNat 8) IntKind.i64.bits)=((n/256:Nat):Int)from by show(n:Int)/256=_;omega];exact lq _) ?_
 refine az 10 (u8 (UInt8.ofNat (n/65536))) rfl (by rw[show(n:Int)/2 ^ (min (Int.toNat 16) IntKind.i64.bits)=((n/65536:Nat):Int)from by show(n:Int)/65536=_;omega];exact lq _) ?_
 refine az 13 (u8 (UInt8.ofNat (n/16777216))) rfl (by rw[show(n:Int)/2 ^ (min (Int.toNat 24) IntKind.i64.bits)=((n/16777216:Nat):Int)from by show(n:Int)/16777216=_;omega];exact lq _) ?_
 refine al (cs:=bV (vr n)) zr zr zr zr zr zr zr zr zr bz ?_
 intro b
 refine go ?_
 ((refine ae hE Tryz.func204 rfl _ rfl ⟨b,rfl,rfl⟩ ad))
set_option maxRecDepth 20000 in
theorem CT(A:HP)(v:Value)(bs:List UInt8)(hv:Vw A v bs.length (bV bs))(h:4≤bs.length):aD Tryz.prog 189 [v] [A] (fun r H=>r = .int .i64 (oH bs:Int)∧H=[A]):=by
 obtain⟨b,o,c,rfl⟩:=OS hv ah
 have hx:∀x:UInt8,x.toNat<256:=fun x=>x.toNat_lt
 have h0:=hx (bs.getD 0 0);have h1:=hx (bs.getD 1 0);have h2:=hx (bs.getD 2 0);have h3:=hx (bs.getD 3 0)
 refine aD.enter Tryz.func189 ak rfl Tryz.ntmps189 zr zr ?_
 intro G F R hE
 refine go ?_
 refine aF (fun w=>Sat G w ([A])) (kA 0 23 .nil) rfl ak ak ak ei ?_
 refine go ?_
 refine bK 0 zr zr zr zr zr zr zr zr ah ?_
 refine cJ 0 0 zr zr zr hv rfl (wz ah) zr zr ?_
 refine go ?_
 refine bK 1 zr zr zr zr zr zr zr zr ah ?_
 refine cJ 0 1 zr zr zr hv rfl (wz ah) zr zr ?_
 refine go ?_
 refine np zr zr zr ah ?_
 refine az 11 (.int .i64 (((bs.getD 1 0).toNat*2 ^ 8:Nat):Int)) rfl (xr (q:=8) _ rfl ah) ?_
 refine go ?_
 refine az 12 (.int .i64 (((bs.getD 0 0).toNat+(bs.getD 1 0).toNat*2 ^ 8:Nat):Int)) rfl (congrArg (Value.int .i64) (Gv ah ah)) ?_
 refine bK 2 zr zr zr zr zr zr zr zr ah ?_
 refine cJ 0 2 zr zr zr hv rfl (wz ah) zr zr ?_
 refine go ?_
 refine np zr zr zr ah ?_
 refine az 17 (.int .i64 (((bs.getD 2 0).toNat*2 ^ 16:Nat):Int)) rfl (xr (q:=16) _ rfl ah) ?_
 refine go ?_
 refine az 18 (.int .i64 (((bs.getD 0 0).toNat+(bs.getD 1 0).toNat*2 ^ 8+(bs.getD 2 0).toNat*2 ^ 16:Nat):Int)) rfl (congrArg (Value.int .i64) (Gv ah ah)) ?_
 refine bK 3 zr zr zr zr zr zr zr zr ah ?_
 refine cJ 0 3 zr zr zr hv rfl (wz ah) zr zr ?_
 refine go ?_
 refine np zr zr zr ah ?_
 refine az 23 (.int .i64 (((bs.getD 3 0).toNat*2 ^ 24:Nat):Int)) rfl (xr (q:=24) _ rfl ah) ?_
 refine go ?_
 refine bB 2 (.int .i64 (oH bs:Int)) rfl (congrArg (Value.int .i64) (Gv ah ah)) ?_
 ((refine ae hE Tryz.func189 rfl _ rfl ⟨rfl,rfl⟩ ad))
theorem LR(A B:HP)(v1 v2:Value)(b1 b2:List UInt8)(h1:Vw A v1 b1.length (bV b1))(h2:Vw B v2 b2.length (bV b2)):aD Tryz.prog 190 [v1,v2] [A,B] (fun r H=>r = .bool (decide (b1=b2))∧H=[A,B]):=by
 obtain⟨a1,c1,rfl⟩:=h1.shape
 obtain⟨a2,c2,rfl⟩:=h2.shape
 refine aD.enter Tryz.func190 ak rfl Tryz.ntmps190 zr zr ?_
 intro G F R hE
 refine go ?_
 refine Cs (U:=aN) 0 zr zr zr zr zr zr zr zr zr h1 ?_
 refine go ?_
 refine Cs (U:=aN) 1 zr zr zr zr zr zr zr zr zr h2 ?_
 refine go ?_
 rw[AU]
 ((refine ae hE Tryz.func190 rfl _ rfl ⟨rfl,rfl⟩ ad))
set_option maxRecDepth 20000 in
theorem LF(a b:Nat)(ha:a<4294967296)(hb:b<4294967296):aD Tryz.prog 243 [.int .u64 (a:Int),.int .u64 (b:Int)] [] (fun r H=>r = .tuple #[.int .u64 0,.int .u64 ((a*b:Nat):Int)]∧H=[]):=by
 have mD:a*b<18446744073709551616:=Nat.lt_of_lt_of_le (Nat.mul_lt_mul'' ha hb) ah
 have hw:∀x:Nat,x<18446744073709551616→IntKind.u64.wrap (x:Int)=(x:Int):=fun x hx=>cK (by simp only[gg];omega)
 have hm:∀x:Nat,x<4294967296→IntKind.u64.wrap ((BitVec.ofInt IntKind.u64.bits (x:Int) &&& BitVec.ofInt IntKind.u64.bits 4294967295).toNat:Int)=(x:Int):=fun x hx=>by
  have:=Ci x 32 ah ah
  rw[show((2 ^ 32-1:Nat):Int)=4294967295 from rfl,show x%2 ^ 32=x from by omega]at this
  exact this
 have hs:∀x:Nat,x<4294967296→(x:Int)/2 ^ (min (Int.toNat 32) IntKind.u64.bits)=0:=fun x hx=>by show(x:Int)/4294967296=0;omega
 refine aD.enter Tryz.func243 ak rfl Tryz.ntmps243 zr zr ?_
 intro G F R hE
 refine go ?_
 refine az 6 (.int .u64 (a:Int)) rfl (congrArg (Value.int .u64) (hm a ha)) ?_
 refine iW zr zr zr ah ?_
 refine az 17 (.int .u64 0) rfl (congrArg (Value.int .u64) (hs a ha)) ?_
 refine go ?_
 refine az 8 (.int .u64 (b:Int)) rfl (congrArg (Value.int .u64) (hm b hb)) ?_
 refine iW zr zr zr ah ?_
 refine az 21 (.int .u64 0) rfl (congrArg (Value.int .u64) (hs b hb)) ?_
 refine go ?_
 refine gT zr zr zr (by rw[← Int.natCast_mul];simp only[gg];omega) ?_
 refine az 24 (.int .u64 ((a*b:Nat):Int)) rfl (by rw[Int.natCast_mul]) ?_
 refine go ?_
 refine gT zr zr zr (by simp[gg]) ?_
 refine az 27 (.int .u64 0) rfl (by simp) ?_
 refine go ?_
 refine iW zr zr zr ah ?_
 refine az 29 (.int .u64 ((a*b/4294967296:Nat):Int)) rfl (congrArg (Value.int .u64) (by show((a*b:Nat):Int)/4294967296=_;omega)) ?_
 refine go ?_
 refine az 11 (.int .u64 ((a*b/4294967296:Nat):Int)) rfl (congrArg (Value.int .u64) ah) ?_
 refine go ?_
 have hq:a*b/4294967296<4294967296:=by omega
 refine az 12 (.int .u64 ((a*b/4294967296:Nat):Int)) rfl (congrArg (Value.int .u64) (by rw[show(0:Int)+((a*b/4294967296:Nat):Int)=((a*b/4294967296:Nat):Int)from by omega];exact hm _ hq)) ?_
 refine iW zr zr zr ah ?_
 refine az 34 (.int .u64 0) rfl (congrArg (Value.int .u64) (by simp only[Int.zero_add,Int.add_zero];exact hs _ hq)) ?_
 refine go ?_
 refine gT zr zr zr (by simp[gg]) ?_
 refine az 38 (.int .u64 0) rfl (by simp) ?_
 refine go ?_
 refine gT zr zr zr (by simp[gg]) ?_
 refine az 42 (.int .u64 0) rfl (by simp) ?_
 refine go ?_
 refine iW zr zr zr ah ?_
 refine az 46 (.int .u64 0) rfl (congrArg (Value.int .u64) (by rw[show((a*b/4294967296:Nat):Int)+0=((a*b/4294967296:Nat):Int)from by omega];exact hs (a*b/4294967296) hq)) ?_
 refine go ?_
 refine gT zr zr zr (by rw[← Int.natCast_mul];simp only[gg];omega) ?_
 refine az 50 (.int .u64 ((a*b:Nat):Int)) rfl (by rw[Int.natCast_mul]) ?_
 refine go ?_
 ((refine ae hE Tryz.func243 rfl _ rfl ⟨rfl,rfl⟩ ad))
theorem RE(a b:Nat)(ha:a<4294967296)(hb:b<4294967296):aD Tryz.prog 223 [.int .u64 (a:Int),.int .u64 (b:Int)] [] (fun r H=>r = .tuple #[.int .u64 0,.int .u64 ((a*b:Nat):Int)]∧H=[]):=by
 refine aD.enter Tryz.func223 ak rfl Tryz.ntmps223 zr zr ?_
 intro G F R hE
 refine go ?_
 ((refine ai zr zr zr zr (LF a b ha hb) ad ?_ bG))
 rintro _ _⟨rfl,rfl⟩
 refine go ?_
 ((refine ae hE Tryz.func223 rfl _ rfl ⟨rfl,rfl⟩ ad))
set_option maxRecDepth 20000 in
theorem E1(v:Value)(bs:List UInt8)(h0:0<bs.length)(hl:bs.length≤1000) :
  aD Tryz.prog 203 [v,.int .i64 2] [aB 5 1 v bs.length (bV bs)] (fun r H=>H=[aB 5 1 r (bs++bs).length (bV (bs++bs))]):=by
 refine aD.enter Tryz.func203 ak rfl Tryz.ntmps203 zr zr ?_
 intro G F R hE
 refine XW 0 rfl h0 ?_
 rintro b o c rfl hc _ dK
 refine go ?_
 ((refine ai zr zr zr zr (RE bs.length 2 ah ah) ad ?_ bG))
 rintro _ _⟨rfl,rfl⟩
 repeat'(first|(with_reducible intro qh)|refine gO ?_|refine au zr zr ?_ ?_)
 any_goals (exfalso;omega)
 obtain⟨N,hN⟩:∃N,N=bs.length*2:=⟨_,rfl⟩
 rw[← hN]
 refine Cv (U:=aN) (t:=22) (elem:=5) (q:=N) rfl Tryz.func224 zr zr ak zr zr zr zr ah (fun _ _ _ _=>trivial) ?_
 intro nb c2 l mC rf
 refine go ?_
 refine LJ (U:=aN) (q:=(N:Int)) (r:=(N:Int)) zr zr zr zr zr zr zr ah ah ah ?_
 refine az 57 (.slice (some ⟨nb,0,none⟩) N N) rfl (by rw[show((N:Int)).toNat=N from by omega];rw[SL.iF]) ?_
 refine go ?_
 refine Jp (U:=aN) (src:=bV bs) (mm:=bs.length) (l':=bV bs++l.drop bs.length) 0 1 zr zr zr zr zr zr zr zr dK (by show _=_*1;rw[bt];omega) (fun u hu=>cR bs u (List.mem_of_mem_take hu)) (by show 0+_*1≤_;omega) ?_ rfl gE ?_
 ·show _=List.take 0 l++List.take (min bs.length N*1) (bV bs)++List.drop (0+min bs.length N*1) l
  rw[show min bs.length N*1=bs.length from by omega,List.take_of_length_le (l:=bV bs) (by rw[bt];omega)]
  simp
 rw[show((min bs.length N:Nat):Int)=(bs.length:Int)from by omega]
 refine go ?_
 refine bu (fun _:Bool=>True) (fun s=>bif s then 0 else 1)
  (fun s=>[(7,.int .i64 (N:Int)),(8,.int .i64 (N:Int)),(9,.slice (some ⟨nb,0,none⟩) N N),(10,.int .i64 ((bif s then N else bs.length:Nat):Int))])
  (fun s=>ag nb (cl (bif s then bV (bs++bs)++l.drop N else bV bs++l.drop bs.length) 5)::F) false trivial rfl cu ad ?_
 rintro s _ ih
 cases s with
 | true =>
  repeat'(first|(with_reducible intro qh)|refine gO ?_|refine au zr zr ?_ ?_)
  any_goals (exfalso;simp only[cond_true]at *;omega)
  simp only[cond_true]
  refine aj (eL 5 1 nb N N (bV (bs++bs)) (l.drop N) _ (by rw[bt,List.length_append];omega) (Nat.le_refl _) (by rw[bt,List.length_append,List.length_drop];omega)) ?_
  rw[show N=(bs++bs).length from by rw[List.length_append];omega]
  ((refine ae hE Tryz.func203 rfl _ zr zr ad))
 | false =>
  repeat'(first|(with_reducible intro qh)|refine gO ?_|refine au zr zr ?_ ?_)
  any_goals (exfalso;simp only[cond_false]at *;omega)
  simp only[cond_false]
  rw[show min (bs.length:Int) (N:Int)=(bs.length:Int)from by omega]
  refine aF (fun w=>Sat G w ([])) (kA 0 7 (.act 7 (kA 8 2 .nil))) rfl ak ak ak ei ?_
  refine go ?_
  refine bj (p:=(bs.length:Int)) (q:=(N:Int)) zr zr zr zr zr zr zr ah ah (.inl rfl) ?_
  refine az 70 (.slice (some ⟨nb,bs.length,none⟩) bs.length bs.length) rfl (by rw[show((N:Int)).toNat=N from by omega,show((bs.length:Int)).toNat=bs.length from by omega,show N-bs.length=bs.length from by omega];show Value.slice (sliceAt _ N bs.length 1) _ _=_;rw[sQ _ _ _ _ _ ah,Nat.zero_add,Nat.mul_one]) ?_
  refine go ?_
  refine bj (p:=0) (q:=(bs.length:Int)) zr zr zr zr zr zr zr ah ah (.inr ah) ?_
  refine az 73 (.slice (some ⟨nb,0,none⟩) bs.length N) rfl (by rw[show(0:Int).toNat=0 from rfl,show((bs.length:Int)).toNat=bs.length from by omega,SL.iF];rfl) ?_
  refine Jp (U:=aN) (src:=bV bs) (mm:=bs.length) (l':=bV (bs++bs)++l.drop N) 0 0 zr zr zr zr zr zr zr zr (Vw.ag (by simp)) (by show _=_*1;rw[bt];omega) (fun u hu=>cR bs u (List.mem_of_mem_take hu)) (by show bs.length+_*1≤_;rw[List.length_append,bt,List.length_drop];omega) ?_ rfl (fun _ hw=>hw.cy (ao.RQ _)) ?_
  ·show _=List.take bs.length _++List.take (min bs.length bs.length*1) (bV bs)++List.drop (bs.length+min bs.length bs.length*1) _
   rw[show min bs.length bs.length*1=bs.length from by omega,List.take_of_length_le (l:=bV bs) (by rw[bt];omega),List.take_left' (bt bs),List.drop_append,bt,show(bV bs).drop (bs.length+bs.length)=[]from List.drop_eq_nil_of_le (by rw[bt];omega),List.drop_drop,show bs.length+(bs.length+bs.length-bs.length)=N from by omega]
   simp[bV]
  rw[show((min bs.length bs.length:Nat):Int)=(bs.length:Int)from by omega]
  refine go ?_
  refine bB 10 (.int .i64 (N:Int)) rfl (congrArg (Value.int .i64) ah) ?_
  refine aL ih true rfl trivial (by simp) cu ad
def bU(n m:Nat):List UInt8:=(vr n++vr m)++(vr n++vr m)
theorem fL(n m:Nat):(bU n m).length=16:=rfl
theorem yl(n m:Nat)(h:n<9223372036854775808)(h2:m<9223372036854775808):aD Tryz.prog 154 [.int .i64 (n:Int),.int .i64 (m:Int)] [] (fun r H=>H=[aB 5 1 r (bU n m).length (bV (bU n m))]):=by
 refine aD.enter Tryz.func154 ak rfl Tryz.ntmps154 zr zr ?_
 intro G F R hE
 refine go ?_
 ((refine ai zr zr zr zr (xL n h) ad ?_ bG))
 rintro _ _⟨b1,rfl,rfl⟩
 refine go ?_
 ((refine ai zr zr zr zr (xL m h2) ad ?_ bG))
 rintro _ _⟨b2,rfl,rfl⟩
 ((refine aG (ao.pick [1] rfl) ?_))
 ((refine aG (eL 5 1 b1 4 4 (bV (vr n)) [] _ rfl (Nat.le_refl _) (by simp[bt,BM])) ?_))
 refine aO (mm:=4) (news:=bV (vr m)) 0 1 zr zr zr zr zr zr zr zr zr zr zr zr (Vw.ag rfl) rfl (cR _) ah (by show(4+4)*1≤_;omega) (fun _=>rfl) bz ?_
 intro v1
 rw[show bV (vr n)++bV (vr m)=bV (vr n++vr m)from by simp[bV],show 4+4=(vr n++vr m).length from rfl]
 ((refine ai zr zr zr zr (E1 v1 (vr n++vr m) (by simp[BM]) (by simp[BM])) ad ?_ bG))
 rintro r _ rfl
 refine go ?_
 ((refine ae hE Tryz.func154 rfl _ zr zr ad))
theorem qb(A:HP)(v:Value)(bs:List UInt8)(hv:eJ A v bs)(hl:bs.length≤1000000000000):aD Tryz.prog 140 [v] [A] (fun r H=>H=[aB 5 1 r (aR bs).length (bV (aR bs)),A]):=by
 obtain⟨a,c,rfl,hc⟩:=hv.2
 refine aD.enter Tryz.func140 ak rfl Tryz.ntmps140 zr zr ?_
 intro G F R hE
 refine go ?_
 ((refine ai zr zr zr zr (l9 bs.length ah) ad ?_ bG))
 rintro r _ rfl
 ((refine aJ 0 rfl ?_))
 rintro ra rc rfl
 refine go ?_
 have hu:=pr (n:=bs.length) ah
 refine aO (mm:=bs.length) (news:=bV bs) 0 1 zr zr zr zr zr zr zr zr zr zr zr zr hv.1 (by show _=_*1;rw[bt];omega) (cR _) ah (by show(_+_)*1≤_;omega) (fun _=>rfl) bz ?_
 intro v1
 rw[show bV (uv bs.length)++bV bs=bV (aR bs)from by simp[bV,aR],show(uv bs.length).length+bs.length=(aR bs).length from by simp[aR]]
 refine go ?_
 ((refine ae hE Tryz.func140 rfl _ zr zr ad))
set_option maxRecDepth 20000 in
theorem Nu(A:HP)(v:Value)(bs:List UInt8)(hv:eJ A v bs)(hl:bs.length≤9223372036854775807) :
    aD Tryz.prog 188 [v] [A] (fun r H=>r=(match lQ bs with
      | some (k,n) => .tuple #[.int .i64 (k:Int),.int .i64 (n:Int),.bool (decide (n≤4096))]
      | none => .tuple #[.int .i64 0,.int .i64 0,.bool false])∧H=[A]):=by
  obtain⟨a,c,rfl,hc⟩:=hv.2
  refine aD.enter Tryz.func188 ak rfl Tryz.ntmps188 zr zr ?_
  intro G F R hE
  refine go ?_
  refine bu (fun k:Nat=>1≤k∧k≤3∧(2≤k→1≤bs.length∧cX (bs.take 1)=none)∧(3≤k→2≤bs.length∧cX (bs.take 2)=none)) (fun k=>3-k)
    (fun k=>[(0,.slice a bs.length c),(5,.int .i64 (k:Int))])
    (fun _=>A::F) 1 ⟨ah,ah,ah,ah⟩ rfl cu ad ?_
  rintro k⟨zI,yf,h1,h2⟩ ih
  refine go ?_
  refine au zr zr ?_ ?_
  case' refine_2 =>
    intro fq
    have hn:lQ bs=none:=by
      unfold lQ
      split
      · obtain⟨_,h3⟩:=h1 ah
        rw[h3]
        simp only
        split
        · obtain⟨_,h4⟩:=h2 ah
          rw[h4];rfl
        · rfl
      · rfl
    rw[hn]at hE
    refine go ?_
    ((refine ae hE Tryz.func188 rfl _ rfl ⟨rfl,rfl⟩ ad))
  intro cW
  have WX:k≤bs.length:=by omega
  refine go ?_
  refine bj (p:=0) (q:=(k:Int)) zr zr zr zr zr zr zr ah ah (.inr ah) ?_
  have hf:=hv.front k WX
  refine az 18 (.slice (sliceAt a c 0 1) k c) rfl (by rw[show(0:Int).toNat=0 from rfl,show((k:Int)).toNat=k from by omega];rfl) ?_
  ((refine ai zr zr zr zr (me A _ (bs.take k) hf (by rw[List.length_take];omega)) ad ?_ bG))
  cases hu:cX (bs.take k)with
  | none =>
    rintro _ _⟨rfl,rfl⟩
    refine go ?_
    refine aL ih (k+1) rfl ⟨ah,ah,fun h=>by
      by_cases hk:k=1
      · subst hk;exact⟨ah,hu⟩
      · exact h1 ah,fun h=>by
      have hk:k=2:=by omega
      subst hk;exact⟨ah,hu⟩⟩ ah cu ad
  | some n =>
    rintro _ _⟨rfl,rfl⟩
    have adJ:=oh hu (by rw[List.length_take];omega)
    have GS:lQ bs=some (k,n):=by
      unfold lQ
      rw[if_pos ah]
      by_cases hk:k=1
      · subst hk;rw[hu]
      · have hk:k=2:=by omega
        subst hk
        obtain⟨_,h3⟩:=h1 ah
        rw[h3]
        simp only
        rw[if_pos ah,hu];rfl
    rw[GS]at hE
    simp only at hE
    rw[show decide (n≤4096)=decide ((n:Int)≤4096)from decide_eq_decide.2 ⟨fun _=>by omega,fun _=>by omega⟩]at hE
    refine go ?_
    ((refine ae hE Tryz.func188 rfl _ rfl ⟨rfl,rfl⟩ ad))
def k6(b:List UInt8)(k last:Nat):Bool :=
 let h:=(b.drop (16*k)).take 16
 decide (last<oH h∧oH h≤1073741824∧oH h%2=k∧oH (h.drop 4)+32≤b.length∧h=bU (oH h) (oH (h.drop 4)))
def eY(b:List UInt8)(k:Nat)(s:Nat × Nat):Nat × Nat:=if k6 b k s.1 then(oH ((b.drop (16*k)).take 16),oH (((b.drop (16*k)).take 16).drop 4))else s
def e8(b:List UInt8):List UInt8:=if b.length<32 then []else(b.drop 32).take (eY b 1 (eY b 0 (0,0))).2
theorem ac5{b:List UInt8}{k:Nat}(hk:16*k+16≤b.length):((b.drop (16*k)).take 16).length=16:=by rw[List.length_take,List.length_drop];omega
set_option maxRecDepth 20000 in
theorem K2(A:HP)(v:Value)(b:List UInt8)(hv:eJ A v b)(hl:b.length≤9223372036854775807) :
  aD Tryz.prog 132 [v] [A] (fun r H=>eJ A r (e8 b)∧H=[A]):=by
 obtain⟨a,c,rfl,hc⟩:=hv.2
 refine aD.enter Tryz.func132 ak rfl Tryz.ntmps132 zr zr ?_
 intro G F R hE
 repeat'(first|(with_reducible intro qh)|refine gO ?_|refine au zr zr ?_ ?_)
 case' refine_1 =>
  have hn:e8 b=[]:=by unfold e8;rw[if_pos ah]
  rw[hn]at hE
  ((refine ae hE Tryz.func132 rfl _ rfl ⟨⟨DJ A,none,0,rfl,Nat.le_refl _⟩,rfl⟩ ad))
 have adY:32≤b.length:=by omega
 refine bu (fun s:Nat × Nat × Nat=>s.1≤2∧(s.1=0→s.2=(0,0))∧(s.1=1→s.2=eY b 0 (0,0))∧(s.1=2→s.2=eY b 1 (eY b 0 (0,0)))∧s.2.2+32≤b.length∧s.2.1≤1073741824) (fun s=>2-s.1)
  (fun s=>[(0,.slice a b.length c),(3,.int .i64 (s.2.1:Int)),(4,.int .i64 (s.2.2:Int)),(12,.int .i64 (s.1:Int))])
  (fun _=>A::F) (0,0,0) ⟨ah,fun _=>rfl,ah,ah,by simp only;omega,by simp only;omega⟩ rfl cu ad ?_
 rintro⟨k,last,len⟩⟨hk,Se,zI,yf,hlen,kO⟩ ih
 simp only at hk Se zI yf hlen kO
 refine go ?_
 refine au zr zr ?_ ?_
 case' refine_2 =>
  intro fq
  simp only at fq
  have h2:=yf ah
  have hf:e8 b=(b.drop 32).take len:=by unfold e8;rw[if_neg ah,← h2]
  refine go ?_
  refine bj (p:=32) (q:=32+(len:Int)) zr zr zr zr zr zr zr ah ah (.inr ah) ?_
  have hp:=hv.piece 32 (32+len) ah ah
  rw[show 32+len-32=len from by omega,← hf]at hp
  refine az 58 (.slice (sliceAt a c 32 1) len (c-32)) rfl (by rw[show(32:Int).toNat=32 from rfl,show(32+(len:Int)).toNat=32+len from by omega,show 32+len-32=len from by omega];rfl) ?_
  refine go ?_
  ((refine ae hE Tryz.func132 rfl _ rfl ⟨hp,rfl⟩ ad))
 intro cW
 simp only at cW
 have acO:16*k+16≤b.length:=by omega
 refine go ?_
 refine gT zr zr zr (by simp only[gg];omega) ?_
 refine az 17 (.int .i64 ((16*k:Nat):Int)) rfl (congrArg (Value.int .i64) (by simp only;omega)) ?_
 refine bj (p:=((16*k:Nat):Int)) (q:=(b.length:Int)) zr zr zr zr zr zr zr ah ah (.inl rfl) ?_
 refine az 18 (.slice (sliceAt a c (16*k) 1) (b.length-16*k) (c-16*k)) rfl (by rw[show(((16*k:Nat):Int)).toNat=16*k from by omega,show((b.length:Int)).toNat=b.length from by omega];rfl) ?_
 have hh1:=hv.cut (16*k) ah
 refine bj (p:=0) (q:=16) zr zr zr zr zr zr zr ah ah (.inr ah) ?_
 obtain⟨hd,hhd⟩:∃hd,hd=(b.drop (16*k)).take 16:=⟨_,rfl⟩
 have FK:hd.length=16:=by rw[hhd];exact ac5 acO
 obtain⟨a1,ha1⟩:∃a1,a1=sliceAt (sliceAt a c (16*k) 1) (c-16*k) 0 1:=⟨_,rfl⟩
 have hh2:eJ A (.slice a1 16 (c-16*k)) hd:=by
  rw[show b.length-16*k=(b.drop (16*k)).length from by rw[List.length_drop]]at hh1
  have:=hh1.front 16 (by rw[List.length_drop];omega)
  rw[ha1,hhd];exact this
 refine az 19 (.slice a1 16 (c-16*k)) rfl (by rw[show(0:Int).toNat=0 from rfl,show(16:Int).toNat=16 from rfl,ha1];rfl) ?_
 refine go ?_
 refine aF (fun w=>Sat G w ([])) (.st 0 (.st 2 (.st 3 (.act 1 (.act 4 (.st 5 (.st 6 .nil))))))) rfl ak ak ak ei ?_
 refine go ?_
 refine bj (p:=4) (q:=16) zr zr zr zr zr zr zr ah ah (.inl rfl) ?_
 have hh3:=(show eJ A (.slice a1 hd.length (c-16*k)) hd by rw[FK];exact hh2).cut 4 ah
 rw[FK]at hh3
 refine az 23 (.slice (sliceAt a1 (c-16*k) 4 1) (16-4) (c-16*k-4)) rfl (by rw[show(4:Int).toNat=4 from rfl,show(16:Int).toNat=16 from rfl];rfl) ?_
 ((refine ai rfl rfl rfl rfl (CT A _ hd hh2.1 ah) ad ?_ (fun _ _ w hp hw=>by obtain⟨_,rfl⟩:=hp;exact hw.cy ad)))
 rintro _ _⟨rfl,rfl⟩
 ((refine ai zr zr zr zr (CT A _ (hd.drop 4) hh3.1 (by rw[List.length_drop];omega)) ad ?_ (fun _ _ w hp hw=>by obtain⟨_,rfl⟩:=hp;exact hw.cy ad)))
 rintro _ _⟨rfl,rfl⟩
 have hn:=Ny hd
 have hm:=Ny (hd.drop 4)
 have lC:k6 b k last=decide (last<oH hd∧oH hd≤1073741824∧oH hd%2=k∧oH (hd.drop 4)+32≤b.length∧hd=bU (oH hd) (oH (hd.drop 4))):=by unfold k6;rw[← hhd]
 have ph:∀s':Nat × Nat,s'=eY b k (last,len)→s'.2+32≤b.length∧s'.1≤1073741824→(k+1≤2∧(k+1=0→s'=(0,0))∧(k+1=1→s'=eY b 0 (0,0))∧(k+1=2→s'=eY b 1 (eY b 0 (0,0)))∧s'.2+32≤b.length∧s'.1≤1073741824):=by
  intro s' h1 h2
  refine⟨ah,ah,fun h=>?_,fun h=>?_,h2⟩
  ·have:k=0:=by omega
   subst this;rw[h1,Se rfl]
  ·have:k=1:=by omega
   subst this;rw[h1,zI rfl]
 have lp:k6 b k last=false→(last,len)=eY b k (last,len):=fun h=>by unfold eY;rw[if_neg (by rw[h];simp)]
 have mN:k6 b k last=true→(oH hd,oH (hd.drop 4))=eY b k (last,len):=fun h=>by unfold eY;rw[if_pos h,← hhd]
 repeat'(first|(with_reducible intro qh)|refine gO ?_|refine iC zr zr zr zr ?_ ?_|refine o8 zr zr zr ah ah ?_)
 any_goals (
  have hf:k6 b k last=false:=by rw[lC];exact decide_eq_false (fun h=>by simp only at *;omega)
  refine aL ih (k+1,last,len) rfl (ph _ (lp hf) ⟨hlen,kO⟩) (by simp only;omega) cu ad)
 ((refine ai zr zr zr zr (yl (oH hd) (oH (hd.drop 4)) ah ah) ad ?_ bG))
 rintro uh _ rfl
 refine iL 0 rfl ?_
 intro hvh
 ((refine aJ 0 rfl ?_))
 rintro xa xc rfl
 refine go ?_
 ((refine ai zr zr zr zr (LR A (aB 5 1 (.slice xa (bU (oH hd) (oH (hd.drop 4))).length xc) (bU (oH hd) (oH (hd.drop 4))).length (bV (bU (oH hd) (oH (hd.drop 4))))) (.slice a1 16 (c-16*k)) (.slice xa (bU (oH hd) (oH (hd.drop 4))).length xc) hd (bU (oH hd) (oH (hd.drop 4))) hh2.1 hvh) ad ?_ bG))
 rintro _ _⟨rfl,rfl⟩
 repeat'(first|(with_reducible intro qh)|refine gO ?_|refine au zr zr ?_ ?_)
 ·have hf:k6 b k last=true:=by rw[lC];exact decide_eq_true (by refine⟨?_,?_,?_,?_,‹_›⟩ <;> (simp only at *;omega))
  refine go ?_
  refine aL ih (k+1,oH hd,oH (hd.drop 4)) rfl (ph _ (mN hf) ⟨by simp only at *;omega,by simp only at *;omega⟩) (by simp only;omega) cu ad
 ·have hf:k6 b k last=false:=by rw[lC];exact decide_eq_false (fun h=>‹¬_› h.2.2.2.2)
  refine aL ih (k+1,last,len) rfl (ph _ (lp hf) ⟨hlen,kO⟩) (by simp only;omega) cu ad
attribute [local irreducible] bW
theorem qI{bs:List UInt8}{k n:Nat}(h:lQ bs=some (k,n)):1≤k∧k≤2∧k≤bs.length∧n<16384:=by
 unfold lQ at h
 split at h
 ·rename_i h1
  split at h
  ·rename_i m hm
   cases h
   exact⟨ah,ah,h1,oh hm (by rw[List.length_take];omega)⟩
  ·split at h
   ·rename_i h2
    cases hu:cX (bs.take 2)with
    | none=>rw[hu]at h;cases h
    | some m =>
     rw[hu]at h
     cases h
     exact⟨ah,ah,h2,oh hu (by rw[List.length_take];omega)⟩
   ·cases h
 ·cases h
def fQ:Nat→List UInt8→List (List UInt8)
 | 0,_=>[]
 | f+1,bs=>match lQ bs with
  | none=>[]
  | some (k,n)=>if n≤4096∧k+n≤bs.length then(bs.drop k).take n::fQ f (bs.drop (k+n))else []
theorem rn:∀(f g:Nat) (bs:List UInt8),bs.length≤f→bs.length≤g→fQ f bs=fQ g bs
 | 0,0,_,_,_=>rfl
 | 0,g+1,bs,hf,_=>by
  have:bs=[]:=List.eq_nil_of_length_eq_zero ah
  subst this;rfl
 | f+1,0,bs,_,hg=>by
  have:bs=[]:=List.eq_nil_of_length_eq_zero ah
  subst this;rfl
 | f+1,g+1,bs,hf,hg=>by
  unfold fQ
  split
  ·rfl
  ·rename_i k n hl
   have:=qI hl
   split
   ·rw[rn f g _ (by rw[List.length_drop];omega) (by rw[List.length_drop];omega)]
   ·rfl
def bY(bs:List UInt8):List (List UInt8):=fQ bs.length bs
theorem rp{bs:List UInt8}(h:lQ bs=none):bY bs=[]:=by
 unfold bY
 cases hl:bs.length with
 | zero=>rfl
 | succ f=>unfold fQ;rw[h]
theorem sV{bs:List UInt8}{k n:Nat}(h:lQ bs=some (k,n))(hb:¬(n≤4096∧k+n≤bs.length)):bY bs=[]:=by
 unfold bY
 cases hl:bs.length with
 | zero=>rfl
 | succ f=>unfold fQ;rw[h];simp only;rw[if_neg hb]
theorem rq{bs:List UInt8}{k n:Nat}(h:lQ bs=some (k,n))(hb:n≤4096∧k+n≤bs.length):bY bs=(bs.drop k).take n::bY (bs.drop (k+n)):=by
 have h1:=qI h
 unfold bY
 obtain⟨f,hf⟩:∃f,bs.length=f+1:=⟨bs.length-1,ah⟩
 rw[hf]
 show fQ (f+1) bs=_
 rw[fQ,h]
 simp only
 rw[if_pos hb,rn f _ _ (by rw[List.length_drop];omega) (Nat.le_refl _)]
theorem Dp(a:Option Addr)(n c:Nat):aD Tryz.prog 131 [.slice a n c] [] (fun r H=>∃b,r = .func (.func 187) #[] #[ptr b]∧H=[ag b (cl [.slice a n c] 22)]):=by
 refine aD.enter Tryz.func131 ak rfl Tryz.ntmps131 zr zr ?_
 intro G F R hE
 refine go ?_
 refine bC zr zr bz ?_
 intro b
 refine go ?_
 ((refine ae hE Tryz.func131 rfl _ rfl ⟨b,rfl,rfl⟩ ad))
set_option maxRecDepth 20000 in
theorem BC(A:HP)(l bx:Nat)(v:Value)(bs:List UInt8)(hv:eJ A v bs)(hl:bs.length≤1000000000)(Lp:HP)(Inv:Nat→HP)(hy:∀i x,(bY bs)[i]?=some x→∀r,bW Tryz.prog l [r] [Lp,Inv i,aB 5 1 r x.length (bV x)] (fun v H=>v = .bool true∧H=[Lp,Inv (i+1)])) :
  aD Tryz.prog 187 [.func (.yield l) #[] #[],ptr bx] [Lp,ag bx (cl [v] 22),A,Inv 0] (fun _ H=>∃v',H=[Lp,ag bx (cl [v'] 22),A,Inv (bY bs).length]):=by
 refine aD.enter Tryz.func187 ak rfl Tryz.ntmps187 zr zr ?_
 intro G F R hE
 refine go ?_
 refine bu (fun y:Value × List UInt8 × Nat=>eJ A y.1 y.2.1∧y.2.1.length≤bs.length∧bY y.2.1=(bY bs).drop y.2.2∧y.2.2≤(bY bs).length) (fun y=>y.2.1.length)
  (fun _=>[(0,.func (.yield l) #[] #[]),(1,ptr bx)])
  (fun y=>[Lp,ag bx (cl [y.1] 22),A,Inv y.2.2]++F) (v,bs,0) ⟨hv,Nat.le_refl _,by simp,Nat.zero_le _⟩ rfl cu ad ?_
 rintro⟨v1,rest,i⟩⟨lS,BQ,zt,Yc⟩ ih
 simp only at lS BQ zt Yc
 have lV:bY rest=[]→i=(bY bs).length:=fun h=>by
  rw[zt]at h
  have:(bY bs).length≤i:=by simpa using h
  omega
 obtain⟨a,c,rfl,hc⟩:=lS.2
 refine go ?_
 ((refine ai zr zr zr zr (Nu A _ rest lS ah) ad ?_ bG))
 rintro _ _⟨rfl,rfl⟩
 cases AH:lQ rest with
 | none =>
  obtain rfl:=lV (rp AH)
  refine go ?_
  ((refine ae hE Tryz.func187 rfl _ rfl ⟨_,rfl⟩ ad))
 | some kn =>
  obtain⟨k,n⟩:=kn
  have hp:=qI AH
  by_cases hn:n≤4096
  case neg =>
   have hG:bY rest=[]:=sV AH ah
   obtain rfl:=lV hG
   have hd:decide (n≤4096)=false:=decide_eq_false hn
   simp only[hd]
   refine go ?_
   ((refine ae hE Tryz.func187 rfl _ rfl ⟨_,rfl⟩ ad))
  have hd:decide (n≤4096)=true:=decide_eq_true hn
  simp only[hd]
  refine go ?_
  by_cases hk:(rest.length:Int)<(k:Int)+n
  case pos =>
   obtain rfl:=lV (sV AH ah)
   have Oi:decide ((rest.length:Int)<(k:Int)+n)=true:=decide_eq_true hk
   simp only[Oi]
   refine go ?_
   ((refine ae hE Tryz.func187 rfl _ rfl ⟨_,rfl⟩ ad))
  have Oi:decide ((rest.length:Int)<(k:Int)+n)=false:=decide_eq_false hk
  simp only[Oi]
  have yo:=rq AH ⟨hn,ah⟩
  obtain⟨x,hx⟩:∃x,x=(rest.drop k).take n:=⟨_,rfl⟩
  have PJ:x.length=n:=by rw[hx,List.length_take,List.length_drop];omega
  rw[← hx]at yo
  have Ed:(bY bs)[i]?=some x:=by
   have:=congrArg (fun l=>l[0]?) zt
   simp only[List.getElem?_drop,yo]at this
   simpa using this.symm
  have rB:bY (rest.drop (k+n))=(bY bs).drop (i+1):=by
   have:=congrArg (fun l=>l.drop 1) zt
   simp only[yo,List.drop_drop]at this
   simpa using this
  have Sf:i+1≤(bY bs).length:=by
   have:=(List.getElem?_eq_some_iff.1 Ed).1
   omega
  have tt:=lS.piece k (k+n) ah ah
  rw[show k+n-k=n from by omega,← hx]at tt
  refine go ?_
  refine bj (p:=(k:Int)) (q:=((k+n:Nat):Int)) zr zr zr zr zr zr zr ah ah (.inr ah) ?_
  refine az 29 (.slice (sliceAt a c k 1) n (c-k)) rfl (by rw[show((k:Int)).toNat=k from by omega,show(((k+n:Nat):Int)).toNat=k+n from by omega,show k+n-k=n from by omega];rfl) ?_
  refine go ?_
  ((refine ai zr zr zr zr (kT A _ x tt.1 ah) ad ?_ bG))
  rintro r _ rfl
  refine go ?_
  refine kE zr zr zr (hy i x Ed r) ad ?_ bG
  rintro _ _⟨rfl,rfl⟩
  refine go ?_
  refine bj (p:=((k+n:Nat):Int)) (q:=(rest.length:Int)) zr zr zr zr zr zr zr ah ah (.inl rfl) ?_
  have ll:=lS.cut (k+n) ah
  refine az 38 (.slice (sliceAt a c (k+n) 1) (rest.length-(k+n)) (c-(k+n))) rfl (by rw[show(((k+n:Nat):Int)).toNat=k+n from by omega,show((rest.length:Int)).toNat=rest.length from by omega];rfl) ?_
  refine go ?_
  refine aL ih (.slice (sliceAt a c (k+n) 1) (rest.length-(k+n)) (c-(k+n)),rest.drop (k+n),i+1) rfl (⟨ll,by simp only[List.length_drop];omega,rB,Sf⟩) (by simp only[List.length_drop];omega) cu ad
end Go.Proofs.YtedjnjkijiddlaaGreatDoor
namespace Go.Proofs.YtedjnjkijiddlaaGreatDoor
open Go Go.SL
theorem Mx{e:TypeId}{sz n c:Nat}{a:Option Addr}{cs:List Value}(H:List HP):ao (aB e sz (.slice a n c) n cs::H) (aB e sz (.slice (sliceAt a c 0 sz) 0 c) 0 []::H) :=
 ao.fold (A:=aB e sz (.slice (sliceAt a c 0 sz) 0 c) 0 []) (B:=[aB e sz (.slice a n c) n cs]) fun h hs=>by
  refine⟨h,sub.refl h,?_⟩
  obtain⟨hl,⟨a',he,hn,hem⟩|⟨b,o,cap,pre,bQ,he,hp,hn,hc,wm⟩⟩:=eN hs
  ·simp only[Value.slice.injEq]at he
   obtain⟨rfl,rfl,rfl⟩:=he
   exact⟨by simp,.inl ⟨_,rfl,rfl,hem⟩⟩
  ·simp only[Value.slice.injEq]at he
   obtain⟨rfl,-,rfl⟩:=he
   refine⟨by simp,.inr ⟨b,o,c,pre,cs++bQ,?_,hp,Nat.zero_le _,by rw[List.length_append];simpa using hc,by simpa using wm⟩⟩
   unfold sliceAt
   split
   ·rfl
   ·simp[Addr.add]
attribute [local irreducible] J K aD Ends ag aB aM bN aZ aP aV bh bW
theorem xp(ls:List (List UInt8))(i:Nat):((ls.take i).flatten).length≤ls.flatten.length:=by
 conv=>rhs;rw[← List.take_append_drop i ls,List.flatten_append,List.length_append]
 omega
theorem Py(n:Nat)(hn:n≤1000000000):aD Tryz.prog 218 [.slice none 0 0,.int .i64 (n:Int)] [] (fun r H=>H=[aB 5 1 r 0 []]):=by
 refine aD.enter Tryz.func218 ak rfl Tryz.ntmps218 zr zr ?_
 intro G F R hE
 (repeat(first|refine gO ?_|refine SF (U:=aN) zr zr zr zr ?_))
 ((refine bB 1 ((.int .i64 (n:Int))) rfl ((congrArg (Value.int .i64) ah)) ?_))
 refine au zr zr ?_ ?_
 ·intro kX
  have hp:0<n:=by omega
  (repeat(first|refine gO ?_|refine SF (U:=aN) zr zr zr zr ?_))
  refine bj (p:=0) (q:=0) zr zr zr zr zr zr zr ah ah (.inr ah) ?_
  refine az 20 (.slice none 0 0) zr zr ?_
  refine aG (bJ 5 1 none _) ?_
  refine iL 0 rfl ?_
  intro lk
  refine go ?_
  refine LP (U:=aN) (mm:=n) (cs:=[]) 0 zr zr zr zr zr zr zr zr zr zr zr zr lk rfl ah hp ah (by show _*1≤_;omega) (by show _*1≤_;omega) bz ?_
  intro v'
  ((refine aJ 0 rfl ?_))
  rintro a' c' rfl
  refine go ?_
  refine bj (p:=0) (q:=0) zr zr zr zr zr zr zr ah ah (.inr ah) ?_
  refine az 25 (.slice (sliceAt a' c' 0 1) 0 c') zr zr ?_
  refine aG (Mx _) ?_
  refine go ?_
  ((refine ae hE Tryz.func218 rfl _ zr zr ad))
 ·intro hz
  have RW:n=0:=by omega
  subst RW
  refine go ?_
  refine aj (bJ 5 1 none _) ?_
  ((refine ae hE Tryz.func218 rfl _ zr zr ad))
theorem HS(A:HP)(v:Value)(ls:List (List UInt8))(hv:rM A v ls)(hl:ls.flatten.length≤1000000000)(hn:ls.length≤1000000000):aD Tryz.prog 191 [v] [A] (fun r H=>H=[aB 5 1 r ls.flatten.length (bV ls.flatten),A]):=by
 obtain⟨cs,dK,ln,⟨a,c,rfl,hc⟩,pj⟩:=hv
 refine aD.enter Tryz.func191 ak rfl Tryz.ntmps191 zr zr ?_
 intro G F R hE
 refine go ?_
 refine bu (fun i:Nat=>i≤ls.length) (fun i=>ls.length-i)
  (fun i=>[(0,.slice a ls.length c),(9,.slice a ls.length c),(10,.int .i64 (ls.length:Int)),(11,.int .i64 (i:Int)),(3,.int .i64 (((ls.take i).flatten.length:Nat):Int))])
  (fun _=>A::F) 0 (Nat.zero_le _) rfl cu ad ?_
 rintro i hi ih
 refine go ?_
 refine au zr zr ?_ ?_
 ·intro cW
  have kY:i<ls.length:=by omega
  obtain⟨x,hx⟩:∃x,ls[i]?=some x:=⟨ls[i],List.getElem?_eq_getElem kY⟩
  obtain⟨cv,mO,hb⟩:=pj i x hx
  obtain⟨b0,o0,c0,pq⟩:=dK.some (by intro h;rw[h]at mO;simp at mO)
  simp only[Value.slice.injEq]at pq
  obtain⟨rfl,-,rfl⟩:=pq
  refine go ?_
  refine bK i zr zr zr zr zr zr zr zr kY ?_
  obtain⟨ax,cx,rfl,hcx⟩:=hb.2
  have oL:(ls.take (i+1)).flatten.length=(ls.take i).flatten.length+x.length:=by rw[List.take_add_one,hx];simp
  have hle:=xp ls (i+1)
  refine bg 0 i zr zr zr dK rfl mO zr zr ?_
  refine go ?_
  ((refine bB 3 ((.int .i64 (((ls.take (i+1)).flatten.length:Nat):Int))) rfl ((congrArg (Value.int .i64) ah)) ?_))
  refine aL ih (i+1) rfl ah ah cu ad
 intro fq
 have gw:i=ls.length:=by omega
 subst gw
 rw[List.take_length]
 ((refine go ?_;(refine ai zr zr zr zr (Py ls.flatten.length hl) ad ?_ bG)))
 rintro gv _ rfl
 ((refine aJ 0 rfl ?_))
 rintro ga gc rfl
 refine go ?_
 refine bu (fun i:Value × Nat=>i.2≤ls.length) (fun i=>ls.length-i.2)
  (fun i=>[(0,.slice a ls.length c),(25,.slice a ls.length c),(26,.int .i64 (ls.length:Int)),(27,.int .i64 (i.2:Int)),(6,i.1)])
  (fun i=>aB 5 1 i.1 (ls.take i.2).flatten.length (bV (ls.take i.2).flatten)::A::F) (.slice ga 0 gc,0) (Nat.zero_le _) rfl cu ad ?_
 rintro⟨v,i⟩ hi ih
 simp only at hi
 refine go ?_
 refine au zr zr ?_ ?_
 ·intro cW
  simp only at cW
  have kY:i<ls.length:=by omega
  obtain⟨x,hx⟩:∃x,ls[i]?=some x:=⟨ls[i],List.getElem?_eq_getElem kY⟩
  obtain⟨cv,mO,hb⟩:=pj i x hx
  obtain⟨b0,o0,c0,pq⟩:=dK.some (by intro h;rw[h]at mO;simp at mO)
  simp only[Value.slice.injEq]at pq
  obtain⟨rfl,-,rfl⟩:=pq
  refine go ?_
  refine bK i zr zr zr zr zr zr zr zr kY ?_
  obtain⟨ax,cx,rfl,hcx⟩:=hb.2
  have oL:(ls.take (i+1)).flatten=(ls.take i).flatten++x:=by rw[List.take_add_one,hx];simp
  have gb:(ls.take (i+1)).flatten.length=(ls.take i).flatten.length+x.length:=by rw[oL,List.length_append]
  have hle:=xp ls (i+1)
  refine bg 1 i zr zr zr dK rfl mO zr zr ?_
  ((refine aJ 0 rfl ?_))
  intro av cv oK
  simp only at oK
  subst oK
  refine go ?_
  refine aO (mm:=x.length) (news:=bV x) 0 1 zr zr zr zr zr zr zr zr zr zr zr zr hb.1 (by show _=_*1;rw[bt];omega) (cR _) (by simp only;omega) (by show(_+_)*1≤_;simp only;omega) (fun _=>rfl) bz ?_
  intro v1
  simp only
  rw[show bV (ls.take i).flatten++bV x=bV (ls.take (i+1)).flatten from by rw[oL];simp[bV],← gb]
  refine go ?_
  refine aL ih (v1,i+1) rfl (by simp only;omega) (by simp only;omega) cu ad
 intro fq
 simp only at fq
 have gw:i=ls.length:=by omega
 subst gw
 rw[List.take_length]
 ((refine dv 0 rfl ?_))
 intro av cv oK
 simp only at oK
 subst oK
 refine go ?_
 ((refine ae hE Tryz.func191 rfl _ zr zr ad))
theorem Jg{σ:Type}(I:σ→HP)(V:HP)(v:Value)(kV:List Value)(hv:Vw V v kV.length kV)(hn:kV.length≤1000000000)(ss:List (σ→Nat→σ→Prop))(hlen:ss.length=kV.length)(Q:Nat→σ→Prop)(cF:∀(i:Nat) (fv:Value) (s:σ→Nat→σ→Prop),kV[i]?=some fv→ss[i]?=some s→∃g fi cap,fv = .func (.func g) fi cap∧∀x,Q i x→aD Tryz.prog g (fi.toList++cap.toList) [I x] (fun r H=>∃(e:Nat) (x':σ),r = .int .i64 (e:Int)∧H=[I x']∧s x e x'∧(e=0→Q (i+1) x')))(x0:σ)(hQ:Q 0 x0) :
  aD Tryz.prog 151 [v] [V,I x0] (fun r H=>∃(e:Nat) (x':σ),r = .int .i64 (e:Int)∧H=[V,I x']∧iA ss x0 e x'):=by
 obtain⟨a,c,rfl⟩:=hv.shape
 refine aD.enter Tryz.func151 ak rfl Tryz.ntmps151 zr zr ?_
 intro G F R hE
 refine go ?_
 refine bu (fun y:Nat × σ=>y.1≤kV.length∧Q y.1 y.2∧∀e x',iA (ss.drop y.1) y.2 e x'→iA ss x0 e x') (fun y=>kV.length-y.1)
  (fun y=>[(0,.slice a kV.length c),(6,.slice a kV.length c),(7,.int .i64 (kV.length:Int)),(8,.int .i64 (y.1:Int))])
  (fun y=>V::I y.2::F) (0,x0) ⟨Nat.zero_le _,hQ,fun _ _ h=>h⟩ rfl cu ad ?_
 rintro⟨i,x⟩⟨hi,hq,hr⟩ ih
 simp only at hi hq hr
 refine go ?_
 refine au zr zr ?_ ?_
 ·intro cW
  simp only at cW
  have kY:i<kV.length:=by omega
  obtain⟨fv,mB⟩:∃fv,kV[i]?=some fv:=⟨kV[i],List.getElem?_eq_getElem kY⟩
  obtain⟨s,hs⟩:∃s,ss[i]?=some s:=⟨ss[i],List.getElem?_eq_getElem ah⟩
  obtain⟨g,fi,cap,rfl,hc⟩:=cF i fv s mB hs
  have lX:ss.drop i=s::ss.drop (i+1):=by
   rw[List.drop_eq_getElem_cons ah]
   congr 1
   have:=List.getElem?_eq_some_iff.1 hs
   exact this.2
  obtain⟨b0,o0,c0,pq⟩:=hv.some (by intro h;rw[h]at kY;simp at kY)
  simp only[Value.slice.injEq]at pq
  obtain⟨rfl,-,rfl⟩:=pq
  refine go ?_
  refine bK i zr zr zr zr zr zr zr zr kY ?_
  refine bg 0 i zr zr zr hv rfl mB zr zr ?_
  refine go ?_
  refine wL zr zr zr (by simp) (hc x hq) ad ?_ bG
  rintro _ _⟨e,x',rfl,rfl,Kv,PR⟩
  refine go ?_
  refine au zr zr ?_ ?_
  ·intro bT
   have he:e≠0:=by omega
   refine go ?_
   ((refine ae hE Tryz.func151 rfl _ rfl ⟨e,x',rfl,rfl,hr e x' (by rw[lX];exact⟨e,x',Kv,.inl ⟨he,rfl,rfl⟩⟩)⟩ ad))
  ·intro heq
   have he:e=0:=by omega
   refine go ?_
   refine aL ih (i+1,x') rfl (⟨by simp only;omega,PR he,fun e2 x2 h2=>hr e2 x2 (by rw[lX];exact⟨e,x',Kv,.inr ⟨he,h2⟩⟩)⟩) (by simp only;omega) cu ad
 ·intro fq
  simp only at fq
  have gw:i=kV.length:=by omega
  subst gw
  refine go ?_
  ((refine ae hE Tryz.func151 rfl _ rfl ⟨0,x,rfl,rfl,hr 0 x (by rw[List.drop_eq_nil_of_le ah];exact⟨rfl,rfl⟩)⟩ ad))
attribute [local irreducible] aC
theorem M7(bd jb xj xf xw xb:Nat)(name fresh:ByteArray)(wa ba:Option Addr)(wc bl bc:Nat)(whole:List UInt8)(br:Bool)(A:Ab)(n s c:Int)(cF:A.aq.length≤1000000000) :
  aD Tryz.prog 192 [ptr xj,ptr xf] ([aC bd A,ag jb (cl [ptr bd,.string name,.int .i64 n,.int .i64 s,.int .i64 c,.bool br] 186),ag xj (cl [ptr jb] 85),ag xf (cl [.string fresh] 9),ag xw (cl [.slice wa whole.length wc] 22),ag xb (cl [.slice ba bl bc] 22),aB 5 1 (.slice wa whole.length wc) whole.length (bV whole)]) (fun r H=>∃(e:Nat) (A1:Ab),e=(A.remove (isName fresh) fresh).1∧A1=(A.remove (isName fresh) fresh).2∧r = .int .i64 (e:Int)∧H=[aC bd A1,ag jb (cl [ptr bd,.string name,.int .i64 n,.int .i64 s,.int .i64 c,.bool br] 186),ag xj (cl [ptr jb] 85),ag xf (cl [.string fresh] 9),ag xw (cl [.slice wa whole.length wc] 22),ag xb (cl [.slice ba bl bc] 22),aB 5 1 (.slice wa whole.length wc) whole.length (bV whole)]):=by
 refine aD.enter Tryz.func192 ak rfl Tryz.ntmps192 zr zr ?_
 intro G F R hE
 refine go ?_
 refine aF (fun w=>Sat G w ([ag jb (cl [ptr bd,.string name,.int .i64 n,.int .i64 s,.int .i64 c,.bool br] 186),ag xj (cl [ptr jb] 85),ag xf (cl [.string fresh] 9),ag xw (cl [.slice wa whole.length wc] 22),aB 5 1 (.slice wa whole.length wc) whole.length (bV whole)])) (.st 0 (.st 1 (.st 2 (.st 3 (.st 4 (.act 5 (.st 6 .nil))))))) rfl ak ak ak ei ?_
 refine go ?_
 ((refine ai rfl rfl rfl rfl (uZ bd A fresh cF) ad ?_ jg))
 rintro _ _⟨rfl,rfl⟩
 refine go ?_
 ((refine ae hE Tryz.func192 rfl _ rfl ⟨_,_,rfl,rfl,rfl,rfl⟩ ad))
theorem M5(bd jb xj xf xw xb:Nat)(name fresh:ByteArray)(wa ba:Option Addr)(wc bl bc:Nat)(whole:List UInt8)(br:Bool)(A:Ab)(n s c:Int)(cF:A.aq.length≤1000000000) :
  aD Tryz.prog 193 [ptr xj,ptr xf] ([aC bd A,ag jb (cl [ptr bd,.string name,.int .i64 n,.int .i64 s,.int .i64 c,.bool br] 186),ag xj (cl [ptr jb] 85),ag xf (cl [.string fresh] 9),ag xw (cl [.slice wa whole.length wc] 22),ag xb (cl [.slice ba bl bc] 22),aB 5 1 (.slice wa whole.length wc) whole.length (bV whole)]) (fun r H=>∃(e:Nat) (A1:Ab),(∃f,f ∉ A.fs.map (·.1)∧e=(A.create (isName fresh) fresh f).1∧A1=(A.create (isName fresh) fresh f).2)∧r = .int .i64 (e:Int)∧H=[aC bd A1,ag jb (cl [ptr bd,.string name,.int .i64 n,.int .i64 s,.int .i64 c,.bool br] 186),ag xj (cl [ptr jb] 85),ag xf (cl [.string fresh] 9),ag xw (cl [.slice wa whole.length wc] 22),ag xb (cl [.slice ba bl bc] 22),aB 5 1 (.slice wa whole.length wc) whole.length (bV whole)]):=by
 refine aD.enter Tryz.func193 ak rfl Tryz.ntmps193 zr zr ?_
 intro G F R hE
 refine go ?_
 refine aF (fun w=>Sat G w ([ag jb (cl [ptr bd,.string name,.int .i64 n,.int .i64 s,.int .i64 c,.bool br] 186),ag xj (cl [ptr jb] 85),ag xf (cl [.string fresh] 9),ag xw (cl [.slice wa whole.length wc] 22),aB 5 1 (.slice wa whole.length wc) whole.length (bV whole)])) (.st 0 (.st 1 (.st 2 (.st 3 (.st 4 (.act 5 (.st 6 .nil))))))) rfl ak ak ak ei ?_
 refine go ?_
 ((refine ai rfl rfl rfl rfl (u4 bd A fresh cF) ad ?_ (fun _ _ w hp hw=>by obtain⟨_,_,rfl,_⟩:=hp;exact hw.cy ad)))
 rintro _ _⟨f,hf,rfl,rfl⟩
 refine go ?_
 ((refine ae hE Tryz.func193 rfl _ rfl ⟨_,_,⟨f,hf,rfl,rfl⟩,rfl,rfl⟩ ad))
theorem M3(bd jb xj xf xw xb:Nat)(name fresh:ByteArray)(wa ba:Option Addr)(wc bl bc:Nat)(whole:List UInt8)(br:Bool)(A:Ab)(n s c:Int)(eH:A.writes.length≤1000000000)(iD:whole.length≤1000000000) :
  aD Tryz.prog 194 [ptr xj,ptr xf,ptr xw] ([aC bd A,ag jb (cl [ptr bd,.string name,.int .i64 n,.int .i64 s,.int .i64 c,.bool br] 186),ag xj (cl [ptr jb] 85),ag xf (cl [.string fresh] 9),ag xw (cl [.slice wa whole.length wc] 22),ag xb (cl [.slice ba bl bc] 22),aB 5 1 (.slice wa whole.length wc) whole.length (bV whole)]) (fun r H=>∃(e:Nat) (A1:Ab),e=(A.write (fK fresh 0 whole) fresh 0 whole).1∧A1=(A.write (fK fresh 0 whole) fresh 0 whole).2∧r = .int .i64 (e:Int)∧H=[aC bd A1,ag jb (cl [ptr bd,.string name,.int .i64 n,.int .i64 s,.int .i64 c,.bool br] 186),ag xj (cl [ptr jb] 85),ag xf (cl [.string fresh] 9),ag xw (cl [.slice wa whole.length wc] 22),ag xb (cl [.slice ba bl bc] 22),aB 5 1 (.slice wa whole.length wc) whole.length (bV whole)]):=by
 refine aD.enter Tryz.func194 ak rfl Tryz.ntmps194 zr zr ?_
 intro G F R hE
 refine go ?_
 refine aF (fun w=>Sat G w ([ag jb (cl [ptr bd,.string name,.int .i64 n,.int .i64 s,.int .i64 c,.bool br] 186),ag xj (cl [ptr jb] 85),ag xf (cl [.string fresh] 9),ag xw (cl [.slice wa whole.length wc] 22),aB 5 1 (.slice wa whole.length wc) whole.length (bV whole)])) (.st 0 (.st 1 (.st 2 (.st 3 (.st 4 (.st 5 (.act 6 (.st 7 .nil)))))))) rfl ak ak ak ei ?_
 refine go ?_
 refine iL 6 rfl ?_
 intro dK
 refine go ?_
 refine aK ?_
 refine lH 3 zr zr zr zr zr zr ?_
 refine go ?_
 ((refine ai rfl rfl rfl rfl (tN bd A fresh 0 _ _ whole dK eH iD ah) ad ?_ jg))
 rintro _ _⟨rfl,rfl⟩
 refine go ?_
 ((refine ae hE Tryz.func194 rfl _ rfl ⟨_,_,rfl,rfl,rfl,rfl⟩ ad))
theorem M0(bd jb xj xf xw xb:Nat)(name fresh:ByteArray)(wa ba:Option Addr)(wc bl bc:Nat)(whole:List UInt8)(br:Bool)(A:Ab)(n s c:Int)(eH:A.writes.length≤1000000000) :
  aD Tryz.prog 195 [ptr xj,ptr xf] ([aC bd A,ag jb (cl [ptr bd,.string name,.int .i64 n,.int .i64 s,.int .i64 c,.bool br] 186),ag xj (cl [ptr jb] 85),ag xf (cl [.string fresh] 9),ag xw (cl [.slice wa whole.length wc] 22),ag xb (cl [.slice ba bl bc] 22),aB 5 1 (.slice wa whole.length wc) whole.length (bV whole)]) (fun r H=>∃(e:Nat) (A1:Ab),e=(A.sync (isName fresh) fresh).1∧A1=(A.sync (isName fresh) fresh).2∧r = .int .i64 (e:Int)∧H=[aC bd A1,ag jb (cl [ptr bd,.string name,.int .i64 n,.int .i64 s,.int .i64 c,.bool br] 186),ag xj (cl [ptr jb] 85),ag xf (cl [.string fresh] 9),ag xw (cl [.slice wa whole.length wc] 22),ag xb (cl [.slice ba bl bc] 22),aB 5 1 (.slice wa whole.length wc) whole.length (bV whole)]):=by
 refine aD.enter Tryz.func195 ak rfl Tryz.ntmps195 zr zr ?_
 intro G F R hE
 refine go ?_
 refine aF (fun w=>Sat G w ([ag jb (cl [ptr bd,.string name,.int .i64 n,.int .i64 s,.int .i64 c,.bool br] 186),ag xj (cl [ptr jb] 85),ag xf (cl [.string fresh] 9),ag xw (cl [.slice wa whole.length wc] 22),aB 5 1 (.slice wa whole.length wc) whole.length (bV whole)])) (.st 0 (.st 1 (.st 2 (.st 3 (.st 4 (.act 5 (.st 6 .nil))))))) rfl ak ak ak ei ?_
 refine go ?_
 ((refine ai rfl rfl rfl rfl (tO bd A fresh eH) ad ?_ jg))
 rintro _ _⟨rfl,rfl⟩
 refine go ?_
 ((refine ae hE Tryz.func195 rfl _ rfl ⟨_,_,rfl,rfl,rfl,rfl⟩ ad))
theorem MY(bd jb xj xf xw xb:Nat)(name fresh:ByteArray)(wa ba:Option Addr)(wc bl bc:Nat)(whole:List UInt8)(br:Bool)(A:Ab)(n s c:Int)(cF:A.aq.length≤1000000000) :
  aD Tryz.prog 196 [ptr xj,ptr xf] ([aC bd A,ag jb (cl [ptr bd,.string name,.int .i64 n,.int .i64 s,.int .i64 c,.bool br] 186),ag xj (cl [ptr jb] 85),ag xf (cl [.string fresh] 9),ag xw (cl [.slice wa whole.length wc] 22),ag xb (cl [.slice ba bl bc] 22),aB 5 1 (.slice wa whole.length wc) whole.length (bV whole)]) (fun r H=>∃(e:Nat) (A1:Ab),e=(A.rename ([fresh,name].all isName) fresh name).1∧A1=(A.rename ([fresh,name].all isName) fresh name).2∧r = .int .i64 (e:Int)∧H=[aC bd A1,ag jb (cl [ptr bd,.string name,.int .i64 n,.int .i64 s,.int .i64 c,.bool br] 186),ag xj (cl [ptr jb] 85),ag xf (cl [.string fresh] 9),ag xw (cl [.slice wa whole.length wc] 22),ag xb (cl [.slice ba bl bc] 22),aB 5 1 (.slice wa whole.length wc) whole.length (bV whole)]):=by
 refine aD.enter Tryz.func196 ak rfl Tryz.ntmps196 zr zr ?_
 intro G F R hE
 refine go ?_
 refine aF (fun w=>Sat G w ([ag jb (cl [ptr bd,.string name,.int .i64 n,.int .i64 s,.int .i64 c,.bool br] 186),ag xj (cl [ptr jb] 85),ag xf (cl [.string fresh] 9),ag xw (cl [.slice wa whole.length wc] 22),aB 5 1 (.slice wa whole.length wc) whole.length (bV whole)])) (.st 0 (.st 1 (.st 2 (.st 3 (.st 4 (.st 5 (.st 6 (.st 7 (.st 8 (.act 9 (.st 10 .nil))))))))))) rfl ak ak ak ei ?_
 refine go ?_
 ((refine ai rfl rfl rfl rfl (Bb bd A fresh name cF) ad ?_ jg))
 rintro _ _⟨rfl,rfl⟩
 refine go ?_
 ((refine ae hE Tryz.func196 rfl _ rfl ⟨_,_,rfl,rfl,rfl,rfl⟩ ad))
theorem MW(bd jb xj xf xw xb:Nat)(name fresh:ByteArray)(wa ba:Option Addr)(wc bl bc:Nat)(whole:List UInt8)(br:Bool)(A:Ab)(n s c:Int) :
  aD Tryz.prog 197 [ptr xb,ptr xj] ([aC bd A,ag jb (cl [ptr bd,.string name,.int .i64 n,.int .i64 s,.int .i64 c,.bool br] 186),ag xj (cl [ptr jb] 85),ag xf (cl [.string fresh] 9),ag xw (cl [.slice wa whole.length wc] 22),ag xb (cl [.slice ba bl bc] 22),aB 5 1 (.slice wa whole.length wc) whole.length (bV whole)]) (fun r H=>r = .int .i64 0∧H=[aC bd A,ag jb (cl [ptr bd,.string name,.int .i64 1,.int .i64 (bl:Int),.int .i64 (bl:Int),.bool br] 186),ag xj (cl [ptr jb] 85),ag xf (cl [.string fresh] 9),ag xw (cl [.slice wa whole.length wc] 22),ag xb (cl [.slice ba bl bc] 22),aB 5 1 (.slice wa whole.length wc) whole.length (bV whole)]):=by
 refine aD.enter Tryz.func197 ak rfl Tryz.ntmps197 zr zr ?_
 intro G F R hE
 refine go ?_
 refine aF (fun w=>Sat G w ([ag xj (cl [ptr jb] 85),ag xb (cl [.slice ba bl bc] 22)])) (.st 0 (.st 1 (.st 2 (.st 3 (.st 4 (.st 5 (.st 6 (.st 7 (.st 8 (.act 9 (.st 10 (.st 11 (.act 12 (.st 13 (.st 14 (.act 15 .nil)))))))))))))))) rfl ak ak ak ei ?_
 refine go ?_
 refine aT ?_
 refine bZ 1 (fun w hw=>by exact hw.cy ad) zr zr zr zr zr zr zr zr zr ?_
 refine go ?_
 refine aT ?_
 refine bZ 1 (fun w hw=>by exact hw.cy ad) zr zr zr zr zr zr zr zr zr ?_
 refine go ?_
 ((refine ae hE Tryz.func197 rfl _ rfl ⟨rfl,rfl⟩ ad))
end Go.Proofs.YtedjnjkijiddlaaGreatDoor
namespace Go.Proofs.YtedjnjkijiddlaaGreatDoor
open Go Go.SL
abbrev PS:=Ab × Int × Int × Int
def RR(g:Ab→Nat→Ab→Prop)(x:PS)(e:Nat)(y:PS):Prop:=g x.1 e y.1∧y.2=x.2
def Bw(fresh:ByteArray):=RR fun A e B=>e=(A.remove (isName fresh) fresh).1∧B=(A.remove (isName fresh) fresh).2
def Bx(fresh:ByteArray):=RR fun A e B=>∃f,f ∉ A.fs.map (·.1)∧e=(A.create (isName fresh) fresh f).1∧B=(A.create (isName fresh) fresh f).2
def Gb(fresh:ByteArray)(whole:List UInt8):=RR fun A e B=>e=(A.write (fK fresh 0 whole) fresh 0 whole).1∧B=(A.write (fK fresh 0 whole) fresh 0 whole).2
def MF(fresh:ByteArray):=RR fun A e B=>e=(A.sync (isName fresh) fresh).1∧B=(A.sync (isName fresh) fresh).2
def Bv(fresh name:ByteArray):=RR fun A e B=>e=(A.rename ([fresh,name].all isName) fresh name).1∧B=(A.rename ([fresh,name].all isName) fresh name).2
def Gc:=RR fun A e B=>e=A.cf.1∧B=A.cf.2
def V3(bl:Nat)(x:PS)(e:Nat)(y:PS):Prop:=e=0∧y=(x.1,1,(bl:Int),(bl:Int))
def bI(name:ByteArray):ByteArray:=name++⟨#[46,110,101,119]⟩
def bX(ls:List (List UInt8)):List UInt8:=List.replicate 16 0++bU 1 (ls.flatMap aR).length++ls.flatMap aR
def gn(name:ByteArray)(ls:List (List UInt8))(A:Ab):List (PS→Nat→PS→Prop) :=
 (if(A.size (bI name)).2=0 then [Bw (bI name)]else []) ++
 [Bx (bI name),Gb (bI name) (bX ls),MF (bI name),Bv (bI name) name,Gc,V3 (ls.flatMap aR).length]
def zQ(name:ByteArray)(ls:List (List UInt8))(x:PS)(e:Nat)(y:PS):Prop:=iA (gn name ls x.1) x e y
attribute [local irreducible] J K aD Ends ag aB aM bN aZ aP aV bh bW aC
theorem _root_.Go.SL.ao.lJ(l:List HP):ao [Sep l] l:=by have:=ao.cB l [];rwa[List.append_nil]at this
theorem _root_.Go.SL.ao.lN(l:List HP):ao l [Sep l]:=by have:=ao.bP l [];rwa[List.append_nil]at this
def PI(bd jb xj xf xw xb:Nat)(name fresh:ByteArray)(wa ba:Option Addr)(wc bl bc:Nat)(whole:List UInt8)(br:Bool)(x:PS):HP:=Sep [aC bd x.1,ag jb (cl [ptr bd,.string name,.int .i64 x.2.1,.int .i64 x.2.2.1,.int .i64 x.2.2.2,.bool br] 186),ag xj (cl [ptr jb] 85),ag xf (cl [.string fresh] 9),ag xw (cl [.slice wa whole.length wc] 22),ag xb (cl [.slice ba bl bc] 22),aB 5 1 (.slice wa whole.length wc) whole.length (bV whole)]
def PQ(i:Nat)(x:PS):Prop:=x.1.aq.length≤900000000+i∧x.1.writes.length≤900000000+i
theorem PQ.next{i:Nat}{x:PS}(h:PQ i x){B:Ab}(g:jV x.1 B):PQ (i+1) (B,x.2):=by
 obtain⟨h1,h2⟩:=h
 obtain⟨g1,g2⟩:=g
 exact⟨by simp only;omega,by simp only;omega⟩
end Go.Proofs.YtedjnjkijiddlaaGreatDoor
namespace Go.Proofs.YtedjnjkijiddlaaGreatDoor
open Go Go.SL
theorem Lb{P:Program}{f:FuncId}{args:List Value}{Pre:List HP}{Post:Value→List HP→Prop}(X:List HP)(c:aD P f args Pre Post):aD P f args (Pre++X) (fun v H=>∃H',Post v H'∧H=H'++X) :=
 ⟨c.1,fun G w F hw=>(c.2 G w (X++F) (by rw[List.append_assoc]at hw;exact hw)).mono fun e w' h'=>let ⟨v,H,he,QR,hs⟩:=h';⟨v,H++X,he,⟨H,QR,rfl⟩,by rw[List.append_assoc];exact hs⟩⟩
attribute [local irreducible] J K aD Ends ag aB aM bN aZ aP aV bh bW aC
theorem V8(bd jb xj xf xw xb:Nat)(name fresh:ByteArray)(wa ba:Option Addr)(wc bl bc:Nat)(whole:List UInt8)(br:Bool)(i:Nat)(hi:i≤10)(x:PS)(hq:PQ i x) :
  aD Tryz.prog 192 [ptr xj,ptr xf] [PI bd jb xj xf xw xb name fresh wa ba wc bl bc whole br x] (fun r H=>∃(e:Nat) (x':PS),r = .int .i64 (e:Int)∧H=[PI bd jb xj xf xw xb name fresh wa ba wc bl bc whole br x']∧Bw fresh x e x'∧(e=0→PQ (i+1) x')) :=
 (M7 bd jb xj xf xw xb name fresh wa ba wc bl bc whole br x.1 x.2.1 x.2.2.1 x.2.2.2 (by have:=hq.1;omega)).conv (ao.lJ _) (by
  rintro v H⟨e,A1,he,sm,rfl,rfl⟩
  exact⟨_,⟨_,(A1,x.2),rfl,rfl,⟨⟨he,sm⟩,rfl⟩,fun _=>hq.next (sm ▸ p8 _ _ _)⟩,ao.lN _⟩)
theorem M6(bd jb xj xf xw xb:Nat)(name fresh:ByteArray)(wa ba:Option Addr)(wc bl bc:Nat)(whole:List UInt8)(br:Bool)(i:Nat)(hi:i≤10)(x:PS)(hq:PQ i x) :
  aD Tryz.prog 193 [ptr xj,ptr xf] [PI bd jb xj xf xw xb name fresh wa ba wc bl bc whole br x] (fun r H=>∃(e:Nat) (x':PS),r = .int .i64 (e:Int)∧H=[PI bd jb xj xf xw xb name fresh wa ba wc bl bc whole br x']∧Bx fresh x e x'∧(e=0→PQ (i+1) x')) :=
 (M5 bd jb xj xf xw xb name fresh wa ba wc bl bc whole br x.1 x.2.1 x.2.2.1 x.2.2.2 (by have:=hq.1;omega)).conv (ao.lJ _) (by
  rintro v H⟨e,A1,⟨f,hf,he,sm⟩,rfl,rfl⟩
  exact⟨_,⟨_,(A1,x.2),rfl,rfl,⟨⟨f,hf,he,sm⟩,rfl⟩,fun _=>hq.next (sm ▸ p9 _ _ _ _)⟩,ao.lN _⟩)
theorem M4(bd jb xj xf xw xb:Nat)(name fresh:ByteArray)(wa ba:Option Addr)(wc bl bc:Nat)(whole:List UInt8)(br:Bool)(i:Nat)(hi:i≤10)(iD:whole.length≤1000000000)(x:PS)(hq:PQ i x) :
  aD Tryz.prog 194 [ptr xj,ptr xf,ptr xw] [PI bd jb xj xf xw xb name fresh wa ba wc bl bc whole br x] (fun r H=>∃(e:Nat) (x':PS),r = .int .i64 (e:Int)∧H=[PI bd jb xj xf xw xb name fresh wa ba wc bl bc whole br x']∧Gb fresh whole x e x'∧(e=0→PQ (i+1) x')) :=
 (M3 bd jb xj xf xw xb name fresh wa ba wc bl bc whole br x.1 x.2.1 x.2.2.1 x.2.2.2 (by have:=hq.2;omega) iD).conv (ao.lJ _) (by
  rintro v H⟨e,A1,he,sm,rfl,rfl⟩
  exact⟨_,⟨_,(A1,x.2),rfl,rfl,⟨⟨he,sm⟩,rfl⟩,fun _=>hq.next (sm ▸ km _ _ _ _ _)⟩,ao.lN _⟩)
theorem M1(bd jb xj xf xw xb:Nat)(name fresh:ByteArray)(wa ba:Option Addr)(wc bl bc:Nat)(whole:List UInt8)(br:Bool)(i:Nat)(hi:i≤10)(x:PS)(hq:PQ i x) :
  aD Tryz.prog 195 [ptr xj,ptr xf] [PI bd jb xj xf xw xb name fresh wa ba wc bl bc whole br x] (fun r H=>∃(e:Nat) (x':PS),r = .int .i64 (e:Int)∧H=[PI bd jb xj xf xw xb name fresh wa ba wc bl bc whole br x']∧MF fresh x e x'∧(e=0→PQ (i+1) x')) :=
 (M0 bd jb xj xf xw xb name fresh wa ba wc bl bc whole br x.1 x.2.1 x.2.2.1 x.2.2.2 (by have:=hq.2;omega)).conv (ao.lJ _) (by
  rintro v H⟨e,A1,he,sm,rfl,rfl⟩
  exact⟨_,⟨_,(A1,x.2),rfl,rfl,⟨⟨he,sm⟩,rfl⟩,fun _=>hq.next (sm ▸ ko _ _ _)⟩,ao.lN _⟩)
theorem MZ(bd jb xj xf xw xb:Nat)(name fresh:ByteArray)(wa ba:Option Addr)(wc bl bc:Nat)(whole:List UInt8)(br:Bool)(i:Nat)(hi:i≤10)(x:PS)(hq:PQ i x) :
  aD Tryz.prog 196 [ptr xj,ptr xf] [PI bd jb xj xf xw xb name fresh wa ba wc bl bc whole br x] (fun r H=>∃(e:Nat) (x':PS),r = .int .i64 (e:Int)∧H=[PI bd jb xj xf xw xb name fresh wa ba wc bl bc whole br x']∧Bv fresh name x e x'∧(e=0→PQ (i+1) x')) :=
 (MY bd jb xj xf xw xb name fresh wa ba wc bl bc whole br x.1 x.2.1 x.2.2.1 x.2.2.2 (by have:=hq.1;omega)).conv (ao.lJ _) (by
  rintro v H⟨e,A1,he,sm,rfl,rfl⟩
  exact⟨_,⟨_,(A1,x.2),rfl,rfl,⟨⟨he,sm⟩,rfl⟩,fun _=>hq.next (sm ▸ p7 _ _ _ _)⟩,ao.lN _⟩)
theorem MU(bd jb xj xf xw xb:Nat)(name fresh:ByteArray)(wa ba:Option Addr)(wc bl bc:Nat)(whole:List UInt8)(br:Bool)(i:Nat)(x:PS)(hq:PQ i x) :
  aD Tryz.prog 75 [ptr bd] [PI bd jb xj xf xw xb name fresh wa ba wc bl bc whole br x] (fun r H=>∃(e:Nat) (x':PS),r = .int .i64 (e:Int)∧H=[PI bd jb xj xf xw xb name fresh wa ba wc bl bc whole br x']∧Gc x e x'∧(e=0→PQ (i+1) x')) :=
 (Lb ([aC bd x.1,ag jb (cl [ptr bd,.string name,.int .i64 x.2.1,.int .i64 x.2.2.1,.int .i64 x.2.2.2,.bool br] 186),ag xj (cl [ptr jb] 85),ag xf (cl [.string fresh] 9),ag xw (cl [.slice wa whole.length wc] 22),ag xb (cl [.slice ba bl bc] 22),aB 5 1 (.slice wa whole.length wc) whole.length (bV whole)].drop 1) (oY bd x.1)).conv (ao.lJ _) (by
  rintro v H⟨_,⟨rfl,rfl⟩,rfl⟩
  exact⟨_,⟨_,(x.1.cf.2,x.2),rfl,rfl,⟨⟨rfl,rfl⟩,rfl⟩,fun _=>hq.next (jP _)⟩,ao.lN _⟩)
theorem MX(bd jb xj xf xw xb:Nat)(name fresh:ByteArray)(wa ba:Option Addr)(wc bl bc:Nat)(whole:List UInt8)(br:Bool)(i:Nat)(x:PS)(hq:PQ i x) :
  aD Tryz.prog 197 [ptr xb,ptr xj] [PI bd jb xj xf xw xb name fresh wa ba wc bl bc whole br x] (fun r H=>∃(e:Nat) (x':PS),r = .int .i64 (e:Int)∧H=[PI bd jb xj xf xw xb name fresh wa ba wc bl bc whole br x']∧V3 bl x e x'∧(e=0→PQ (i+1) x')) :=
 (MW bd jb xj xf xw xb name fresh wa ba wc bl bc whole br x.1 x.2.1 x.2.2.1 x.2.2.2).conv (ao.lJ _) (by
  rintro v H⟨rfl,rfl⟩
  exact⟨_,⟨0,(x.1,1,(bl:Int),(bl:Int)),rfl,rfl,⟨rfl,rfl⟩,fun _=>⟨by have:=hq.1;simp only;omega,by have:=hq.2;simp only;omega⟩⟩,ao.lN _⟩)
def jr(jb bd:Nat)(name:ByteArray)(n s c:Int)(br:Bool):HP:=ag jb (cl [ptr bd,.string name,.int .i64 n,.int .i64 s,.int .i64 c,.bool br] 186)
theorem AS{ls:List (List UInt8)}{i:Nat}{x:List UInt8}(h:ls[i]?=some x):(ls.take (i+1)).flatMap aR=(ls.take i).flatMap aR++aR x:=by
 rw[List.take_add_one,h];simp
theorem I0(ls:List (List UInt8))(i:Nat):((ls.take i).flatMap aR).length≤(ls.flatMap aR).length:=by
 conv=>rhs;rw[← List.take_append_drop i ls,List.flatMap_append,List.length_append]
 omega
set_option maxRecDepth 20000 in
theorem Ik(jb bd:Nat)(name:ByteArray)(n s c:Int)(br:Bool)(A:Ab)(V:HP)(lv:Value)(ls:List (List UInt8))(hv:rM V lv ls)(hl:(ls.flatMap aR).length≤500000000)(vS:ls.length≤1000000000)(IP:name.size≤1000000000)(cF:A.aq.length≤900000000)(pQ:A.writes.length≤900000000) :
    aD Tryz.prog 133 [ptr jb,lv] [aC bd A,jr jb bd name n s c br,V]
      (fun r H=>∃(e:Nat) (y:PS),r = .int .i64 (e:Int)∧H=[aC bd y.1,jr jb bd name y.2.1 y.2.2.1 y.2.2.2 br,V]∧zQ name ls (A,n,s,c) e y):=by
  obtain⟨cs,dK,ln,⟨a,cc,rfl,hc⟩,pj⟩:=hv
  unfold jr
  refine aD.enter Tryz.func133 ak rfl Tryz.ntmps133 zr zr ?_
  intro G F R hE
  refine go ?_
  refine bC zr zr bz ?_
  intro xj
  refine go ?_
  refine zc zr zr zr (by show name.size+4≤_;omega) ?_
  refine go ?_
  refine az 17 (.string (bI name)) zr zr ?_
  generalize wu:bI name=fresh
  refine aw zr zr zr bz ?_
  intro xf
  refine go ?_
  refine aw zr zr zr bz ?_
  intro xb
  refine go ?_
  refine aj (bJ 5 1 none _) ?_
  refine bu (fun y:Value × Nat=>y.2≤ls.length) (fun y=>ls.length-y.2)
    (fun y=>[(0,ptr jb),(2,ptr xj),(5,ptr xf),(6,ptr xb),(18,.slice a ls.length cc),(19,.int .i64 (ls.length:Int)),(20,.int .i64 (y.2:Int))])
    (fun y=>ag xb (cl [y.1] 22)::aB 5 1 y.1 ((ls.take y.2).flatMap aR).length (bV ((ls.take y.2).flatMap aR))::ag xf (cl [.string fresh] 9)::ag xj (cl [ptr jb] 85)::aC bd A::ag jb (cl [ptr bd,.string name,.int .i64 n,.int .i64 s,.int .i64 c,.bool br] 186)::V::F) (.slice none 0 0,0) (Nat.zero_le _) rfl cu ad ?_
  rintro⟨v,i⟩ hi ih
  simp only at hi
  refine go ?_
  refine au zr zr ?_ ?_
  · intro cW
    simp only at cW
    have kY:i<ls.length:=by omega
    obtain⟨x,hx⟩:∃x,ls[i]?=some x:=⟨ls[i],List.getElem?_eq_getElem kY⟩
    obtain⟨cv,mO,hb⟩:=pj i x hx
    obtain⟨b0,o0,c0,pq⟩:=dK.some (by intro h;rw[h]at mO;simp at mO)
    simp only[Value.slice.injEq]at pq
    obtain⟨rfl,-,rfl⟩:=pq
    refine go ?_
    refine bK i zr zr zr zr zr zr zr zr kY ?_
    obtain⟨ax,cx,rfl,hcx⟩:=hb.2
    have oL:=AS hx
    have gb:((ls.take (i+1)).flatMap aR).length=((ls.take i).flatMap aR).length+(aR x).length:=by rw[oL,List.length_append]
    have hle:=I0 ls (i+1)
    have PJ:x.length≤(aR x).length:=by simp[aR]
    refine bg 6 i zr zr zr dK rfl mO zr zr ?_
    ((refine aJ 1 rfl ?_))
    intro av cv oK
    simp only at oK
    subst oK
    refine go ?_
    refine aF (fun w=>Sat G w ([ag xb (cl [.slice av ((ls.take i).flatMap aR).length cv] 22)])) (.st 0 (.st 1 (.act 2 (.act 3 (.act 4 .nil))))) rfl ak ak ak ei ?_
    refine go ?_
    ((refine ai rfl rfl rfl rfl (qb V _ x hb ah) ad ?_ (fun _ _ w hp hw=>by obtain rfl:=hp;exact hw.cy ad)))
    rintro r _ rfl
    ((refine aJ 0 rfl ?_))
    rintro ra rc rfl
    refine iL 0 rfl ?_
    intro IF
    refine go ?_
    refine aO (mm:=(aR x).length) (news:=bV (aR x)) 3 0 zr zr zr zr zr zr zr zr zr zr zr zr IF (by show _=_*1;rw[bt];omega) (cR _) (by simp only;omega) (by show(_+_)*1≤_;simp only;omega) (fun _=>rfl) (fun _ w hw=>by exact hw.cy ad) ?_
    intro v1
    simp only
    rw[show bV ((ls.take i).flatMap aR)++bV (aR x)=bV ((ls.take (i+1)).flatMap aR)from by rw[oL];simp[bV],← gb]
    ((refine aJ 3 rfl ?_))
    rintro va vc rfl
    refine go ?_
    refine aL ih (.slice va ((ls.take (i+1)).flatMap aR).length vc,i+1) rfl (by simp only;omega) (by simp only;omega) cu ad
  intro fq
  simp only at fq
  have gw:i=ls.length:=by omega
  subst gw
  rw[List.take_length]
  ((refine dv 1 rfl ?_))
  intro av cv oK
  simp only at oK
  subst oK
  obtain⟨B,hB⟩:∃B,B=ls.flatMap aR:=⟨_,rfl⟩
  rw[← hB]at hl ⊢
  have hhl:(bU 1 B.length).length=16:=fL _ _
  have eH:(bX ls)=List.replicate 16 0++bU 1 B.length++B:=by rw[hB];rfl
  obtain⟨W,hW⟩:∃W,W=bX ls:=⟨_,rfl⟩
  rw[← hW]at eH
  have Er:W.length=32+B.length:=by rw[eH];simp only[List.length_append,List.length_replicate,hhl]
  have ac9:∀(m:Nat) (ra:Option Addr) (rc row:Nat),eJ (aB 5 1 (.slice ra (bU 1 B.length).length rc) (bU 1 B.length).length (bV (bU 1 B.length))) (.slice ra (bU 1 B.length).length rc) (bU 1 B.length) →
      eJ (aB 5 1 (.slice av B.length cv) B.length (bV B)) (.slice av B.length cv) B→aD Tryz.prog 191 [.slice (some ⟨row,0,none⟩) 3 3]
      [Sep [ag row (cl [.slice (some ⟨m,0,none⟩) 16 16,.slice ra (bU 1 B.length).length rc,.slice av B.length cv] 22),ag m (cl (bV (List.replicate 16 0)) 5),aB 5 1 (.slice ra (bU 1 B.length).length rc) (bU 1 B.length).length (bV (bU 1 B.length)),aB 5 1 (.slice av B.length cv) B.length (bV B)]]
      (fun r H=>H=[aB 5 1 r W.length (bV W),Sep [ag row (cl [.slice (some ⟨m,0,none⟩) 16 16,.slice ra (bU 1 B.length).length rc,.slice av B.length cv] 22),ag m (cl (bV (List.replicate 16 0)) 5),aB 5 1 (.slice ra (bU 1 B.length).length rc) (bU 1 B.length).length (bV (bU 1 B.length)),aB 5 1 (.slice av B.length cv) B.length (bV B)]]):=by
    intro m ra rc row nK qM
    have nJ:[List.replicate 16 0,bU 1 B.length,B].flatten=W:=by rw[eH];simp only[List.flatten_cons,List.flatten_nil,List.append_nil,List.append_assoc]
    have:=HS (Sep [ag row (cl [.slice (some ⟨m,0,none⟩) 16 16,.slice ra (bU 1 B.length).length rc,.slice av B.length cv] 22),ag m (cl (bV (List.replicate 16 0)) 5),aB 5 1 (.slice ra (bU 1 B.length).length rc) (bU 1 B.length).length (bV (bU 1 B.length)),aB 5 1 (.slice av B.length cv) B.length (bV B)]) (.slice (some ⟨row,0,none⟩) 3 3) [List.replicate 16 0,bU 1 B.length,B]
      ⟨[.slice (some ⟨m,0,none⟩) 16 16,.slice ra (bU 1 B.length).length rc,.slice av B.length cv],(Vw.ag rfl).mono (aW (i:=0) rfl),rfl,⟨_,_,rfl,Nat.le_refl 3⟩,fun i x hx=>by
        match i,hx with
        | 0,hx=>cases hx;exact⟨_,rfl,⟨(Vw.ag (b:=m) (l:=bV (List.replicate 16 0)) (e:=5) rfl).mono (aW (i:=1) rfl),_,_,rfl,by decide⟩⟩
        | 1,hx=>cases hx;exact⟨_,rfl,nK.mono (aW (i:=2) rfl)⟩
        | 2,hx=>cases hx;exact⟨_,rfl,qM.mono (aW (i:=3) rfl)⟩
        | k+3,hx=>simp at hx⟩ (by rw[nJ,Er];omega) (by show 3≤_;omega)
    rw[nJ]at this
    exact this
  refine ql (bs:=B) 1 rfl ?_
  intro qM
  refine iR rfl ?_
  refine E8 1 (fun y:Option Addr × Nat × Nat=>True) (fun y=>[(0,ptr jb),(2,ptr xj),(5,ptr xf),(6,ptr xb),(9,ptr y.2.2)]) (fun y=>ag y.2.2 (cl [.slice y.1 W.length y.2.1] 22)::aB 5 1 (.slice y.1 W.length y.2.1) W.length (bV W)::ag xb (cl [.slice av B.length cv] 22)::ag xf (cl [.string fresh] 9)::ag xj (cl [ptr jb] 85)::aC bd A::ag jb (cl [ptr bd,.string name,.int .i64 n,.int .i64 s,.int .i64 c,.bool br] 186)::V::F) rfl ?_ ?_
  rotate_left
  · intro tail
    refine aF (fun w=>Sat G w ([ag xb (cl [.slice av B.length cv] 22)])) (.st 1 (.st 2 (.st 4 (.fork (.fork (.act 0 (.fork (.act 3 (.fork (.act 5 (.fork (.act 6 (.act 7 (.act 8 .nil))) (.act 7 (.act 6 (.act 8 .nil))))) (.act 7 (.act 5 (.act 6 (.act 8 .nil)))))) (.act 7 (.act 3 (.act 5 (.act 6 (.act 8 .nil))))))) (.act 3 (.fork (.act 0 (.fork (.act 5 (.fork (.act 6 (.act 7 (.act 8 .nil))) (.act 7 (.act 6 (.act 8 .nil))))) (.act 7 (.act 5 (.act 6 (.act 8 .nil)))))) (.act 7 (.act 0 (.act 5 (.act 6 (.act 8 .nil)))))))) (.act 7 (.fork (.act 0 (.act 3 (.act 5 (.act 6 (.act 8 .nil))))) (.act 3 (.act 0 (.act 5 (.act 6 (.act 8 .nil))))))))))) rfl ak ak ak ei ?_
    repeat'(first|refine qt ?_ ?_|(refine mW (U:=aN) (p:=16) (q:=16) zr zr zr zr zr zr zr zr zr ah ah (by show 1*16≤_;omega) (fun _ w hw=>by exact hw.cy ad) ?_;intro m)|(((refine ai rfl rfl rfl rfl (yl 1 B.length ah ah) ad ?_ (fun _ _ w hp hw=>by obtain rfl:=hp;exact hw.cy ad)));rintro _ _ rfl;((refine aJ 0 rfl ?_));rintro ra rc rfl;refine gB (bs:=bU 1 B.length) 0 rfl ?_;intro nK)|(refine al zr zr zr zr zr zr zr zr zr (fun _ w hw=>by exact hw.cy ad) ?_;intro row)|(refine aw zr zr zr (fun _ w hw=>by exact hw.cy ad) ?_;intro x9)|(refine ai rfl rfl rfl rfl (ac9 m ra rc row nK qM) (ao.trans ad (ao.bP [_,_,_,_] _)) ?_ (fun _ _ w hp hw=>by obtain rfl:=hp;exact hw.cy ad);rintro _ _ rfl;((refine aJ 0 rfl ?_));rintro wa wc rfl)|(refine aT ?_;(first|refine bZ 0 gE zr zr zr zr zr zr zr zr zr ?_|refine bZ 2 gE zr zr zr zr zr zr zr zr zr ?_);refine Fg ?_;refine vX tail (wa,wc,x9) rfl trivial cu ad)|(refine gO ?_)|fail)
  rintro⟨wa,wc,x9⟩ -
  simp only
  refine go ?_
  refine aF (fun w=>Sat G w ([ag jb (cl [ptr bd,.string name,.int .i64 n,.int .i64 s,.int .i64 c,.bool br] 186),ag xj (cl [ptr jb] 85),ag xf (cl [.string fresh] 9)])) (.st 0 (.st 1 (.st 2 (.st 3 (.st 4 (.act 5 (.st 6 (.st 7 (.st 8 (.st 9 (.st 10 .nil))))))))))) rfl ak ak ak ei ?_
  refine go ?_
  ((refine ai rfl rfl rfl rfl (tP bd A fresh) ad ?_ jg))
  rintro _ _⟨rfl,rfl⟩
  refine go ?_
  refine E8 1 (fun y:Value × List Value=>y.2=if(A.size fresh).2=0 then [.func (.func 192) #[] #[ptr xj,ptr xf] ]else []) (fun y=>[(0,ptr jb),(2,ptr xj),(5,ptr xf),(6,ptr xb),(9,ptr x9),(10,y.1)]) (fun y=>ag xj (cl [ptr jb] 85)::ag jb (cl [ptr bd,.string name,.int .i64 n,.int .i64 s,.int .i64 c,.bool br] 186)::aB 96 1 y.1 y.2.length y.2::ag x9 (cl [.slice wa W.length wc] 22)::aB 5 1 (.slice wa W.length wc) W.length (bV W)::ag xb (cl [.slice av B.length cv] 22)::ag xf (cl [.string fresh] 9)::aC bd A::V::F) rfl ?_ ?_
  rotate_left
  · intro tail
    refine aj (bJ 96 1 none _) ?_
    refine au zr zr ?_ ?_
    · intro he
      refine go ?_
      refine al zr zr zr zr zr zr zr zr zr bz ?_
      intro row
      refine go ?_
      refine aO (mm:=1) (news:=[.func (.func 192) #[] #[ptr xj,ptr xf]]) 1 0 zr zr zr zr zr zr zr zr zr zr zr zr (Vw.ag rfl) rfl (by simp[Value.oneCell']) ah (by show(0+1)*8≤_;omega) (fun _=>rfl) bz ?_
      intro v1
      ((refine aJ 1 rfl ?_))
      rintro va vc rfl
      (refine rG ?_)
      refine vX tail (.slice va (0+1) vc,[.func (.func 192) #[] #[ptr xj,ptr xf] ]) rfl (by rw[if_pos ah]) cu ad
    · intro he
      refine vX tail (.slice none 0 0,[]) rfl (by rw[if_neg ah]) cu ad
  rintro⟨sv,fv⟩ mB
  simp only at mB ⊢
  ((refine dv 2 rfl ?_))
  rintro va vc rfl
  refine go ?_
  have nJ:fv.length≤1:=by rw[mB];split <;> simp
  refine al (cs:=[.func (.func 193) #[] #[ptr xj,ptr xf],.func (.func 194) #[] #[ptr xj,ptr xf,ptr x9],.func (.func 195) #[] #[ptr xj,ptr xf],.func (.func 196) #[] #[ptr xj,ptr xf],.func (.func 75) #[ptr bd] #[],.func (.func 197) #[] #[ptr xb,ptr xj] ]) zr zr zr zr zr zr zr zr zr bz ?_
  intro row
  refine go ?_
  refine aO (mm:=6) (news:=[.func (.func 193) #[] #[ptr xj,ptr xf],.func (.func 194) #[] #[ptr xj,ptr xf,ptr x9],.func (.func 195) #[] #[ptr xj,ptr xf],.func (.func 196) #[] #[ptr xj,ptr xf],.func (.func 75) #[ptr bd] #[],.func (.func 197) #[] #[ptr xb,ptr xj] ]) 3 0 zr zr zr zr zr zr zr zr zr zr zr zr (Vw.ag rfl) rfl (by simp[Value.oneCell']) ah (by show(_+6)*8≤_;omega) (fun _=>rfl) bz ?_
  intro v1
  refine iL 3 rfl ?_
  intro lS
  obtain⟨fs,nc⟩:∃fs,fs=fv++[.func (.func 193) #[] #[ptr xj,ptr xf],.func (.func 194) #[] #[ptr xj,ptr xf,ptr x9],.func (.func 195) #[] #[ptr xj,ptr xf],.func (.func 196) #[] #[ptr xj,ptr xf],.func (.func 75) #[ptr bd] #[],.func (.func 197) #[] #[ptr xb,ptr xj] ]:=⟨_,rfl⟩
  rw[← nc]at lS ⊢
  have aaT:fs.length=fv.length+6:=by rw[nc,List.length_append];rfl
  rw[← aaT]at lS ⊢
  have pT:(gn name ls A).length=fs.length:=by
    rw[aaT,mB];unfold gn;rw[wu]
    split <;> rfl
  have hWb:W.length≤1000000000:=by omega
  have uI:∀(i:Nat) (fv:Value) (s:PS→Nat→PS→Prop),fs[i]?=some fv→(gn name ls A)[i]?=some s→∃g fi cap,fv = .func (.func g) fi cap∧∀x,PQ i x→aD Tryz.prog g (fi.toList++cap.toList) [PI bd jb xj xf x9 xb name fresh wa av wc B.length cv W br x] (fun r H=>∃(e:Nat) (x':PS),r = .int .i64 (e:Int)∧H=[PI bd jb xj xf x9 xb name fresh wa av wc B.length cv W br x']∧s x e x'∧(e=0→PQ (i+1) x')):=by
    intro i f1 s1 h1 h2
    have hi:i<fs.length:=(List.getElem?_eq_some_iff.1 h1).1
    have yi:i≤10:=by omega
    unfold gn at h2
    rw[wu,← hW,← hB]at h2
    rw[nc,mB]at h1
    by_cases hz:(A.size fresh).2=0
    · rw[if_pos hz]at h1 h2
      match i,h1,h2 with
      | 0,h1,h2=>cases h1;cases h2;exact⟨_,_,_,rfl,fun x hq=>V8 _ _ _ _ _ _ _ _ _ _ _ _ _ _ _ _ yi x hq⟩
      | 1,h1,h2=>cases h1;cases h2;exact⟨_,_,_,rfl,fun x hq=>M6 _ _ _ _ _ _ _ _ _ _ _ _ _ _ _ _ yi x hq⟩
      | 2,h1,h2=>cases h1;cases h2;exact⟨_,_,_,rfl,fun x hq=>M4 _ _ _ _ _ _ _ _ _ _ _ _ _ _ _ _ yi hWb x hq⟩
      | 3,h1,h2=>cases h1;cases h2;exact⟨_,_,_,rfl,fun x hq=>M1 _ _ _ _ _ _ _ _ _ _ _ _ _ _ _ _ yi x hq⟩
      | 4,h1,h2=>cases h1;cases h2;exact⟨_,_,_,rfl,fun x hq=>MZ _ _ _ _ _ _ _ _ _ _ _ _ _ _ _ _ yi x hq⟩
      | 5,h1,h2=>cases h1;cases h2;exact⟨_,_,_,rfl,fun x hq=>MU _ _ _ _ _ _ _ _ _ _ _ _ _ _ _ _ x hq⟩
      | 6,h1,h2=>cases h1;cases h2;exact⟨_,_,_,rfl,fun x hq=>MX _ _ _ _ _ _ _ _ _ _ _ _ _ _ _ _ x hq⟩
      | k+7,h1,h2=>simp at h1
    · rw[if_neg hz]at h1 h2
      match i,h1,h2 with
      | 0,h1,h2=>cases h1;cases h2;exact⟨_,_,_,rfl,fun x hq=>M6 _ _ _ _ _ _ _ _ _ _ _ _ _ _ _ _ yi x hq⟩
      | 1,h1,h2=>cases h1;cases h2;exact⟨_,_,_,rfl,fun x hq=>M4 _ _ _ _ _ _ _ _ _ _ _ _ _ _ _ _ yi hWb x hq⟩
      | 2,h1,h2=>cases h1;cases h2;exact⟨_,_,_,rfl,fun x hq=>M1 _ _ _ _ _ _ _ _ _ _ _ _ _ _ _ _ yi x hq⟩
      | 3,h1,h2=>cases h1;cases h2;exact⟨_,_,_,rfl,fun x hq=>MZ _ _ _ _ _ _ _ _ _ _ _ _ _ _ _ _ yi x hq⟩
      | 4,h1,h2=>cases h1;cases h2;exact⟨_,_,_,rfl,fun x hq=>MU _ _ _ _ _ _ _ _ _ _ _ _ _ _ _ _ x hq⟩
      | 5,h1,h2=>cases h1;cases h2;exact⟨_,_,_,rfl,fun x hq=>MX _ _ _ _ _ _ _ _ _ _ _ _ _ _ _ _ x hq⟩
      | k+6,h1,h2=>simp at h1
  have eZ:=Jg (PI bd jb xj xf x9 xb name fresh wa av wc B.length cv W br) (aB 96 1 v1 fs.length fs) v1 fs lS ah (gn name ls A) pT PQ uI (A,n,s,c) ⟨by simp only;omega,by simp only;omega⟩
  ((refine aJ 3 rfl ?_))
  rintro va2 vc2 rfl
  refine go ?_
  refine ai zr zr zr zr eZ (ao.trans ad (ao.cons _ (ao.bP [aC bd A,ag jb (cl [ptr bd,.string name,.int .i64 n,.int .i64 s,.int .i64 c,.bool br] 186),ag xj (cl [ptr jb] 85),ag xf (cl [.string fresh] 9),ag x9 (cl [.slice wa W.length wc] 22),ag xb (cl [.slice av B.length cv] 22),aB 5 1 (.slice wa W.length wc) W.length (bV W)] _))) ?_ bG
  rintro _ _⟨e,y,rfl,rfl,hr⟩
  refine aG (ao.trans (ao.pick [1] rfl) (ao.cB [aC bd y.1,ag jb (cl [ptr bd,.string name,.int .i64 y.2.1,.int .i64 y.2.2.1,.int .i64 y.2.2.2,.bool br] 186),ag xj (cl [ptr jb] 85),ag xf (cl [.string fresh] 9),ag x9 (cl [.slice wa W.length wc] 22),ag xb (cl [.slice av B.length cv] 22),aB 5 1 (.slice wa W.length wc) W.length (bV W)] _)) ?_
  refine go ?_
  ((refine ae hE Tryz.func133 rfl _ rfl ⟨e,y,rfl,rfl,hr⟩ ad))
theorem Qz(name:ByteArray)(f:Nat):((Ab.new 1).create (isName name) name f).1=if isName name then 0 else 1:=by
 cases h:isName name <;> simp[Ab.create,Ab.meet,Ab.new,Ab.look,Ab.cG]
theorem Iv(name:ByteArray):aD Tryz.prog 129 [.string name] [] (fun r H=>r = .bool (isName name)∧H=[]):=by
 refine aD.enter Tryz.func129 ak rfl Tryz.ntmps129 zr zr ?_
 intro G F R hE
 refine go ?_
 ((refine ai zr zr zr zr (HF 1 ah ah) ad ?_ bG))
 rintro _ _⟨bd,rfl,rfl⟩
 refine go ?_
 ((refine ai zr zr zr zr (u4 bd (Ab.new 1) name (by simp[Ab.new])) ad ?_ bG))
 rintro _ _⟨f,hf,rfl,rfl⟩
 rw[Qz]
 refine go ?_
 ((refine bB 2 ((.bool (isName name))) rfl ((congrArg Value.bool (by cases isName name <;> rfl))) ?_))
 refine aj (ao.drop _ _) ?_
 ((refine ae hE Tryz.func129 rfl _ rfl ⟨rfl,rfl⟩ ad))
theorem sr(jb bd:Nat)(name:ByteArray)(n s c:Int)(br:Bool)(e:Nat):aD Tryz.prog 141 [ptr jb,.int .i64 (e:Int)] [jr jb bd name n s c br] (fun r H=>r = .int .i64 (e:Int)∧H=[jr jb bd name n s c (br || decide (e≠0))]):=by
 unfold jr
 refine aD.enter Tryz.func141 ak rfl Tryz.ntmps141 zr zr ?_
 intro G F R hE
 cases br
 ·refine go ?_
  have hd:decide ((e:Int)≠0)=(false || decide (e≠0)):=by by_cases h:e=0 <;> simp[h]
  simp only[hd]
  ((refine ae hE Tryz.func141 rfl _ rfl ⟨rfl,rfl⟩ ad))
 ·refine go ?_
  ((refine ae hE Tryz.func141 rfl _ rfl ⟨rfl,rfl⟩ ad))
structure JN where
 n:Int
 s:Int
 c:Int
 br:Bool
def qY(jb bd:Nat)(name:ByteArray)(x:JN):HP:=jr jb bd name x.n x.s x.c x.br
def cT(name:ByteArray)(A:Ab)(x:JN)(b:List UInt8):Nat × Ab × JN :=
 if x.br then(10,A,x)else if 4096<b.length then(1,A,x)else if 524288<x.s+(aR b).length then(3,A,x)else
 if(A.write (fK name (32+x.s) (aR b)) name (32+x.s).toNat (aR b)).1=0 then(0,(A.write (fK name (32+x.s) (aR b)) name (32+x.s).toNat (aR b)).2,{ x with s:=x.s+(aR b).length })
 else((A.write (fK name (32+x.s) (aR b)) name (32+x.s).toNat (aR b)).1,(A.write (fK name (32+x.s) (aR b)) name (32+x.s).toNat (aR b)).2,{ x with br:=true })
theorem nQ(b:List UInt8)(h:b.length≤1000000000000):(aR b).length≤b.length+10:=by
 have:=pr (n:=b.length) ah
 simp[aR];omega
def jrE(jb bd:Nat)(name:ByteArray)(n s c:Int):HP:=fun h=>∃br,ag jb (cl [ptr bd,.string name,.int .i64 n,.int .i64 s,.int .i64 c,.bool br] 186) h
theorem GK(jb bd:Nat)(name:ByteArray)(n s c:Int)(br:Bool)(H:List HP):ao (ag jb (cl [ptr bd,.string name,.int .i64 n,.int .i64 s,.int .i64 c,.bool br] 186)::H) (jrE jb bd name n s c::H) :=
 ao.fold (B:=[_]) fun h' hs=>⟨h',sub.refl h',br,eN hs⟩
end Go.Proofs.YtedjnjkijiddlaaGreatDoor
namespace Go.Proofs.YtedjnjkijiddlaaGreatDoor
open Go Go.SL
theorem xW{G:cC}{w:World}{jb bd:Nat}{name:ByteArray}{n s c:Int}(hw:Sat G w [jrE jb bd name n s c]):w.cell? ⟨jb,0,none⟩=some (ptr bd)∧w.cell? ⟨jb,1,none⟩=some (.string name)∧w.cell? ⟨jb,3,none⟩=some (.int .i64 s):=by
 obtain⟨h,hh,br,hA⟩:=hw.kQ (i:=0) rfl
 have hb:h jb=some (cl [ptr bd,.string name,.int .i64 n,.int .i64 s,.int .i64 c,.bool br] 186):=by rw[hA jb,if_pos rfl]
 exact⟨dO hh (by unfold dL;rw[hb];rfl),dO hh (by unfold dL;rw[hb];rfl),dO hh (by unfold dL;rw[hb];rfl)⟩
attribute [local irreducible] J K aD Ends ag aB aM bN aZ aP aV bh bW aC
set_option maxRecDepth 20000 in
theorem HW(jb bd:Nat)(name:ByteArray)(A:Ab)(x:JN)(X:HP)(bv:Value)(b:List UInt8)(hv:eJ X bv b)(hl:b.length≤9223372036854775807)(hs:0≤x.s∧x.s≤1000000000)(eH:A.writes.length≤1000000000) :
  aD Tryz.prog 91 [ptr jb,bv] [aC bd A,qY jb bd name x,X]
   (fun r H=>r = .int .i64 ((cT name A x b).1:Int)∧H=[aC bd (cT name A x b).2.1,qY jb bd name (cT name A x b).2.2,X]):=by
 obtain⟨n,s,c,br⟩:=x
 obtain⟨a,cc,rfl,hc⟩:=hv.2
 simp only at hs
 dsimp only [qY,jr]
 refine aD.enter Tryz.func91 ak rfl Tryz.ntmps91 zr zr ?_
 intro G F R hE
 dsimp only [cT]at hE
 cases br with
 | true =>
  simp only[if_true]at hE
  refine go ?_
  ((refine ae hE Tryz.func91 rfl _ rfl ⟨rfl,rfl⟩ ad))
 | false =>
  simp only[Bool.false_eq_true,if_false]at hE
  refine go ?_
  refine au zr zr ?_ ?_
  ·intro uK
   rw[if_pos ah]at hE
   refine go ?_
   ((refine ae hE Tryz.func91 rfl _ rfl ⟨rfl,rfl⟩ ad))
  intro zE
  have hb4:b.length≤4096:=by omega
  have pj:=nQ b ah
  rw[if_neg ah]at hE
  refine go ?_
  ((refine ai zr zr zr zr (qb X _ b hv ah) ad ?_ bG))
  rintro r _ rfl
  ((refine aJ 0 rfl ?_))
  rintro ra rc rfl
  refine gB (bs:=aR b) 0 rfl ?_
  intro L8
  refine go ?_
  refine au zr zr ?_ ?_
  ·intro uK
   rw[if_pos ah]at hE
   refine go ?_
   ((refine ae hE Tryz.func91 rfl _ rfl ⟨rfl,rfl⟩ ad))
  intro yj
  rw[if_neg ah]at hE
  refine go ?_
  refine aF (fun w=>Sat G w [jrE jb bd name n s c]) (.st 0 (.st 1 (.st 2 (.st 3 (.st 4 (.st 5 (.st 6 (.st 7 (.st 8 (.st 9 (.st 10 (.st 11 (.st 12 (.st 13 (.st 14 (.act 15 (.act 16 (.st 17 .nil)))))))))))))))))) rfl ak ak ak (fun w hw=>hw.cy (ao.trans ad (GK jb bd name n s c false []))) ?_
  refine go ?_
  refine aK ?_
  refine lG zr zr (fun w hw=>(xW hw).1) zr zr ?_
  refine go ?_
  refine aK ?_
  refine lG zr zr (fun w hw=>(xW hw).2.1) zr zr ?_
  refine go ?_
  refine aK ?_
  refine lG zr zr (fun w hw=>(xW hw).2.2) zr zr ?_
  refine go ?_
  obtain⟨W,hW⟩:∃W,W=A.write (fK name (32+s) (aR b)) name (32+s).toNat (aR b):=⟨_,rfl⟩
  have pQ:=tN bd A name (32+s) (aB 5 1 (.slice ra (aR b).length rc) (aR b).length (bV (aR b))) (.slice ra (aR b).length rc) (aR b) L8.1 eH ah ah
  rw[← hW]at hE pQ
  refine ai rfl rfl rfl rfl pQ ad ?_ (fun _ _ w hp hw=>by obtain⟨rfl,rfl⟩:=hp;exact hw.cy (ao.trans ad (GK jb bd name n s c false [])))
  rintro _ _⟨rfl,rfl⟩
  refine ai rfl rfl rfl rfl (sr jb bd name n s c false W.1) ad ?_ (fun _ _ w hp hw=>by obtain⟨rfl,rfl⟩:=hp;exact hw.cy (ao.trans ad (GK jb bd name n s c _ [])))
  rintro _ _⟨rfl,rfl⟩
  unfold jr
  refine go ?_
  refine au zr zr ?_ ?_
  ·intro bT
   have fE:¬W.1=0:=by omega
   rw[if_neg fE]at hE
   have hd:(false || decide (W.1≠0))=true:=by simp[fE]
   simp only[hd]
   refine go ?_
   ((refine ae hE Tryz.func91 rfl _ rfl ⟨rfl,rfl⟩ ad))
  ·intro heq
   have oM:W.1=0:=by omega
   rw[if_pos oM]at hE
   have hd:(false || decide (W.1≠0))=false:=by simp[oM]
   simp only[hd]
   refine go ?_
   ((refine ae hE Tryz.func91 rfl _ rfl ⟨rfl,rfl⟩ ad))
def CI(bd jb x1 x3:Nat)(name:ByteArray)(next sz:Nat)(x:PS):HP:=Sep [aC bd x.1,ag jb (cl [ptr bd,.string name,.int .i64 x.2.1,.int .i64 x.2.2.1,.int .i64 x.2.2.2,.bool false] 186),ag x1 (cl [ptr jb] 85),ag x3 (cl [.int .i64 (next:Int)] 3)]
def CQ(sz:Nat)(i:Nat)(x:PS):Prop:=x.2.2.1=(sz:Int)∧x.1.aq.length≤900000000+i∧x.1.writes.length≤900000000+i
theorem CQ.next{sz i:Nat}{x:PS}(h:CQ sz i x){B:Ab}(g:jV x.1 B):CQ sz (i+1) (B,x.2):=by
 obtain⟨h0,h1,h2⟩:=h
 obtain⟨g1,g2⟩:=g
 exact⟨h0,by simp only;omega,by simp only;omega⟩
def Jd(name:ByteArray):=RR fun A e B=>e=(A.sync (isName name) name).1∧B=(A.sync (isName name) name).2
def Sz(name:ByteArray)(next sz:Nat):=RR fun A e B=>e=(A.write (fK name ((next%2*16:Nat):Int) (bU next sz)) name (next%2*16) (bU next sz)).1∧B=(A.write (fK name ((next%2*16:Nat):Int) (bU next sz)) name (next%2*16) (bU next sz)).2
def abm(next:Nat)(x:PS)(e:Nat)(y:PS):Prop:=e=0∧y=(x.1,(next:Int),x.2.2.1,x.2.2.1)
def qd(name:ByteArray)(next sz:Nat):List (PS→Nat→PS→Prop):=[Jd name,Sz name next sz,Jd name,abm next]
def jX(name:ByteArray)(A:Ab)(x:JN)(e:Nat)(A':Ab)(x':JN):Prop :=
 if x.br then e=10∧A'=A∧x'=x else if x.s=x.c then e=0∧A'=A∧x'=x else if 1073741824≤x.n then e=3∧A'=A∧x'=x
 else ∃y:PS,iA (qd name (x.n.toNat+1) x.s.toNat) (A,x.n,x.s,x.c) e y∧A'=y.1∧x'=⟨y.2.1,y.2.2.1,y.2.2.2,decide (e≠0)⟩
theorem Fu(bd jb x1 x3:Nat)(name:ByteArray)(next sz:Nat)(A:Ab)(n s c:Int)(eH:A.writes.length≤1000000000) :
  aD Tryz.prog 152 [ptr x1] ([aC bd A,ag jb (cl [ptr bd,.string name,.int .i64 n,.int .i64 s,.int .i64 c,.bool false] 186),ag x1 (cl [ptr jb] 85),ag x3 (cl [.int .i64 (next:Int)] 3)]) (fun r H=>∃(e:Nat) (A1:Ab),e=(A.sync (isName name) name).1∧A1=(A.sync (isName name) name).2∧r = .int .i64 (e:Int)∧H=[aC bd A1,ag jb (cl [ptr bd,.string name,.int .i64 n,.int .i64 s,.int .i64 c,.bool false] 186),ag x1 (cl [ptr jb] 85),ag x3 (cl [.int .i64 (next:Int)] 3)]):=by
 refine aD.enter Tryz.func152 ak rfl Tryz.ntmps152 zr zr ?_
 intro G F R hE
 refine go ?_
 refine aF (fun w=>Sat G w ([ag jb (cl [ptr bd,.string name,.int .i64 n,.int .i64 s,.int .i64 c,.bool false] 186),ag x1 (cl [ptr jb] 85),ag x3 (cl [.int .i64 (next:Int)] 3)])) (.st 0 (.st 1 (.st 2 (.st 3 (.st 4 (.st 5 (.st 6 (.st 7 (.act 8 (.st 9 .nil)))))))))) rfl ak ak ak ei ?_
 refine go ?_
 ((refine ai rfl rfl rfl rfl (tO bd A name eH) ad ?_ jg))
 rintro _ _⟨rfl,rfl⟩
 refine go ?_
 ((refine ae hE Tryz.func152 rfl _ rfl ⟨_,_,rfl,rfl,rfl,rfl⟩ ad))
theorem Fs(bd jb x1 x3:Nat)(name:ByteArray)(next sz:Nat)(A:Ab)(n s c:Int)(eH:A.writes.length≤1000000000) :
  aD Tryz.prog 155 [ptr x1] ([aC bd A,ag jb (cl [ptr bd,.string name,.int .i64 n,.int .i64 s,.int .i64 c,.bool false] 186),ag x1 (cl [ptr jb] 85),ag x3 (cl [.int .i64 (next:Int)] 3)]) (fun r H=>∃(e:Nat) (A1:Ab),e=(A.sync (isName name) name).1∧A1=(A.sync (isName name) name).2∧r = .int .i64 (e:Int)∧H=[aC bd A1,ag jb (cl [ptr bd,.string name,.int .i64 n,.int .i64 s,.int .i64 c,.bool false] 186),ag x1 (cl [ptr jb] 85),ag x3 (cl [.int .i64 (next:Int)] 3)]):=by
 refine aD.enter Tryz.func155 ak rfl Tryz.ntmps155 zr zr ?_
 intro G F R hE
 refine go ?_
 refine aF (fun w=>Sat G w ([ag jb (cl [ptr bd,.string name,.int .i64 n,.int .i64 s,.int .i64 c,.bool false] 186),ag x1 (cl [ptr jb] 85),ag x3 (cl [.int .i64 (next:Int)] 3)])) (.st 0 (.st 1 (.st 2 (.st 3 (.st 4 (.st 5 (.st 6 (.st 7 (.act 8 (.st 9 .nil)))))))))) rfl ak ak ak ei ?_
 refine go ?_
 ((refine ai rfl rfl rfl rfl (tO bd A name eH) ad ?_ jg))
 rintro _ _⟨rfl,rfl⟩
 refine go ?_
 ((refine ae hE Tryz.func155 rfl _ rfl ⟨_,_,rfl,rfl,rfl,rfl⟩ ad))
theorem Ft(bd jb x1 x3:Nat)(name:ByteArray)(next sz:Nat)(ph:next≤2000000000)(ir:sz≤2000000000)(A:Ab)(n c:Int)(eH:A.writes.length≤1000000000) :
  aD Tryz.prog 153 [ptr x1,ptr x3] ([aC bd A,ag jb (cl [ptr bd,.string name,.int .i64 n,.int .i64 (sz:Int),.int .i64 c,.bool false] 186),ag x1 (cl [ptr jb] 85),ag x3 (cl [.int .i64 (next:Int)] 3)]) (fun r H=>∃(e:Nat) (A1:Ab),e=(A.write (fK name ((next%2*16:Nat):Int) (bU next sz)) name (next%2*16) (bU next sz)).1∧A1=(A.write (fK name ((next%2*16:Nat):Int) (bU next sz)) name (next%2*16) (bU next sz)).2∧r = .int .i64 (e:Int)∧H=[aC bd A1,ag jb (cl [ptr bd,.string name,.int .i64 n,.int .i64 (sz:Int),.int .i64 c,.bool false] 186),ag x1 (cl [ptr jb] 85),ag x3 (cl [.int .i64 (next:Int)] 3)]):=by
 refine aD.enter Tryz.func153 ak rfl Tryz.ntmps153 zr zr ?_
 intro G F R hE
 refine go ?_
 refine aF (fun w=>Sat G w ([ag jb (cl [ptr bd,.string name,.int .i64 n,.int .i64 (sz:Int),.int .i64 c,.bool false] 186),ag x1 (cl [ptr jb] 85),ag x3 (cl [.int .i64 (next:Int)] 3)])) (.st 0 (.st 1 (.st 2 (.st 3 (.st 4 (.st 5 (.st 6 (.st 7 (.st 8 (.st 9 (.st 10 (.st 11 (.st 12 (.st 13 (.st 14 (.st 15 (.act 16 (.act 17 (.st 18 .nil))))))))))))))))))) rfl ak ak ak ei ?_
 refine go ?_
 refine o8 zr zr zr ah ah ?_
 refine az 12 (.int .i64 ((next%2:Nat):Int)) rfl (congrArg (Value.int .i64) ah) ?_
 refine go ?_
 refine gT zr zr zr (by simp only[gg];omega) ?_
 refine az 13 (.int .i64 ((next%2*16:Nat):Int)) rfl (congrArg (Value.int .i64) ah) ?_
 refine go ?_
 ((refine ai rfl rfl rfl rfl (yl next sz ah ah) ad ?_ (fun _ _ w hp hw=>by obtain rfl:=hp;exact hw.cy ad)))
 rintro _ _ rfl
 ((refine aJ 0 rfl ?_))
 rintro ra rc rfl
 refine gB (bs:=bU next sz) 0 rfl ?_
 intro L8
 have pQ:=tN bd A name ((next%2*16:Nat):Int) _ _ (bU next sz) L8.1 eH (by rw[fL];omega) ah
 rw[Int.toNat_natCast]at pQ
 ((refine ai rfl rfl rfl rfl (pQ) ad ?_ jg))
 rintro _ _⟨rfl,rfl⟩
 refine go ?_
 ((refine ae hE Tryz.func153 rfl _ rfl ⟨_,_,rfl,rfl,rfl,rfl⟩ ad))
def jrS(jb:Nat)(s:Int):HP:=fun h=>∃bd name n c br,ag jb (cl [ptr bd,.string name,.int .i64 n,.int .i64 s,.int .i64 c,.bool br] 186) h
theorem ND(jb bd:Nat)(name:ByteArray)(n s c:Int)(br:Bool)(H:List HP):ao (ag jb (cl [ptr bd,.string name,.int .i64 n,.int .i64 s,.int .i64 c,.bool br] 186)::H) (jrS jb s::H) :=
 ao.fold (B:=[_]) fun h' hs=>⟨h',sub.refl h',bd,name,n,c,br,eN hs⟩
end Go.Proofs.YtedjnjkijiddlaaGreatDoor
namespace Go.Proofs.YtedjnjkijiddlaaGreatDoor
open Go Go.SL
theorem NF{G:cC}{w:World}{jb:Nat}{s:Int}{H:List HP}(hw:Sat G w (jrS jb s::H)):w.cell? ⟨jb,3,none⟩=some (.int .i64 s):=by
 obtain⟨h,hh,bd,name,n,c,br,hA⟩:=hw.kQ (i:=0) rfl
 have hb:h jb=some (cl [ptr bd,.string name,.int .i64 n,.int .i64 s,.int .i64 c,.bool br] 186):=by rw[hA jb,if_pos rfl]
 exact dO hh (by unfold dL;rw[hb];rfl)
attribute [local irreducible] J K aD Ends ag aB aM bN aZ aP aV bh bW aC
theorem Fq(bd jb x1 x3:Nat)(name:ByteArray)(next sz:Nat)(A:Ab)(n s c:Int) :
  aD Tryz.prog 156 [ptr x3,ptr x1] ([aC bd A,ag jb (cl [ptr bd,.string name,.int .i64 n,.int .i64 s,.int .i64 c,.bool false] 186),ag x1 (cl [ptr jb] 85),ag x3 (cl [.int .i64 (next:Int)] 3)]) (fun r H=>r = .int .i64 0∧H=[aC bd A,ag jb (cl [ptr bd,.string name,.int .i64 (next:Int),.int .i64 s,.int .i64 s,.bool false] 186),ag x1 (cl [ptr jb] 85),ag x3 (cl [.int .i64 (next:Int)] 3)]):=by
 refine aD.enter Tryz.func156 ak rfl Tryz.ntmps156 zr zr ?_
 intro G F R hE
 refine go ?_
 refine aF (fun w=>Sat G w [jrS jb s,ag x1 (cl [ptr jb] 85),ag x3 (cl [.int .i64 (next:Int)] 3)]) (.st 0 (.st 1 (.st 2 (.st 3 (.st 4 (.st 5 (.st 6 (.st 7 (.st 8 (.act 9 (.st 10 (.st 11 (.act 12 .nil))))))))))))) rfl ak ak ak (fun w hw=>hw.cy (ao.trans ad (ND jb bd name _ s _ _ _))) ?_
 refine go ?_
 refine aK ?_
 refine lG zr zr (fun w hw=>NF hw) zr zr ?_
 refine go ?_
 refine aT ?_
 refine bZ 1 (fun w hw=>by exact hw.cy (ao.trans ad (ND jb bd name _ s _ _ _))) zr zr zr zr zr zr zr zr zr ?_
 refine go ?_
 ((refine ae hE Tryz.func156 rfl _ rfl ⟨rfl,rfl⟩ ad))
theorem LX(bd jb x1 x3:Nat)(name:ByteArray)(next sz:Nat)(i:Nat)(hi:i≤10)(x:PS)(hq:CQ sz i x) :
  aD Tryz.prog 152 [ptr x1] [CI bd jb x1 x3 name next sz x] (fun r H=>∃(e:Nat) (x':PS),r = .int .i64 (e:Int)∧H=[CI bd jb x1 x3 name next sz x']∧Jd name x e x'∧(e=0→CQ sz (i+1) x')):=by
 obtain⟨A,n,s,c⟩:=x
 have h0:=hq.1
 simp only at h0
 subst h0
 exact(Fu bd jb x1 x3 name next sz A n (sz:Int) c (by have:=hq.2.2;simp only at this;omega)).conv (ao.lJ _) (by
  rintro v H⟨e,A1,he,sm,rfl,rfl⟩
  exact⟨_,⟨_,(A1,n,(sz:Int),c),rfl,rfl,⟨⟨he,sm⟩,rfl⟩,fun _=>hq.next (sm ▸ ko _ _ _)⟩,ao.lN _⟩)
theorem LV(bd jb x1 x3:Nat)(name:ByteArray)(next sz:Nat)(i:Nat)(hi:i≤10)(x:PS)(hq:CQ sz i x) :
  aD Tryz.prog 155 [ptr x1] [CI bd jb x1 x3 name next sz x] (fun r H=>∃(e:Nat) (x':PS),r = .int .i64 (e:Int)∧H=[CI bd jb x1 x3 name next sz x']∧Jd name x e x'∧(e=0→CQ sz (i+1) x')):=by
 obtain⟨A,n,s,c⟩:=x
 have h0:=hq.1
 simp only at h0
 subst h0
 exact(Fs bd jb x1 x3 name next sz A n (sz:Int) c (by have:=hq.2.2;simp only at this;omega)).conv (ao.lJ _) (by
  rintro v H⟨e,A1,he,sm,rfl,rfl⟩
  exact⟨_,⟨_,(A1,n,(sz:Int),c),rfl,rfl,⟨⟨he,sm⟩,rfl⟩,fun _=>hq.next (sm ▸ ko _ _ _)⟩,ao.lN _⟩)
theorem LW(bd jb x1 x3:Nat)(name:ByteArray)(next sz:Nat)(i:Nat)(hi:i≤10)(ph:next≤2000000000)(ir:sz≤2000000000)(x:PS)(hq:CQ sz i x) :
  aD Tryz.prog 153 [ptr x1,ptr x3] [CI bd jb x1 x3 name next sz x] (fun r H=>∃(e:Nat) (x':PS),r = .int .i64 (e:Int)∧H=[CI bd jb x1 x3 name next sz x']∧Sz name next sz x e x'∧(e=0→CQ sz (i+1) x')):=by
 obtain⟨A,n,s,c⟩:=x
 have h0:=hq.1
 simp only at h0
 subst h0
 exact(Ft bd jb x1 x3 name next sz ph ir A n c (by have:=hq.2.2;simp only at this;omega)).conv (ao.lJ _) (by
  rintro v H⟨e,A1,he,sm,rfl,rfl⟩
  exact⟨_,⟨_,(A1,n,(sz:Int),c),rfl,rfl,⟨⟨he,sm⟩,rfl⟩,fun _=>hq.next (sm ▸ km _ _ _ _ _)⟩,ao.lN _⟩)
theorem LU(bd jb x1 x3:Nat)(name:ByteArray)(next sz:Nat)(i:Nat)(hi:i≤10)(x:PS)(hq:CQ sz i x) :
  aD Tryz.prog 156 [ptr x3,ptr x1] [CI bd jb x1 x3 name next sz x] (fun r H=>∃(e:Nat) (x':PS),r = .int .i64 (e:Int)∧H=[CI bd jb x1 x3 name next sz x']∧abm next x e x'∧(e=0→CQ sz (i+1) x')):=by
 obtain⟨A,n,s,c⟩:=x
 have h0:=hq.1
 simp only at h0
 subst h0
 exact(Fq bd jb x1 x3 name next sz A n (sz:Int) c).conv (ao.lJ _) (by
  rintro v H⟨rfl,rfl⟩
  exact⟨_,⟨_,(A,(next:Int),(sz:Int),(sz:Int)),(by exact(congrArg (Value.int .i64) (show(0:Int)=((0:Nat):Int)from rfl))),rfl,⟨rfl,rfl⟩,fun _=>⟨rfl,by have:=hq.2.1;simp only at this ⊢;omega,by have:=hq.2.2;simp only at this ⊢;omega⟩⟩,ao.lN _⟩)
set_option maxRecDepth 20000 in
theorem HT(jb bd:Nat)(name:ByteArray)(A:Ab)(x:JN)(hn:0≤x.n)(hs:0≤x.s∧x.s≤1000000000)(cF:A.aq.length≤900000000)(pQ:A.writes.length≤900000000) :
  aD Tryz.prog 92 [ptr jb] [aC bd A,qY jb bd name x]
   (fun r H=>∃(e:Nat) (A':Ab) (x':JN),r = .int .i64 (e:Int)∧H=[aC bd A',qY jb bd name x']∧jX name A x e A' x'):=by
 obtain⟨n,s,c,br⟩:=x
 simp only at hs hn
 dsimp only [qY,jr]
 refine aD.enter Tryz.func92 ak rfl Tryz.ntmps92 zr zr ?_
 intro G F R hE
 refine go ?_
 refine bC zr zr bz ?_
 intro x1
 cases br with
 | true =>
  refine go ?_
  ((refine ae hE Tryz.func92 rfl _ rfl ⟨10,A,⟨n,s,c,true⟩,rfl,rfl,(by unfold jX;rw[if_pos rfl];exact⟨rfl,rfl,rfl⟩)⟩ ad))
 | false =>
  refine go ?_
  refine aF (fun w=>Sat G w ([ag x1 (cl [ptr jb] 85),ag jb (cl [ptr bd,.string name,.int .i64 n,.int .i64 s,.int .i64 c,.bool false] 186)])) (.st 0 (.st 1 (.st 2 (.st 3 (.st 4 (.st 5 (.st 6 (.st 7 (.st 8 (.st 9 .nil)))))))))) rfl ak ak ak ei ?_
  refine go ?_
  refine au zr zr ?_ ?_
  ·intro heq
   refine go ?_
   ((refine ae hE Tryz.func92 rfl _ rfl ⟨0,A,⟨n,s,c,false⟩,rfl,rfl,(by unfold jX;rw[if_neg (by simp),if_pos heq];exact⟨rfl,rfl,rfl⟩)⟩ ad))
  intro bT
  refine go ?_
  refine au zr zr ?_ ?_
  ·intro uK
   refine go ?_
   ((refine ae hE Tryz.func92 rfl _ rfl ⟨3,A,⟨n,s,c,false⟩,rfl,rfl,(by unfold jX;rw[if_neg (by simp),if_neg bT,if_pos uK];exact⟨rfl,rfl,rfl⟩)⟩ ad))
  intro zE
  obtain⟨sz,rfl⟩:∃sz:Nat,s=(sz:Int):=⟨s.toNat,ah⟩
  obtain⟨nx,ph⟩:∃nx:Nat,n+1=(nx:Int):=⟨n.toNat+1,ah⟩
  refine go ?_
  refine az 29 (.int .i64 (nx:Int)) rfl (congrArg (Value.int .i64) ph) ?_
  refine aw zr zr zr bz ?_
  intro x3
  refine go ?_
  refine aF (fun w=>Sat G w ([ag x1 (cl [ptr jb] 85)])) (.st 0 (.st 1 (.st 2 (.st 3 (.st 4 (.act 5 (.act 6 (.act 7 (.st 8 .nil))))))))) rfl ak ak ak ei ?_
  refine go ?_
  have uI:∀(i:Nat) (fv:Value) (s:PS→Nat→PS→Prop),([.func (.func 152) #[] #[ptr x1],.func (.func 153) #[] #[ptr x1,ptr x3],.func (.func 155) #[] #[ptr x1],.func (.func 156) #[] #[ptr x3,ptr x1] ]:List Value)[i]?=some fv→(qd name nx sz)[i]?=some s→∃g fi cap,fv = .func (.func g) fi cap∧∀x,CQ sz i x→aD Tryz.prog g (fi.toList++cap.toList) [CI bd jb x1 x3 name nx sz x] (fun r H=>∃(e:Nat) (x':PS),r = .int .i64 (e:Int)∧H=[CI bd jb x1 x3 name nx sz x']∧s x e x'∧(e=0→CQ sz (i+1) x')):=by
   intro i f1 s1 h1 h2
   match i,h1,h2 with
   | 0,h1,h2=>cases h1;cases h2;exact⟨_,_,_,rfl,fun x hq=>LX bd jb x1 x3 name nx sz 0 ah x hq⟩
   | 1,h1,h2=>cases h1;cases h2;exact⟨_,_,_,rfl,fun x hq=>LW bd jb x1 x3 name nx sz 1 ah ah ah x hq⟩
   | 2,h1,h2=>cases h1;cases h2;exact⟨_,_,_,rfl,fun x hq=>LV bd jb x1 x3 name nx sz 2 ah x hq⟩
   | 3,h1,h2=>cases h1;cases h2;exact⟨_,_,_,rfl,fun x hq=>LU bd jb x1 x3 name nx sz 3 ah x hq⟩
   | k+4,h1,h2=>simp at h1
  refine al (cs:=[.func (.func 152) #[] #[ptr x1],.func (.func 153) #[] #[ptr x1,ptr x3],.func (.func 155) #[] #[ptr x1],.func (.func 156) #[] #[ptr x3,ptr x1] ]) zr zr zr zr zr zr zr zr zr (fun _ w hw=>by exact hw.cy ad) ?_
  intro row
  have eZ:=Jg (CI bd jb x1 x3 name nx sz) (ag row (cl ([.func (.func 152) #[] #[ptr x1],.func (.func 153) #[] #[ptr x1,ptr x3],.func (.func 155) #[] #[ptr x1],.func (.func 156) #[] #[ptr x3,ptr x1] ]) 96)) (.slice (some ⟨row,0,none⟩) 4 4) ([.func (.func 152) #[] #[ptr x1],.func (.func 153) #[] #[ptr x1,ptr x3],.func (.func 155) #[] #[ptr x1],.func (.func 156) #[] #[ptr x3,ptr x1] ]) (Vw.ag rfl) (by show 4≤_;omega) (qd name nx sz) rfl (CQ sz) uI (A,n,(sz:Int),c) ⟨rfl,by simp only;omega,by simp only;omega⟩
  refine ai zr zr zr zr eZ (ao.trans ad (ao.cons _ (ao.bP ([aC bd A,ag jb (cl [ptr bd,.string name,.int .i64 n,.int .i64 (sz:Int),.int .i64 c,.bool false] 186),ag x1 (cl [ptr jb] 85),ag x3 (cl [.int .i64 (nx:Int)] 3)]) _))) ?_ (fun _ _ w hp hw=>by
   obtain⟨e,y,rfl,rfl,hr⟩:=hp
   exact hw.cy (ao.trans (ao.trans (ao.pick [1] rfl) (ao.cB ([aC bd y.1,ag jb (cl [ptr bd,.string name,.int .i64 y.2.1,.int .i64 y.2.2.1,.int .i64 y.2.2.2,.bool false] 186),ag x1 (cl [ptr jb] 85),ag x3 (cl [.int .i64 (nx:Int)] 3)]) _)) ad))
  rintro _ _⟨e,y,rfl,rfl,hr⟩
  refine aG (ao.trans (ao.pick [1] rfl) (ao.cB ([aC bd y.1,ag jb (cl [ptr bd,.string name,.int .i64 y.2.1,.int .i64 y.2.2.1,.int .i64 y.2.2.2,.bool false] 186),ag x1 (cl [ptr jb] 85),ag x3 (cl [.int .i64 (nx:Int)] 3)]) _)) ?_
  refine ai rfl rfl rfl rfl (sr jb bd name y.2.1 y.2.2.1 y.2.2.2 false e) ad ?_ jg
  rintro _ _⟨rfl,rfl⟩
  unfold jr
  refine go ?_
  ((refine ae hE Tryz.func92 rfl _ rfl ⟨e,y.1,⟨y.2.1,y.2.2.1,y.2.2.2,decide (e≠0)⟩,rfl,rfl,(by unfold jX;rw[if_neg (by simp),if_neg bT,if_neg zE];exact⟨y,(by simp only[Int.toNat_natCast];rw[show n.toNat+1=nx from by omega];exact hr),rfl,rfl⟩)⟩ ad))
end Go.Proofs.YtedjnjkijiddlaaGreatDoor
namespace Go.Proofs.YtedjnjkijiddlaaGreatDoor
open Go Go.SL
theorem pE:∀(f:Nat) (bs:List UInt8),((fQ f bs).flatMap aR).length≤2*bs.length∧(fQ f bs).length≤bs.length∧∀x∈fQ f bs,x.length≤4096
 | 0,bs=>by simp[fQ]
 | f+1,bs=>by
  unfold fQ
  split
  ·simp
  ·rename_i k n hl
   have hp:=qI hl
   split
   ·rename_i hb
    obtain⟨h1,h2,h3⟩:=pE f (bs.drop (k+n))
    have hx:((bs.drop k).take n).length=n:=by rw[List.length_take,List.length_drop];omega
    have he:(aR ((bs.drop k).take n)).length≤n+2:=by
     have:=wQ 1 n (by have:=hp.2.2.2;omega)
     simp only[aR,List.length_append,hx];omega
    rw[List.length_drop]at h1 h2
    simp only[List.flatMap_cons,List.length_append,List.length_cons]
    refine⟨ah,ah,fun x hm=>?_⟩
    rcases List.mem_cons.1 hm with rfl|hm
    ·rw[hx];omega
    ·exact h3 x hm
   ·simp
theorem pF(bs:List UInt8):((bY bs).flatMap aR).length≤2*bs.length∧(bY bs).length≤bs.length∧∀x∈bY bs,x.length≤4096:=pE _ bs
def tS(M:fF)(cs:List Value)(ls:List (List UInt8)):Prop:=cs.length=ls.length∧∀(j:Nat) (y:List UInt8),ls[j]?=some y→∃cv,cs[j]?=some cv∧CL M 1 cv y.length (bV y)
def LI(lb:Nat)(ls:List (List UInt8)):HP:=fun h=>∃x:Value × List Value × fF,tS x.2.2 x.2.1 ls∧Sep [ag lb (cl [x.1] 68),aB 22 1 x.1 ls.length x.2.1,aV 5 x.2.2] h
theorem yS(e:TypeId)(H:List HP):ao H (aV e []::H):=ao.qg H
theorem Pd(lb:Nat)(a:Option Addr)(H:List HP):ao (ag lb (cl [.slice a 0 0] 68)::H) (LI lb []::H):=by
 have h1:ao (ag lb (cl [.slice a 0 0] 68)::H) ([ag lb (cl [.slice a 0 0] 68),aB 22 1 (.slice a 0 0) 0 [],aV 5 [] ]++H) :=
  ao.cons _ ((bJ 22 1 a H).trans (ao.cons _ (yS 5 H)))
 exact h1.trans (ao.fold fun h hs=>⟨h,sub.refl h,(.slice a 0 0,[],[]),⟨rfl,fun j y hj=>by simp at hj⟩,hs⟩)
theorem RF(lb:Nat)(ls:List (List UInt8))(x:List UInt8)(v rv:Value)(cs:List Value)(M M':fF)(hR:tS M cs ls)(hr:CL M' 1 rv x.length (bV x))(hs:∀y∈M,y∈M')(H:List HP) :
  ao (ag lb (cl [v] 68)::aB 22 1 v (ls.length+1) (cs++[rv])::aV 5 M'::H) (LI lb (ls++[x])::H):=by
 refine ao.fold (B:=[ag lb (cl [v] 68),aB 22 1 v (ls.length+1) (cs++[rv]),aV 5 M']) fun h hp=>⟨h,sub.refl h,(v,cs++[rv],M'),⟨by simp[hR.1],fun j y hj=>?_⟩,by simp only[List.length_append,List.length_singleton];exact hp⟩
 simp only
 rw[List.getElem?_append]at hj ⊢
 rw[hR.1]
 split at hj
 ·rename_i cW
  obtain⟨cv,h1,h2⟩:=hR.2 j y hj
  rw[if_pos cW]
  exact⟨cv,h1,h2.mono hs⟩
 ·rename_i fq
  rw[if_neg fq]
  have h0:j-ls.length=0:=by
   rcases Nat.eq_zero_or_pos (j-ls.length)with h|h
   ·exact h
   ·rw[List.getElem?_eq_none (by simp;omega)]at hj;cases hj
  rw[h0]at hj ⊢
  cases hj
  exact⟨rv,rfl,hr⟩
theorem Jk(lb:Nat)(ls:List (List UInt8)):∀h,LI lb ls h→∃x:Value × List Value × fF,tS x.2.2 x.2.1 ls∧Sep [ag lb (cl [x.1] 68),aB 22 1 x.1 ls.length x.2.1,aV 5 x.2.2] h:=fun h hs=>hs
def vq(v:Value)(ls:List (List UInt8)):HP:=fun h=>∃x:List Value × fF,tS x.2 x.1 ls∧Sep [aB 22 1 v ls.length x.1,aV 5 x.2] h
theorem Nv{v:Value}{ls:List (List UInt8)}{cs:List Value}{M:fF}(hR:tS M cs ls)(H:List HP):ao (aB 22 1 v ls.length cs::aV 5 M::H) (vq v ls::H) :=
 ao.fold (B:=[aB 22 1 v ls.length cs,aV 5 M]) fun h hp=>⟨h,sub.refl h,(cs,M),hR,hp⟩
theorem GH(v:Value)(ls:List (List UInt8)):∀h,vq v ls h→∃x:List Value × fF,tS x.2 x.1 ls∧Sep [aB 22 1 v ls.length x.1,aV 5 x.2] h:=fun h hs=>hs
theorem tS.lat{v:Value}{ls:List (List UInt8)}{cs:List Value}{M:fF}(hR:tS M cs ls)(h0:∃h,aB 22 1 v ls.length cs h):rM (Sep [aB 22 1 v ls.length cs,aV 5 M]) v ls:=by
 have hv:=Vw.oD 22 1 v ls.length cs h0
 refine⟨cs,hv.mono (aW (i:=0) rfl),hR.1,?_,fun i x hx=>?_⟩
 ·obtain⟨h,hl,⟨a,rfl,hn,_⟩|⟨b,o,cap,pre,bQ,rfl,hp,hn,hc,_⟩⟩:=h0
  ·exact⟨a,0,by rw[hn],ah⟩
  ·exact⟨_,cap,rfl,hn⟩
 ·obtain⟨cv,h1,h2⟩:=hR.2 i x hx
  obtain⟨a,c,uh,hc⟩:=h2.shape
  exact⟨cv,h1,(h2.view 5).mono (aW (i:=1) rfl),a,c,uh,hc⟩
section
variable{P:Program}{f:FuncId}{n:Nat}{R:Ending→World→Prop}{G:cC}{k:List Item}{L:fC}{H:List HP}
theorem SE{v:Value}{ls:List (List UInt8)}{cs:List Value}{M:fF}(i:Nat)(hR:tS M cs ls)(hi:cq H i=some (aB 22 1 v ls.length cs))(h:rM (Sep [aB 22 1 v ls.length cs,aV 5 M]) v ls→K P f n R G k L H):K P f n R G k L H :=
 rN fun⟨w,hw⟩=>by
  obtain⟨h1,_,hA⟩:=hw.kQ hi
  exact h (hR.lat ⟨h1,hA⟩)
theorem abC{bd:Nat}{A:Ab}(i:Nat)(hi:cq H i=some (aC bd A))(h:(∃D,Rel D A)→K P f n R G k L H):K P f n R G k L H :=
 rN fun⟨w,hw⟩=>by
  obtain⟨h1,_,D,hR,_⟩:=hw.kQ hi
  exact h ⟨D,hR⟩
end
theorem Du(A:Ab)(hR:∃D,Rel D A)(name:ByteArray)(at_ n:Int):(A.read name at_ n).1.length≤1048576:=by
 obtain⟨D,hR⟩:=hR
 unfold Ab.read
 split
 ·simp
 split
 ·simp
 ·rename_i f hf
  split
  ·simp
  ·have h1:(A.now f).length≤1048576:=by
    unfold Ab.now Ab.file
    cases h:A.fs.find? (fun x=>decide (x.1=f))with
    | none=>simp
    | some x =>
     have:=hR.gl x (List.mem_of_find?_eq_some h)
     simpa using this.1
   rw[List.length_take,List.length_drop];omega
end Go.Proofs.YtedjnjkijiddlaaGreatDoor
