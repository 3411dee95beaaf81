import Derived.Test.YtjpboghdolfekaaGreatDoorQMQ2
import Derived.Test.YtjpboghdolfekaaGreatDoorQMQ3
import Derived.Test.YtjpboghdolfekaaGreatDoorQMQ4
import Derived.Test.YtjpboghdolfekaaGreatDoorQMQ5
import Derived.Test.YtjpboghdolfekaaGreatDoorQMQ6
import Derived.Test.YtjpboghdolfekaaGreatDoorQMQ7
import Derived.Test.YtjpboghdolfekaaGreatDoorQMQ8
set_option linter.unusedSimpArgs false
set_option linter.unusedVariables false
set_option maxRecDepth 20000
set_option linter.defProp false
namespace Go.Proofs.YtjpboghdolfekaaGreatDoor
open Go Go.SL
variable{bs:List UInt8}{i k n:Nat}
def jQ(n i:Nat):Option Nat:=if i%2=1 then some (i-1)else if i+1<n then some (i+1)else none
def oS:Nat→Nat→Nat→Nat
 | 0,_,_=>0
 | f+1,n,i=>if n≤1 then 0 else(if(jQ n i).isSome then 1 else 0)+oS f ((n+1)/2) (i/2)
def iX(n i:Int):Nat:=if 1≤n∧n≤1024∧0≤i∧i<n then oS n.toNat n.toNat i.toNat else 0
def wM:Nat→Nat→Nat→Dg→List Dg→Dg
 | 0,_,_,x,_=>x
 | f+1,n,i,x,p=>if n≤1 then x else match jQ n i with
  | none=>wM f ((n+1)/2) (i/2) x p
  | some s=>wM f ((n+1)/2) (i/2) (if s<i then jR (p.headD Dg.zero) x else jR x (p.headD Dg.zero)) p.tail
def nA(root:Dg)(n i:Int)(x:Dg)(p:List Dg):Bool:=decide ((1≤n∧n≤1024∧0≤i∧i<n)∧p.length=iX n i∧wM n.toNat n.toNat i.toNat x p=root)
def lU(x:Bl)(i:Int)(b:List UInt8)(p:List Dg):Bool:=match qG x i with
 | none=>false
 | some (_,m)=>decide ((b.length:Int)=m) && nA x.root (fT x) i (fA b) p
def Fx(f n i:Nat)(hn:n≤1):oS f n i=0:=by
 cases f with
 | zero=>rfl
 | succ f=>unfold oS;rw[if_pos hn]
theorem zh:∀(k f n i:Nat),n≤2 ^ k→oS f n i≤k
 | 0,f,n,i,h=>by rw[Fx f n i (by simpa using h)];exact Nat.le_refl _
 | k+1,0,n,i,h=>Nat.zero_le _
 | k+1,f+1,n,i,h=>by
  unfold oS
  split
  ·grind
  ·have:=zh k f ((n+1)/2) (i/2) aj
   grind
theorem sJ(n i:Int):iX n i≤10:=by
 unfold iX
 split
 ·exact zh 10 _ _ _ aj
 grind
theorem qk{κ:Type}[DecidableEq κ](es:List (κ × Value))(k d:κ)(v:Value):cF (gT es k v) d=if d=k then some v else cF es d:=by
 unfold gT
 by_cases hk:k∈es.map (·.1)
 ·rw[if_pos hk]
  unfold cF
  rw[List.find?_map]
  have hf:((fun x:κ × Value=>decide (x.1=d)) ∘ fun x:κ × Value=>if x.1=k then(k,v)else x)=fun x=>decide (x.1=d):=by
   grind
  rw[hf]
  by_cases hd:d=k
  ·subst hd
   rw[if_pos rfl]
   obtain⟨y,hy,hyd⟩:=List.mem_map.1 hk
   cases hx:es.find? (fun x=>decide (x.1=d))with
   | none=>have:=List.find?_eq_none.1 hx y hy;simp[hyd]at this
   | some x =>
    grind
  ·rw[if_neg hd]
   cases hx:es.find? (fun x=>decide (x.1=d))with
   | none=>rfl
   | some x =>
    grind
 grind [cF]
def FL(k:Nat):od:=(1#64) <<< k
def q8(ws:List od)(n:Nat)(i:Int):Bool:=decide (0≤i∧i<n) && decide (((ws.getD (i.toNat/64) 0#64) >>> (i.toNat%64)) &&& 1#64=1#64)
def mZ(ws:List od)(i:Nat)(one:Bool):List od:=ws.set (i/64) (if one then ws.getD (i/64) 0#64 ||| FL (i%64)else ws.getD (i/64) 0#64 &&& ~~~(FL (i%64)))
def mq(ws:List od)(i:Nat)(one:Bool):(mZ ws i one).length=ws.length:=by simp[mZ]
theorem MN{ws:List od}{i:Int}(h:i<0∨(n:Int)≤i):q8 ws n i=false:=by
 grind [q8]
def lI(sb n:Nat)(wv:Value)(ws:List od):List HP:=[ag sb (cl [.int .i64 (n:Int),wv] 460),aH 38 1 wv ws.length (qV ws)]
structure Tk where
 yb:Nat
 sb:Nat
 mb:Nat
 x:Bl
 n:Nat
 ws:List od
 pf:Int→Option (List Dg)
def Hw(z:Value × List (Int × Value) × eG)(y:Tk):Prop:=∀k,match cF z.2.1 k with
 | none=>y.pf k=none
 | some v=>∃l,y.pf k=some l∧Bo z.2.2 32 v l.length (l.flatMap dC)
def uu(y:Tk):List Value:=dN y.x++[ptr y.sb,.map (some y.mb)]
def Bw(y:Tk)(z:Value × List (Int × Value) × eG):List HP:=[ag y.yb (cl (uu y) 221),ag y.sb (cl [.int .i64 (y.n:Int),z.1] 460),aH 38 1 z.1 y.ws.length (qV y.ws),au (Value.int .i64) y.mb z.2.1,a6 35 z.2.2]
def pL(y:Tk):HP:=fun h=>∃z:Value × List (Int × Value) × eG,Hw z y∧Sep (Bw y z) h
def jz(y:Tk):∀h,pL y h→∃z:Value × List (Int × Value) × eG,Hw z y∧Sep (Bw y z) h:=fun h hs=>hs
def mP{y:Tk}{z:Value × List (Int × Value) × eG}(hR:Hw z y)(H:List HP):ak (Bw y z++H) (pL y::H) :=
 ak.fold (B:=Bw y z) fun h hp=>⟨h,sub.refl h,z,hR,hp⟩
theorem Hw.put{z:Value × List (Int × Value) × eG}{y:Tk}(h:Hw z y)(k:Int)(v wv:Value)(l:List Dg)(M:eG)(hM:∀a∈z.2.2,a∈M)(hv:Bo M 32 v l.length (l.flatMap dC))(y':Tk)(hy:y'.pf=fun j=>if j=k then some l else y.pf j):Hw (wv,gT z.2.1 k v,M) y':=fun j=>by
 rw[hy]
 simp only
 rw[qk]
 by_cases hj:j=k
 ·grind
 ·rw[if_neg hj,if_neg hj]
  have:=h j
  cases hx:cF z.2.1 j with
  | none=>rw[hx]at this;exact this
  | some u =>
   rw[hx]at this
   obtain⟨l',h1,h2⟩:=this
   exact⟨l',h1,h2.mono hM⟩
def cD(ts:List Tk):HP:=Sep (ts.map pL)
def Gx(H:List HP):ak H (cD []::H):=ak.jO H
def zK(a b:List Tk)(y:Tk)(H:List HP):ak (cD (a++y::b)::H) (pL y::cD (a++b)::H):=by
 unfold cD
 rw[List.map_append,List.map_cons,List.map_append]
 refine(ak.cL _ _).trans ((ak.perm (H':=pL y::((a.map pL++b.map pL)++H)) ?_).trans (ak.cons _ (ak.bT _ _)))
 simp_all
def uV(a b:List Tk)(y:Tk)(H:List HP):ak (pL y::cD (a++b)::H) (cD (a++y::b)::H):=by
 unfold cD
 rw[List.map_append,List.map_append,List.map_cons]
 refine(ak.cons _ (ak.cL _ _)).trans ((ak.perm (H':=(a.map pL++pL y::b.map pL)++H) ?_).trans (ak.bT _ _))
 rw[List.append_assoc,List.append_assoc,List.cons_append]
 exact List.perm_middle.symm
def KR{ts:List Tk}{y:Tk}(h:ts[i]?=some y):ts=ts.take i++y::ts.drop (i+1):=by
 obtain⟨hi,rfl⟩:=List.getElem?_eq_some_iff.1 h
 simp_all
def zL{ts:List Tk}{y:Tk}(h:ts[i]?=some y)(H:List HP):ak (cD ts::H) (pL y::cD (ts.take i++ts.drop (i+1))::H):=by
 have:=zK (ts.take i) (ts.drop (i+1)) y H
 rwa[← KR h]at this
def Oo{ts:List Tk}{y:Tk}(h:ts[i]?=some y)(y':Tk)(H:List HP):ak (pL y'::cD (ts.take i++ts.drop (i+1))::H) (cD (ts.set i y')::H):=by
 have hi:=(List.getElem?_eq_some_iff.1 h).1
 rw[List.set_eq_take_append_cons_drop,if_pos hi]
 exact uV (ts.take i) (ts.drop (i+1)) y' H
def Gw{ts:List Tk}{y:Tk}(h:ts[i]?=some y)(H:List HP):ak (pL y::cD (ts.take i++ts.drop (i+1))::H) (cD ts::H):=by
 have:=uV (ts.take i) (ts.drop (i+1)) y H
 rwa[← KR h]at this
def gn(y:Tk):Value:=ptr y.yb
def kC(tb bs jb:Nat)(v:Value)(ts:List Tk)(br:Bool):List HP:=[ag tb (cl [ptr bs,ptr jb,v,.bool br] 216),aH 217 1 v ts.length (ts.map gn),cD ts]
def qD{ts:List Tk}{y:Tk}(h:ts[i]?=some y):(ts.map gn)[i]?=some (ptr y.yb):=by rw[List.getElem?_map,h];rfl
attribute [local irreducible] J K aw Ends ag aH au bE aW aJ a6 aZ
def vx(n:Nat)(h:n<9223372036854775808):aw Tryz.prog 422 [.int .i64 (n:Int)] [] (fun v H=>∃b,v = .slice (some ⟨b,0,none⟩) 4 4∧H=[ag b (cl (bV (Cq n)) 5)]):=by
 refine aw.ao Tryz.func422 Tryz.ntmps422 fun G F R hE=>?_
 (repeat(first|refine eK ?_|refine kr zr zr zr zr zr zr ?_|refine fL zr zr zr aj ?_))
 refine aC 4 (u8 (UInt8.ofNat n)) rfl (nz n) ?_
 refine aC 7 (u8 (UInt8.ofNat (n/256))) rfl (by rw[show(n:Int)/2 ^ (min (Int.toNat 8) IntKind.i64.bits)=((n/256:Nat):Int)from by show(n:Int)/256=_;omega];exact nz _) ?_
 refine aC 10 (u8 (UInt8.ofNat (n/65536))) rfl (by rw[show(n:Int)/2 ^ (min (Int.toNat 16) IntKind.i64.bits)=((n/65536:Nat):Int)from by show(n:Int)/65536=_;omega];exact nz _) ?_
 refine aC 13 (u8 (UInt8.ofNat (n/16777216))) rfl (by rw[show(n:Int)/2 ^ (min (Int.toNat 24) IntKind.i64.bits)=((n/16777216:Nat):Int)from by show(n:Int)/16777216=_;omega];exact nz _) ?_
 refine aq (cs:=bV (Cq n)) zr zr zr zr zr zr zr zr zr bq ?_
 intro b
 refine go ?_
 refine ad hE Tryz.func422 zr zr ⟨b,rfl,rfl⟩
def Bt(A:HP)(v:Value)(bs:List UInt8)(hv:Vw A v bs.length (bV bs))(h:4≤bs.length):aw Tryz.prog 301 [v] [A] (fun r H=>r = .int .i64 (pj bs:Int)∧H=[A]):=by
 obtain⟨b,o,c,rfl⟩:=Nc hv aj
 have hx:∀x:UInt8,x.toNat<256:=fun x=>x.toNat_lt
 have h0:=hx (bs.getD 0 0);have h1:=hx (bs.getD 1 0);have h2:=hx (bs.getD 2 0);have h3:=hx (bs.getD 3 0)
 refine aw.ao Tryz.func301 Tryz.ntmps301 fun G F R hE=>?_
 refine go ?_
 refine aO (fun w=>Sat G w ([A])) (k5 0 23 .nil) rfl ae ae ae dv ?_
 refine go ?_
 refine bD 0 zr zr zr zr zr zr zr zr aj ?_
 refine cV 0 0 zr zr zr hv rfl (uH aj) zr zr (go ?_)
 refine bD 1 zr zr zr zr zr zr zr zr aj ?_
 refine cV 0 1 zr zr zr hv rfl (uH aj) zr zr (go ?_)
 refine l4 zr zr zr aj ?_
 refine aC 11 (.int .i64 (((bs.getD 1 0).toNat*2 ^ 8:Nat):Int)) rfl (u9 (q:=8) _ rfl aj) (go ?_)
 refine aC 12 (.int .i64 (((bs.getD 0 0).toNat+(bs.getD 1 0).toNat*2 ^ 8:Nat):Int)) rfl (congrArg (Value.int .i64) (EH aj aj)) ?_
 refine bD 2 zr zr zr zr zr zr zr zr aj ?_
 refine cV 0 2 zr zr zr hv rfl (uH aj) zr zr (go ?_)
 refine l4 zr zr zr aj ?_
 refine aC 17 (.int .i64 (((bs.getD 2 0).toNat*2 ^ 16:Nat):Int)) rfl (u9 (q:=16) _ rfl aj) (go ?_)
 refine aC 18 (.int .i64 (((bs.getD 0 0).toNat+(bs.getD 1 0).toNat*2 ^ 8+(bs.getD 2 0).toNat*2 ^ 16:Nat):Int)) rfl (congrArg (Value.int .i64) (EH aj aj)) ?_
 refine bD 3 zr zr zr zr zr zr zr zr aj ?_
 refine cV 0 3 zr zr zr hv rfl (uH aj) zr zr (go ?_)
 refine l4 zr zr zr aj ?_
 refine aC 23 (.int .i64 (((bs.getD 3 0).toNat*2 ^ 24:Nat):Int)) rfl (u9 (q:=24) _ rfl aj) (go ?_)
 refine aQ 2 (.int .i64 (pj bs:Int)) rfl (congrArg (Value.int .i64) (EH aj aj)) ?_
 refine ad hE Tryz.func301 zr zr ⟨rfl,rfl⟩
def Kc(A B:HP)(v1 v2:Value)(b1 b2:List UInt8)(h1:Vw A v1 b1.length (bV b1))(h2:Vw B v2 b2.length (bV b2)):aw Tryz.prog 302 [v1,v2] [A,B] (fun r H=>r = .bool (decide (b1=b2))∧H=[A,B]):=by
 obtain⟨a1,c1,rfl⟩:=h1.shape
 obtain⟨a2,c2,rfl⟩:=h2.shape
 refine aw.ao Tryz.func302 Tryz.ntmps302 fun G F R hE=>?_
 refine go ?_
 refine A0 (U:=aY) 0 zr zr zr zr zr zr zr zr zr h1 (go ?_)
 refine A0 (U:=aY) 1 zr zr zr zr zr zr zr zr zr h2 (go ?_)
 rw[zf]
 refine ad hE Tryz.func302 zr zr ⟨rfl,rfl⟩
theorem J1(a b:Nat)(ha:a<4294967296)(hb:b<4294967296):aw Tryz.prog 266 [.int .u64 (a:Int),.int .u64 (b:Int)] [] (fun r H=>r = .tuple #[.int .u64 0,.int .u64 ((a*b:Nat):Int)]∧H=[]):=by
 have hab:a*b<18446744073709551616:=Nat.lt_of_lt_of_le (Nat.mul_lt_mul'' ha hb) aj
 have hw:∀x:Nat,x<18446744073709551616→IntKind.u64.wrap (x:Int)=(x:Int):=fun x hx=>cz (by simp only[fZ];omega)
 have hm:∀x:Nat,x<4294967296→IntKind.u64.wrap ((BitVec.ofInt IntKind.u64.bits (x:Int) &&& BitVec.ofInt IntKind.u64.bits 4294967295).toNat:Int)=(x:Int):=fun x hx=>by
  have:=rq x 32 aj aj
  grind
 have hs:∀x:Nat,x<4294967296→(x:Int)/2 ^ (min (Int.toNat 32) IntKind.u64.bits)=0:=fun x hx=>by show(x:Int)/4294967296=0;omega
 refine aw.ao Tryz.func266 Tryz.ntmps266 fun G F R hE=>?_
 refine go ?_
 refine aC 6 (.int .u64 (a:Int)) rfl (congrArg (Value.int .u64) (hm a ha)) ?_
 refine fL zr zr zr aj ?_
 refine aC 17 (.int .u64 0) rfl (congrArg (Value.int .u64) (hs a ha)) (go ?_)
 refine aC 8 (.int .u64 (b:Int)) rfl (congrArg (Value.int .u64) (hm b hb)) ?_
 refine fL zr zr zr aj ?_
 refine aC 21 (.int .u64 0) rfl (congrArg (Value.int .u64) (hs b hb)) (go ?_)
 refine iG zr zr zr (by rw[← Int.natCast_mul];simp only[fZ];omega) ?_
 refine aC 24 (.int .u64 ((a*b:Nat):Int)) rfl (by rw[Int.natCast_mul]) (go ?_)
 refine iG zr zr zr (by simp[fZ]) ?_
 refine aC 27 (.int .u64 0) rfl (by simp) (go ?_)
 refine fL zr zr zr aj ?_
 refine aC 29 (.int .u64 ((a*b/4294967296:Nat):Int)) rfl (congrArg (Value.int .u64) (by show((a*b:Nat):Int)/4294967296=_;omega)) ?_
 refine go ?_
 refine aC 11 (.int .u64 ((a*b/4294967296:Nat):Int)) rfl (congrArg (Value.int .u64) aj) (go ?_)
 have hq:a*b/4294967296<4294967296:=by omega
 refine aC 12 (.int .u64 ((a*b/4294967296:Nat):Int)) rfl (congrArg (Value.int .u64) (by rw[show(0:Int)+((a*b/4294967296:Nat):Int)=((a*b/4294967296:Nat):Int)from by omega];exact hm _ hq)) ?_
 refine fL zr zr zr aj ?_
 refine aC 34 (.int .u64 0) rfl (congrArg (Value.int .u64) (by simp only[Int.zero_add,Int.add_zero];exact hs _ hq)) ?_
 refine go ?_
 refine iG zr zr zr (by simp[fZ]) ?_
 refine aC 38 (.int .u64 0) rfl (by simp) (go ?_)
 refine iG zr zr zr (by simp[fZ]) ?_
 refine aC 42 (.int .u64 0) rfl (by simp) (go ?_)
 refine fL zr zr zr aj ?_
 refine aC 46 (.int .u64 0) rfl (congrArg (Value.int .u64) (by rw[show((a*b/4294967296:Nat):Int)+0=((a*b/4294967296:Nat):Int)from by omega];exact hs (a*b/4294967296) hq)) ?_
 refine go ?_
 refine iG zr zr zr (by rw[← Int.natCast_mul];simp only[fZ];omega) ?_
 refine aC 50 (.int .u64 ((a*b:Nat):Int)) rfl (by rw[Int.natCast_mul]) (go ?_)
 refine ad hE Tryz.func266 zr zr ⟨rfl,rfl⟩
def Qb(a b:Nat)(ha:a<4294967296)(hb:b<4294967296):aw Tryz.prog 499 [.int .u64 (a:Int),.int .u64 (b:Int)] [] (fun r H=>r = .tuple #[.int .u64 0,.int .u64 ((a*b:Nat):Int)]∧H=[]):=by
 refine aw.ao Tryz.func499 Tryz.ntmps499 fun G F R hE=>?_
 refine go ?_
 refine aF (J1 a b ha hb) ?_
 refine go ?_
 refine ad hE Tryz.func499 zr zr ⟨rfl,rfl⟩
theorem Dl(v:Value)(bs:List UInt8)(h0:0<bs.length)(hl:bs.length≤1000) :
  aw Tryz.prog 421 [v,.int .i64 2] [aH 5 1 v bs.length (bV bs)] (fun r H=>H=[aH 5 1 r (bs++bs).length (bV (bs++bs))]):=by
 refine aw.ao Tryz.func421 Tryz.ntmps421 fun G F R hE=>?_
 refine jP 0 rfl h0 ?_
 rintro b o c rfl hc _ dt
 refine go ?_
 refine aF (Qb bs.length 2 aj aj) ?_
 repeat'(first|(with_reducible intro kQ)|refine eK ?_|refine aD zr zr ?_ ?_)
 any_goals (exfalso;omega)
 obtain⟨N,hN⟩:∃N,N=bs.length*2:=⟨_,rfl⟩
 rw[← hN]
 refine A8 (U:=aY) (t:=37) (elem:=5) (q:=N) rfl Tryz.func500 zr zr ae zr zr zr zr aj (fun _ _ _ _=>trivial) ?_
 intro nb c2 l hc2 qZ
 refine go ?_
 refine J5 (U:=aY) (q:=(N:Int)) (r:=(N:Int)) zr zr zr zr zr zr zr aj aj aj ?_
 refine aC 57 (.slice (some ⟨nb,0,none⟩) N N) rfl (by rw[show((N:Int)).toNat=N from by omega];rw[SL.gK]) ?_
 refine go ?_
 refine HH (U:=aY) (src:=bV bs) (mm:=bs.length) (l':=bV bs++l.drop bs.length) 0 1 zr zr zr zr zr zr zr zr dt (by show _=_*1;rw[bK];omega) (fun u hu=>dL bs u (List.mem_of_mem_take hu)) (by show 0+_*1≤_;omega) ?_ rfl fE ?_
 ·show _=List.take 0 l++List.take (min bs.length N*1) (bV bs)++List.drop (0+min bs.length N*1) l
  grind
 rw[show((min bs.length N:Nat):Int)=(bs.length:Int)from by omega]
 refine go ?_
 refine bj (fun _:Bool=>True) (fun s=>bif s then 0 else 1)
  (fun s=>[(7,.int .i64 (N:Int)),(8,.int .i64 (N:Int)),(9,.slice (some ⟨nb,0,none⟩) N N),(10,.int .i64 ((bif s then N else bs.length:Nat):Int))])
  (fun s=>ag nb (cl (bif s then bV (bs++bs)++l.drop N else bV bs++l.drop bs.length) 5)::F) false trivial rfl bO ah ?_
 rintro s _ ih
 cases s with
 | true =>
  repeat'(first|(with_reducible intro kQ)|refine eK ?_|refine aD zr zr ?_ ?_)
  any_goals (exfalso;simp only[cond_true]at *;omega)
  simp only[cond_true]
  refine ai (eW 5 1 nb N N (bV (bs++bs)) (l.drop N) _ (by rw[bK,List.length_append];omega) (Nat.le_refl _) (by rw[bK,List.length_append,List.length_drop];omega)) ?_
  rw[show N=(bs++bs).length from by rw[List.length_append];omega]
  refine aL hE Tryz.func421 rfl _ zr zr ah
 | false =>
  repeat'(first|(with_reducible intro kQ)|refine eK ?_|refine aD zr zr ?_ ?_)
  any_goals (exfalso;simp only[cond_false]at *;omega)
  simp only[cond_false]
  rw[show min (bs.length:Int) (N:Int)=(bs.length:Int)from by omega]
  refine aO (fun w=>Sat G w ([])) (k5 0 7 (.act 7 (k5 8 2 .nil))) rfl ae ae ae dv ?_
  refine go ?_
  refine bo (p:=(bs.length:Int)) (q:=(N:Int)) zr zr zr zr zr zr zr aj aj (.inl rfl) ?_
  refine aC 70 (.slice (some ⟨nb,bs.length,none⟩) bs.length bs.length) rfl (by rw[show((N:Int)).toNat=N from by omega,show((bs.length:Int)).toNat=bs.length from by omega,show N-bs.length=bs.length from by omega];show Value.slice (sliceAt _ N bs.length 1) _ _=_;rw[qI _ _ _ _ _ aj,Nat.zero_add,Nat.mul_one]) ?_
  refine go ?_
  refine bo (p:=0) (q:=(bs.length:Int)) zr zr zr zr zr zr zr aj aj (.inr aj) ?_
  refine aC 73 (.slice (some ⟨nb,0,none⟩) bs.length N) rfl (by rw[show(0:Int).toNat=0 from rfl,show((bs.length:Int)).toNat=bs.length from by omega,SL.gK];rfl) ?_
  refine HH (U:=aY) (src:=bV bs) (mm:=bs.length) (l':=bV (bs++bs)++l.drop N) 0 0 zr zr zr zr zr zr zr zr (Vw.ag (by simp)) (by show _=_*1;rw[bK];omega) (fun u hu=>dL bs u (List.mem_of_mem_take hu)) (by show bs.length+_*1≤_;rw[List.length_append,bK,List.length_drop];omega) ?_ rfl (fun _ hw=>hw.cp (ak.Qo _)) ?_
  ·show _=List.take bs.length _++List.take (min bs.length bs.length*1) (bV bs)++List.drop (bs.length+min bs.length bs.length*1) _
   rw[show min bs.length bs.length*1=bs.length from by omega,List.take_of_length_le (l:=bV bs) (by rw[bK];omega),List.take_left' (bK bs),List.drop_append,bK,show(bV bs).drop (bs.length+bs.length)=[]from List.drop_eq_nil_of_le (by rw[bK];omega),List.drop_drop,show bs.length+(bs.length+bs.length-bs.length)=N from by omega]
   simp[bV]
  rw[show((min bs.length bs.length:Nat):Int)=(bs.length:Int)from by omega]
  refine go ?_
  refine aQ 10 (.int .i64 (N:Int)) rfl (congrArg (Value.int .i64) aj) ?_
  refine aK ih true rfl trivial (by simp) bO ah
def dW(n m:Nat):List UInt8:=(Cq n++Cq m)++(Cq n++Cq m)
def y6(n m:Nat):(dW n m).length=16:=rfl
def CK(n m:Nat)(h:n<9223372036854775808)(h2:m<9223372036854775808):aw Tryz.prog 303 [.int .i64 (n:Int),.int .i64 (m:Int)] [] (fun r H=>H=[aH 5 1 r (dW n m).length (bV (dW n m))]):=by
 refine aw.ao Tryz.func303 Tryz.ntmps303 fun G F R hE=>?_
 refine go ?_
 refine az (vx n h) ?_
 rintro _ _⟨b1,rfl,rfl⟩
 refine go ?_
 refine az (vx m h2) ?_
 rintro _ _⟨b2,rfl,rfl⟩
 refine aR (ak.pick [1] rfl) ?_
 refine aR (eW 5 1 b1 4 4 (bV (Cq n)) [] _ rfl (Nat.le_refl _) (by simp[bK,Ai])) ?_
 refine aU (mm:=4) (news:=bV (Cq m)) 0 1 zr zr zr zr zr zr zr zr zr zr zr zr (Vw.ag rfl) rfl (dL _) aj (by show(4+4)*1≤_;omega) (fun _=>rfl) bq ?_
 intro v1
 rw[show bV (Cq n)++bV (Cq m)=bV (Cq n++Cq m)from by simp[bV],show 4+4=(Cq n++Cq m).length from rfl]
 refine az (Dl v1 (Cq n++Cq m) (by simp[Ai]) (by simp[Ai])) ?_
 rintro r _ rfl
 refine go ?_
 refine aL hE Tryz.func303 rfl _ zr zr ah
def tP(A:HP)(v:Value)(bs:List UInt8)(hv:fb A v bs)(hl:bs.length≤1000000000000):aw Tryz.prog 211 [v] [A] (fun r H=>H=[aH 5 1 r (eo bs).length (bV (eo bs)),A]):=by
 obtain⟨a,c,rfl,hc⟩:=hv.2
 refine aw.ao Tryz.func211 Tryz.ntmps211 fun G F R hE=>?_
 refine go ?_
 refine az (kR bs.length aj) ?_
 rintro r _ rfl
 refine aM 0 rfl ?_
 rintro ra rc rfl
 refine go ?_
 have hu:=om (n:=bs.length) aj
 refine aU (mm:=bs.length) (news:=bV bs) 0 1 zr zr zr zr zr zr zr zr zr zr zr zr hv.1 (by show _=_*1;rw[bK];omega) (dL _) aj (by show(_+_)*1≤_;omega) (fun _=>rfl) bq ?_
 intro v1
 rw[show bV (uv bs.length)++bV bs=bV (eo bs)from by simp[bV,eo],show(uv bs.length).length+bs.length=(eo bs).length from by simp[eo]]
 refine go ?_
 refine aL hE Tryz.func211 rfl _ zr zr ah
theorem L6(A:HP)(v:Value)(bs:List UInt8)(hv:fb A v bs)(hl:bs.length≤9223372036854775807) :
    aw Tryz.prog 300 [v] [A] (fun r H=>r=(match nO bs with
      | some (k,n) => .tuple #[.int .i64 (k:Int),.int .i64 (n:Int),.bool (decide (n≤4096))]
      | none => .tuple #[.int .i64 0,.int .i64 0,.bool false])∧H=[A]):=by
  obtain⟨a,c,rfl,hc⟩:=hv.2
  refine aw.ao Tryz.func300 Tryz.ntmps300 fun G F R hE=>?_
  refine go ?_
  refine bj (fun k:Nat=>1≤k∧k≤3∧(2≤k→1≤bs.length∧dj (bs.take 1)=none)∧(3≤k→2≤bs.length∧dj (bs.take 2)=none)) (fun k=>3-k)
    (fun k=>[(0,.slice a bs.length c),(5,.int .i64 (k:Int))])
    (fun _=>A::F) 1 ⟨aj,aj,aj,aj⟩ rfl bO ah ?_
  rintro k⟨Kv,Bk,h1,h2⟩ ih
  refine go ?_
  refine aD zr zr ?_ ?_
  case' refine_2 =>
    intro eN
    have hn:nO bs=none:=by
      unfold nO
      split
      · obtain⟨_,h3⟩:=h1 aj
        rw[h3]
        simp only
        split
        · obtain⟨_,h4⟩:=h2 aj
          rw[h4];rfl
        · rfl
      · rfl
    rw[hn]at hE
    refine go ?_
    refine ad hE Tryz.func300 zr zr ⟨rfl,rfl⟩
  intro cB
  have QM:k≤bs.length:=by omega
  refine go ?_
  refine bo (p:=0) (q:=(k:Int)) zr zr zr zr zr zr zr aj aj (.inr aj) ?_
  have hf:=hv.front k QM
  refine aC 18 (.slice (sliceAt a c 0 1) k c) rfl (by rw[show(0:Int).toNat=0 from rfl,show((k:Int)).toNat=k from by omega];rfl) ?_
  ((refine az (kT A _ (bs.take k) hf (by rw[List.length_take];omega)) ?_))
  cases hu:dj (bs.take k)with
  | none =>
    rintro _ _⟨rfl,rfl⟩
    refine go ?_
    refine aK ih (k+1) rfl ⟨aj,aj,fun h=>by
      by_cases hk:k=1
      · grind
      · exact h1 aj,fun h=>by
      have hk:k=2:=by omega
      subst hk;exact⟨aj,hu⟩⟩ aj bO ah
  | some n =>
    rintro _ _⟨rfl,rfl⟩
    have agc:=mO hu (by rw[List.length_take];omega)
    have k7:nO bs=some (k,n):=by
      unfold nO
      rw[if_pos aj]
      by_cases hk:k=1
      · grind
      · have hk:k=2:=by omega
        grind
    rw[k7]at hE
    simp only at hE
    rw[show decide (n≤4096)=decide ((n:Int)≤4096)from decide_eq_decide.2 ⟨fun _=>by omega,fun _=>by omega⟩]at hE
    refine go ?_
    refine ad hE Tryz.func300 zr zr ⟨rfl,rfl⟩
def oL(b:List UInt8)(k last:Nat):Bool :=
 let h:=(b.drop (16*k)).take 16
 decide (last<pj h∧pj h≤1073741824∧pj h%2=k∧pj (h.drop 4)+32≤b.length∧h=dW (pj h) (pj (h.drop 4)))
def gO(b:List UInt8)(k:Nat)(s:Nat × Nat):Nat × Nat:=if oL b k s.1 then(pj ((b.drop (16*k)).take 16),pj (((b.drop (16*k)).take 16).drop 4))else s
def eS(b:List UInt8):List UInt8:=if b.length<32 then []else(b.drop 32).take (gO b 1 (gO b 0 (0,0))).2
def afp{b:List UInt8}(hk:16*k+16≤b.length):((b.drop (16*k)).take 16).length=16:=by rw[List.length_take,List.length_drop];omega
theorem Js(A:HP)(v:Value)(b:List UInt8)(hv:fb A v b)(hl:b.length≤9223372036854775807) :
  aw Tryz.prog 192 [v] [A] (fun r H=>fb A r (eS b)∧H=[A]):=by
 obtain⟨a,c,rfl,hc⟩:=hv.2
 refine aw.ao Tryz.func192 Tryz.ntmps192 fun G F R hE=>?_
 repeat'(first|(with_reducible intro kQ)|refine eK ?_|refine aD zr zr ?_ ?_)
 case' refine_1 =>
  have hn:eS b=[]:=by unfold eS;rw[if_pos aj]
  rw[hn]at hE
  refine ad hE Tryz.func192 zr zr ⟨⟨Ce A,none,0,rfl,Nat.le_refl _⟩,rfl⟩
 have agq:32≤b.length:=by omega
 refine bj (fun s:Nat × Nat × Nat=>s.1≤2∧(s.1=0→s.2=(0,0))∧(s.1=1→s.2=gO b 0 (0,0))∧(s.1=2→s.2=gO b 1 (gO b 0 (0,0)))∧s.2.2+32≤b.length∧s.2.1≤1073741824) (fun s=>2-s.1)
  (fun s=>[(0,.slice a b.length c),(3,.int .i64 (s.2.1:Int)),(4,.int .i64 (s.2.2:Int)),(12,.int .i64 (s.1:Int))])
  (fun _=>A::F) (0,0,0) ⟨aj,fun _=>rfl,aj,aj,by simp only;omega,by simp only;omega⟩ rfl bO ah ?_
 rintro⟨k,last,len⟩⟨hk,hk0,Kv,Bk,hlen,lB⟩ ih
 simp only at hk hk0 Kv Bk hlen lB
 refine go ?_
 refine aD zr zr ?_ ?_
 case' refine_2 =>
  intro eN
  simp only at eN
  have h2:=Bk aj
  have hf:eS b=(b.drop 32).take len:=by unfold eS;rw[if_neg aj,← h2]
  refine go ?_
  refine bo (p:=32) (q:=32+(len:Int)) zr zr zr zr zr zr zr aj aj (.inr aj) ?_
  have hp:=hv.piece 32 (32+len) aj aj
  rw[show 32+len-32=len from by omega,← hf]at hp
  refine aC 58 (.slice (sliceAt a c 32 1) len (c-32)) rfl (by rw[show(32:Int).toNat=32 from rfl,show(32+(len:Int)).toNat=32+len from by omega,show 32+len-32=len from by omega];rfl) ?_
  refine go ?_
  refine ad hE Tryz.func192 zr zr ⟨hp,rfl⟩
 intro cB
 simp only at cB
 have afc:16*k+16≤b.length:=by omega
 refine go ?_
 refine iG zr zr zr (by simp only[fZ];omega) ?_
 refine aC 17 (.int .i64 ((16*k:Nat):Int)) rfl (congrArg (Value.int .i64) (by simp only;omega)) ?_
 refine bo (p:=((16*k:Nat):Int)) (q:=(b.length:Int)) zr zr zr zr zr zr zr aj aj (.inl rfl) ?_
 refine aC 18 (.slice (sliceAt a c (16*k) 1) (b.length-16*k) (c-16*k)) rfl (by rw[show(((16*k:Nat):Int)).toNat=16*k from by omega,show((b.length:Int)).toNat=b.length from by omega];rfl) ?_
 have hh1:=hv.cut (16*k) aj
 refine bo (p:=0) (q:=16) zr zr zr zr zr zr zr aj aj (.inr aj) ?_
 obtain⟨hd,hhd⟩:∃hd,hd=(b.drop (16*k)).take 16:=⟨_,rfl⟩
 have QV:hd.length=16:=by rw[hhd];exact afp afc
 obtain⟨a1,ha1⟩:∃a1,a1=sliceAt (sliceAt a c (16*k) 1) (c-16*k) 0 1:=⟨_,rfl⟩
 have hh2:fb A (.slice a1 16 (c-16*k)) hd:=by
  rw[show b.length-16*k=(b.drop (16*k)).length from by rw[List.length_drop]]at hh1
  have:=hh1.front 16 (by rw[List.length_drop];omega)
  grind
 refine aC 19 (.slice a1 16 (c-16*k)) rfl (by rw[show(0:Int).toNat=0 from rfl,show(16:Int).toNat=16 from rfl,ha1];rfl) ?_
 refine go ?_
 refine aO (fun w=>Sat G w ([])) (.st 0 (.st 2 (.st 3 (.act 1 (.act 4 (.st 5 (.st 6 .nil))))))) rfl ae ae ae dv ?_
 refine go ?_
 refine bo (p:=4) (q:=16) zr zr zr zr zr zr zr aj aj (.inl rfl) ?_
 have hh3:=(show fb A (.slice a1 hd.length (c-16*k)) hd by rw[QV];exact hh2).cut 4 aj
 rw[QV]at hh3
 refine aC 23 (.slice (sliceAt a1 (c-16*k) 4 1) (16-4) (c-16*k-4)) rfl (by rw[show(4:Int).toNat=4 from rfl,show(16:Int).toNat=16 from rfl];rfl) ?_
 refine bP (Bt A _ hd hh2.1 aj) ?_
 ((refine cP (Bt A _ (hd.drop 4) hh3.1 (by rw[List.length_drop];omega)) ?_))
 rintro _ _⟨rfl,rfl⟩
 have hn:=L8 hd
 have hm:=L8 (hd.drop 4)
 have mL:oL b k last=decide (last<pj hd∧pj hd≤1073741824∧pj hd%2=k∧pj (hd.drop 4)+32≤b.length∧hd=dW (pj hd) (pj (hd.drop 4))):=by unfold oL;rw[← hhd]
 have ug:∀s':Nat × Nat,s'=gO b k (last,len)→s'.2+32≤b.length∧s'.1≤1073741824→(k+1≤2∧(k+1=0→s'=(0,0))∧(k+1=1→s'=gO b 0 (0,0))∧(k+1=2→s'=gO b 1 (gO b 0 (0,0)))∧s'.2+32≤b.length∧s'.1≤1073741824):=by
  grind
 have jC:oL b k last=false→(last,len)=gO b k (last,len):=fun h=>by unfold gO;rw[if_neg (by rw[h];simp)]
 have q4:oL b k last=true→(pj hd,pj (hd.drop 4))=gO b k (last,len):=fun h=>by unfold gO;rw[if_pos h,← hhd]
 repeat'(first|(with_reducible intro kQ)|refine eK ?_|refine ew zr zr zr zr ?_ ?_|refine tT zr zr zr aj aj ?_)
 any_goals (
  have hf:oL b k last=false:=by rw[mL];exact decide_eq_false (fun h=>by simp only at *;omega)
  refine aK ih (k+1,last,len) rfl (ug _ (jC hf) ⟨hlen,lB⟩) (by simp only;omega) bO ah)
 refine az (CK (pj hd) (pj (hd.drop 4)) aj aj) ?_
 rintro qX _ rfl
 refine eL 0 rfl ?_
 intro hvh
 refine aM 0 rfl ?_
 rintro xa xc rfl
 refine go ?_
 refine aF (Kc A (aH 5 1 (.slice xa (dW (pj hd) (pj (hd.drop 4))).length xc) (dW (pj hd) (pj (hd.drop 4))).length (bV (dW (pj hd) (pj (hd.drop 4))))) (.slice a1 16 (c-16*k)) (.slice xa (dW (pj hd) (pj (hd.drop 4))).length xc) hd (dW (pj hd) (pj (hd.drop 4))) hh2.1 hvh) ?_
 repeat'(first|(with_reducible intro kQ)|refine eK ?_|refine aD zr zr ?_ ?_)
 ·have hf:oL b k last=true:=by rw[mL];exact decide_eq_true (by refine⟨?_,?_,?_,?_,‹_›⟩ <;> (simp only at *;omega))
  refine go ?_
  refine aK ih (k+1,pj hd,pj (hd.drop 4)) rfl (ug _ (q4 hf) ⟨by simp only at *;omega,by simp only at *;omega⟩) (by simp only;omega) bO ah
 ·have hf:oL b k last=false:=by rw[mL];exact decide_eq_false (fun h=>‹¬_› h.2.2.2.2)
  refine aK ih (k+1,last,len) rfl (ug _ (jC hf) ⟨hlen,lB⟩) (by simp only;omega) bO ah
attribute [local irreducible] bI
def ph(h:nO bs=some (k,n)):1≤k∧k≤2∧k≤bs.length∧n<16384:=by
 unfold nO at h
 split at h
 ·rename_i h1
  split at h
  ·rename_i m hm
   cases h
   exact⟨aj,aj,h1,mO hm (by rw[List.length_take];omega)⟩
  ·split at h
   ·rename_i h2
    cases hu:dj (bs.take 2)with
    | none=>rw[hu]at h;cases h
    | some m =>
     rw[hu]at h
     cases h
     exact⟨aj,aj,h2,mO hu (by rw[List.length_take];omega)⟩
   ·cases h
 ·cases h
def fq:Nat→List UInt8→List (List UInt8)
 | 0,_=>[]
 | f+1,bs=>match nO bs with
  | none=>[]
  | some (k,n)=>if n≤4096∧k+n≤bs.length then(bs.drop k).take n::fq f (bs.drop (k+n))else []
theorem pN:∀(f g:Nat) (bs:List UInt8),bs.length≤f→bs.length≤g→fq f bs=fq g bs
 | 0,0,_,_,_=>rfl
 | 0,g+1,bs,hf,_=>by
  have:bs=[]:=List.eq_nil_of_length_eq_zero aj
  subst this;rfl
 | f+1,0,bs,_,hg=>by
  have:bs=[]:=List.eq_nil_of_length_eq_zero aj
  subst this;rfl
 | f+1,g+1,bs,hf,hg=>by
  unfold fq
  split
  ·rfl
  ·rename_i k n hl
   have:=ph hl
   split
   ·rw[pN f g _ (by rw[List.length_drop];omega) (by rw[List.length_drop];omega)]
   ·rfl
def bR(bs:List UInt8):List (List UInt8):=fq bs.length bs
def xJ(h:nO bs=none):bR bs=[]:=by
 unfold bR
 cases hl:bs.length with
 | zero=>rfl
 | succ f=>unfold fq;rw[h]
def qK(h:nO bs=some (k,n))(hb:¬(n≤4096∧k+n≤bs.length)):bR bs=[]:=by
 unfold bR
 cases hl:bs.length with
 | zero=>rfl
 | succ f=>unfold fq;rw[h];simp only;rw[if_neg hb]
theorem xK(h:nO bs=some (k,n))(hb:n≤4096∧k+n≤bs.length):bR bs=(bs.drop k).take n::bR (bs.drop (k+n)):=by
 have h1:=ph h
 unfold bR
 obtain⟨f,hf⟩:∃f,bs.length=f+1:=⟨bs.length-1,aj⟩
 grind [fq,pN]
def BS(a:Option Addr)(n c:Nat):aw Tryz.prog 191 [.slice a n c] [] (fun r H=>∃b,r = .func (.func 299) #[] #[ptr b]∧H=[ag b (cl [.slice a n c] 37)]):=by
 refine aw.ao Tryz.func191 Tryz.ntmps191 fun G F R hE=>?_
 refine go ?_
 refine bC zr zr bq ?_
 intro b
 refine go ?_
 refine ad hE Tryz.func191 zr zr ⟨b,rfl,rfl⟩
theorem zZ(A:HP)(l bx:Nat)(v:Value)(bs:List UInt8)(hv:fb A v bs)(hl:bs.length≤1000000000)(Lp:HP)(Inv:Nat→HP)(hy:∀i x,(bR bs)[i]?=some x→∀r,bI Tryz.prog l [r] [Lp,Inv i,aH 5 1 r x.length (bV x)] (fun v H=>v = .bool true∧H=[Lp,Inv (i+1)])) :
  aw Tryz.prog 299 [.func (.yield l) #[] #[],ptr bx] [Lp,ag bx (cl [v] 37),A,Inv 0] (fun _ H=>∃v',H=[Lp,ag bx (cl [v'] 37),A,Inv (bR bs).length]):=by
 refine aw.ao Tryz.func299 Tryz.ntmps299 fun G F R hE=>?_
 refine go ?_
 refine bj (fun y:Value × List UInt8 × Nat=>fb A y.1 y.2.1∧y.2.1.length≤bs.length∧bR y.2.1=(bR bs).drop y.2.2∧y.2.2≤(bR bs).length) (fun y=>y.2.1.length)
  (fun _=>[(0,.func (.yield l) #[] #[]),(1,ptr bx)])
  (fun y=>[Lp,ag bx (cl [y.1] 37),A,Inv y.2.2]++F) (v,bs,0) ⟨hv,Nat.le_refl _,by simp,Nat.zero_le _⟩ rfl bO ah ?_
 rintro⟨v1,rest,i⟩⟨k6,Ao,An,hr3⟩ ih
 simp only at k6 Ao An hr3
 have jW:bR rest=[]→i=(bR bs).length:=fun h=>by
  rw[An]at h
  have:(bR bs).length≤i:=by simpa using h
  omega
 obtain⟨a,c,rfl,hc⟩:=k6.2
 refine go ?_
 refine aF (L6 A _ rest k6 aj) ?_
 cases yY:nO rest with
 | none =>
  obtain rfl:=jW (xJ yY)
  refine go ?_
  refine ad hE Tryz.func299 zr zr ⟨_,rfl⟩
 | some kn =>
  obtain⟨k,n⟩:=kn
  have hp:=ph yY
  by_cases hn:n≤4096
  case neg =>
   have fR:bR rest=[]:=qK yY aj
   obtain rfl:=jW fR
   have hd:decide (n≤4096)=false:=decide_eq_false hn
   simp only[hd]
   refine go ?_
   refine ad hE Tryz.func299 zr zr ⟨_,rfl⟩
  have hd:decide (n≤4096)=true:=decide_eq_true hn
  simp only[hd]
  refine go ?_
  by_cases hk:(rest.length:Int)<(k:Int)+n
  case pos =>
   obtain rfl:=jW (qK yY aj)
   have CL:decide ((rest.length:Int)<(k:Int)+n)=true:=decide_eq_true hk
   simp only[CL]
   refine go ?_
   refine ad hE Tryz.func299 zr zr ⟨_,rfl⟩
  have CL:decide ((rest.length:Int)<(k:Int)+n)=false:=decide_eq_false hk
  simp only[CL]
  have CM:=xK yY ⟨hn,aj⟩
  obtain⟨x,hx⟩:∃x,x=(rest.drop k).take n:=⟨_,rfl⟩
  have Cu:x.length=n:=by rw[hx,List.length_take,List.length_drop];omega
  rw[← hx]at CM
  have Fg:(bR bs)[i]?=some x:=by
   have:=congrArg (fun l=>l[0]?) An
   grind
  have yX:bR (rest.drop (k+n))=(bR bs).drop (i+1):=by
   have:=congrArg (fun l=>l.drop 1) An
   simp only[CM,List.drop_drop]at this
   grind
  have xE:i+1≤(bR bs).length:=by
   grind
  have QG:=k6.piece k (k+n) aj aj
  rw[show k+n-k=n from by omega,← hx]at QG
  refine go ?_
  refine bo (p:=(k:Int)) (q:=((k+n:Nat):Int)) zr zr zr zr zr zr zr aj aj (.inr aj) ?_
  refine aC 29 (.slice (sliceAt a c k 1) n (c-k)) rfl (by rw[show((k:Int)).toNat=k from by omega,show(((k+n:Nat):Int)).toNat=k+n from by omega,show k+n-k=n from by omega];rfl) ?_
  refine go ?_
  refine az (gI A _ x QG.1 aj) ?_
  rintro r _ rfl
  refine go ?_
  refine gQ zr zr zr (hy i x Fg r) ah ?_ iM
  rintro _ _⟨rfl,rfl⟩
  refine go ?_
  refine bo (p:=((k+n:Nat):Int)) (q:=(rest.length:Int)) zr zr zr zr zr zr zr aj aj (.inl rfl) ?_
  have lg:=k6.cut (k+n) aj
  refine aC 38 (.slice (sliceAt a c (k+n) 1) (rest.length-(k+n)) (c-(k+n))) rfl (by rw[show(((k+n:Nat):Int)).toNat=k+n from by omega,show((rest.length:Int)).toNat=rest.length from by omega];rfl) ?_
  refine go ?_
  refine aK ih (.slice (sliceAt a c (k+n) 1) (rest.length-(k+n)) (c-(k+n)),rest.drop (k+n),i+1) rfl (⟨lg,by simp only[List.length_drop];omega,yX,xE⟩) (by simp only[List.length_drop];omega) bO ah
end Go.Proofs.YtjpboghdolfekaaGreatDoor
namespace Go.Proofs.YtjpboghdolfekaaGreatDoor
open Go Go.SL
def K0{e:TypeId}{sz n c:Nat}{a:Option Addr}{cs:List Value}(H:List HP):ak (aH e sz (.slice a n c) n cs::H) (aH e sz (.slice (sliceAt a c 0 sz) 0 c) 0 []::H) :=
 ak.fold (A:=aH e sz (.slice (sliceAt a c 0 sz) 0 c) 0 []) (B:=[aH e sz (.slice a n c) n cs]) fun h hs=>by
  refine⟨h,sub.refl h,?_⟩
  obtain⟨hl,⟨a',he,hn,hem⟩|⟨b,o,cap,pre,junk,he,hp,hn,hc,vW⟩⟩:=cT hs
  ·simp only[Value.slice.injEq]at he
   obtain⟨rfl,rfl,rfl⟩:=he
   exact⟨by simp,.inl ⟨_,rfl,rfl,hem⟩⟩
  ·simp only[Value.slice.injEq]at he
   obtain⟨rfl,-,rfl⟩:=he
   refine⟨by simp,.inr ⟨b,o,c,pre,cs++junk,?_,hp,Nat.zero_le _,by rw[List.length_append];simpa using hc,by simpa using vW⟩⟩
   unfold sliceAt
   split
   ·rfl
   ·simp[Addr.add]
attribute [local irreducible] J K aw Ends ag aH au bE aW aJ a6 aZ bI
def u4(ls:List (List UInt8))(i:Nat):((ls.take i).flatten).length≤ls.flatten.length:=by
 conv=>rhs;rw[← List.take_append_drop i ls,List.flatten_append,List.length_append]
 omega
def N2(n:Nat)(hn:n≤1000000000):aw Tryz.prog 423 [.slice none 0 0,.int .i64 (n:Int)] [] (fun r H=>H=[aH 5 1 r 0 []]):=by
 refine aw.ao Tryz.func423 Tryz.ntmps423 fun G F R hE=>?_
 (repeat(first|refine eK ?_|refine Ra (U:=aY) zr zr zr zr ?_))
 refine aQ 1 ((.int .i64 (n:Int))) rfl ((congrArg (Value.int .i64) aj)) ?_
 refine aD zr zr ?_ ?_
 ·intro nv
  have hp:0<n:=by omega
  (repeat(first|refine eK ?_|refine Ra (U:=aY) zr zr zr zr ?_))
  refine bo (p:=0) (q:=0) zr zr zr zr zr zr zr aj aj (.inr aj) ?_
  refine aC 20 (.slice none 0 0) zr zr ?_
  refine aR (bp 5 1 none _) ?_
  refine eL 0 rfl ?_
  intro qu
  refine go ?_
  refine Kb (U:=aY) (mm:=n) (cs:=[]) 0 zr zr zr zr zr zr zr zr zr zr zr zr qu rfl aj hp aj (by show _*1≤_;omega) (by show _*1≤_;omega) bq ?_
  intro v'
  refine aM 0 rfl ?_
  rintro a' c' rfl
  refine go ?_
  refine bo (p:=0) (q:=0) zr zr zr zr zr zr zr aj aj (.inr aj) ?_
  refine aC 25 (.slice (sliceAt a' c' 0 1) 0 c') zr zr ?_
  refine aR (K0 _) (go ?_)
  refine aL hE Tryz.func423 rfl _ zr zr ah
 ·intro hz
  have hz0:n=0:=by omega
  subst hz0
  refine go ?_
  refine ai (bp 5 1 none _) ?_
  refine aL hE Tryz.func423 rfl _ zr zr ah
def Gj(A:HP)(v:Value)(ls:List (List UInt8))(hv:qx A v ls)(hl:ls.flatten.length≤1000000000)(hn:ls.length≤1000000000):aw Tryz.prog 304 [v] [A] (fun r H=>H=[aH 5 1 r ls.flatten.length (bV ls.flatten),A]):=by
 obtain⟨cs,dt,jF,⟨a,c,rfl,hc⟩,rU⟩:=hv
 refine aw.ao Tryz.func304 Tryz.ntmps304 fun G F R hE=>?_
 refine go ?_
 refine bj (fun i:Nat=>i≤ls.length) (fun i=>ls.length-i)
  (fun i=>[(0,.slice a ls.length c),(9,.slice a ls.length c),(10,.int .i64 (ls.length:Int)),(11,.int .i64 (i:Int)),(3,.int .i64 (((ls.take i).flatten.length:Nat):Int))])
  (fun _=>A::F) 0 (Nat.zero_le _) rfl bO ah ?_
 rintro i hi ih
 refine go ?_
 refine aD zr zr ?_ ?_
 ·intro cB
  have k9:i<ls.length:=by omega
  obtain⟨x,hx⟩:∃x,ls[i]?=some x:=⟨ls[i],List.getElem?_eq_getElem k9⟩
  obtain⟨cv,n5,hb⟩:=rU i x hx
  obtain⟨b0,o0,c0,xU⟩:=dt.some (by intro h;rw[h]at n5;simp at n5)
  simp only[Value.slice.injEq]at xU
  obtain⟨rfl,-,rfl⟩:=xU
  refine go ?_
  refine bD i zr zr zr zr zr zr zr zr k9 ?_
  obtain⟨ax,cx,rfl,hcx⟩:=hb.2
  have ue:(ls.take (i+1)).flatten.length=(ls.take i).flatten.length+x.length:=by rw[List.take_add_one,hx];simp
  have hle:=u4 ls (i+1)
  refine aP 0 i zr zr zr dt rfl n5 zr zr (go ?_)
  refine aQ 3 ((.int .i64 (((ls.take (i+1)).flatten.length:Nat):Int))) rfl ((congrArg (Value.int .i64) aj)) ?_
  refine aK ih (i+1) rfl aj aj bO ah
 intro eN
 have dP:i=ls.length:=by omega
 subst dP
 rw[List.take_length]
 ((refine go ?_;(refine az (N2 ls.flatten.length hl) ?_)))
 rintro gv _ rfl
 refine aM 0 rfl ?_
 rintro ga gc rfl
 refine go ?_
 refine bj (fun i:Value × Nat=>i.2≤ls.length) (fun i=>ls.length-i.2)
  (fun i=>[(0,.slice a ls.length c),(25,.slice a ls.length c),(26,.int .i64 (ls.length:Int)),(27,.int .i64 (i.2:Int)),(6,i.1)])
  (fun i=>aH 5 1 i.1 (ls.take i.2).flatten.length (bV (ls.take i.2).flatten)::A::F) (.slice ga 0 gc,0) (Nat.zero_le _) rfl bO ah ?_
 rintro⟨v,i⟩ hi ih
 simp only at hi
 refine go ?_
 refine aD zr zr ?_ ?_
 ·intro cB
  simp only at cB
  have k9:i<ls.length:=by omega
  obtain⟨x,hx⟩:∃x,ls[i]?=some x:=⟨ls[i],List.getElem?_eq_getElem k9⟩
  obtain⟨cv,n5,hb⟩:=rU i x hx
  obtain⟨b0,o0,c0,xU⟩:=dt.some (by intro h;rw[h]at n5;simp at n5)
  simp only[Value.slice.injEq]at xU
  obtain⟨rfl,-,rfl⟩:=xU
  refine go ?_
  refine bD i zr zr zr zr zr zr zr zr k9 ?_
  obtain⟨ax,cx,rfl,hcx⟩:=hb.2
  have ue:(ls.take (i+1)).flatten=(ls.take i).flatten++x:=by rw[List.take_add_one,hx];simp
  have eR:(ls.take (i+1)).flatten.length=(ls.take i).flatten.length+x.length:=by rw[ue,List.length_append]
  have hle:=u4 ls (i+1)
  refine aP 1 i zr zr zr dt rfl n5 zr zr ?_
  refine aM 0 rfl ?_
  intro av cv vS
  simp only at vS
  subst vS
  refine go ?_
  refine aU (mm:=x.length) (news:=bV x) 0 1 zr zr zr zr zr zr zr zr zr zr zr zr hb.1 (by show _=_*1;rw[bK];omega) (dL _) (by simp only;omega) (by show(_+_)*1≤_;simp only;omega) (fun _=>rfl) bq ?_
  intro v1
  simp only
  rw[show bV (ls.take i).flatten++bV x=bV (ls.take (i+1)).flatten from by rw[ue];simp[bV],← eR]
  refine go ?_
  refine aK ih (v1,i+1) rfl (by simp only;omega) (by simp only;omega) bO ah
 intro eN
 simp only at eN
 have dP:i=ls.length:=by omega
 subst dP
 rw[List.take_length]
 refine cU 0 rfl ?_
 intro av cv vS
 simp only at vS
 subst vS
 refine go ?_
 refine aL hE Tryz.func304 rfl _ zr zr ah
theorem P6{σ:Type}(I:σ→HP)(V:HP)(v:Value)(nT:List Value)(hv:Vw V v nT.length nT)(hn:nT.length≤1000000000)(ss:List (σ→Nat→σ→Prop))(hlen:ss.length=nT.length)(Q:Nat→σ→Prop)(dE:∀(i:Nat) (fv:Value) (s:σ→Nat→σ→Prop),nT[i]?=some fv→ss[i]?=some s→∃g fi cap,fv = .func (.func g) fi cap∧∀x,Q i x→aw Tryz.prog g (fi.toList++cap.toList) [I x] (fun r H=>∃(e:Nat) (x':σ),r = .int .i64 (e:Int)∧H=[I x']∧s x e x'∧(e=0→Q (i+1) x')))(x0:σ)(hQ:Q 0 x0) :
  aw Tryz.prog 306 [v] [V,I x0] (fun r H=>∃(e:Nat) (x':σ),r = .int .i64 (e:Int)∧H=[V,I x']∧sT ss x0 e x'):=by
 obtain⟨a,c,rfl⟩:=hv.shape
 refine aw.ao Tryz.func306 Tryz.ntmps306 fun G F R hE=>?_
 refine go ?_
 refine bj (fun y:Nat × σ=>y.1≤nT.length∧Q y.1 y.2∧∀e x',sT (ss.drop y.1) y.2 e x'→sT ss x0 e x') (fun y=>nT.length-y.1)
  (fun y=>[(0,.slice a nT.length c),(6,.slice a nT.length c),(7,.int .i64 (nT.length:Int)),(8,.int .i64 (y.1:Int))])
  (fun y=>V::I y.2::F) (0,x0) ⟨Nat.zero_le _,hQ,fun _ _ h=>h⟩ rfl bO ah ?_
 rintro⟨i,x⟩⟨hi,hq,hr⟩ ih
 refine go ?_
 refine aD zr zr ?_ ?_
 ·intro cB
  have k9:i<nT.length:=by omega
  obtain⟨fv,Pu⟩:∃fv,nT[i]?=some fv:=⟨nT[i],List.getElem?_eq_getElem k9⟩
  obtain⟨s,hs⟩:∃s,ss[i]?=some s:=⟨ss[i],List.getElem?_eq_getElem aj⟩
  obtain⟨g,fi,cap,rfl,hc⟩:=dE i fv s Pu hs
  have jT:ss.drop i=s::ss.drop (i+1):=by
   rw[List.drop_eq_getElem_cons aj]
   grind
  obtain⟨b0,o0,c0,xU⟩:=hv.some (by intro h;rw[h]at k9;simp at k9)
  obtain⟨rfl,-,rfl⟩:=xU
  refine go ?_
  refine bD i zr zr zr zr zr zr zr zr k9 ?_
  refine aP 0 i zr zr zr hv rfl Pu zr zr (go ?_)
  refine il zr zr zr (by simp) (hc x hq) ah ?_ iM
  rintro _ _⟨e,x',rfl,rfl,Qw,QC⟩
  refine go ?_
  refine aD zr zr ?_ ?_
  ·intro gf
   have he:e≠0:=by omega
   refine go ?_
   ((refine ad hE Tryz.func306 zr zr ⟨e,x',rfl,rfl,hr e x' (by rw[jT];exact⟨e,x',Qw,.inl ⟨he,rfl,rfl⟩⟩)⟩))
  ·intro heq
   have he:e=0:=by omega
   refine go ?_
   refine aK ih (i+1,x') rfl (⟨by simp only;omega,QC he,fun e2 x2 h2=>hr e2 x2 (by rw[jT];exact⟨e,x',Qw,.inr ⟨he,h2⟩⟩)⟩) aj bO ah
 ·intro eN
  have dP:i=nT.length:=by omega
  refine go ?_
  ((refine ad hE Tryz.func306 zr zr ⟨0,x,rfl,rfl,hr 0 x (by rw[List.drop_eq_nil_of_le aj];exact⟨rfl,rfl⟩)⟩))
attribute [local irreducible] aG
def LB(bd jb xj xf xw xb:Nat)(name fresh:ByteArray)(wa ba:Option Addr)(wc bl bc:Nat)(whole:List UInt8)(br:Bool)(A:Ab)(n s c:Int)(dE:A.aI.length≤1000000000) :
  aw Tryz.prog 305 [ptr xj,ptr xf] ([aG bd A,ag jb (cl [ptr bd,.string name,.int .i64 n,.int .i64 s,.int .i64 c,.bool br] 327),ag xj (cl [ptr jb] 213),ag xf (cl [.string fresh] 9),ag xw (cl [.slice wa whole.length wc] 37),ag xb (cl [.slice ba bl bc] 37),aH 5 1 (.slice wa whole.length wc) whole.length (bV whole)]) (fun r H=>∃(e:Nat) (A1:Ab),e=(A.remove (isName fresh) fresh).1∧A1=(A.remove (isName fresh) fresh).2∧r = .int .i64 (e:Int)∧H=[aG bd A1,ag jb (cl [ptr bd,.string name,.int .i64 n,.int .i64 s,.int .i64 c,.bool br] 327),ag xj (cl [ptr jb] 213),ag xf (cl [.string fresh] 9),ag xw (cl [.slice wa whole.length wc] 37),ag xb (cl [.slice ba bl bc] 37),aH 5 1 (.slice wa whole.length wc) whole.length (bV whole)]):=by
 refine aw.ao Tryz.func305 Tryz.ntmps305 fun G F R hE=>?_
 refine go ?_
 refine aO (fun w=>Sat G w ([ag jb (cl [ptr bd,.string name,.int .i64 n,.int .i64 s,.int .i64 c,.bool br] 327),ag xj (cl [ptr jb] 213),ag xf (cl [.string fresh] 9),ag xw (cl [.slice wa whole.length wc] 37),aH 5 1 (.slice wa whole.length wc) whole.length (bV whole)])) (cM 0 5 (.act 5 (.st 6 .nil))) rfl ae ae ae dv ?_
 refine go ?_
 refine bP (zz bd A fresh dE) ?_
 refine go ?_
 refine ad hE Tryz.func305 zr zr ⟨_,_,rfl,rfl,rfl,rfl⟩
def Lz(bd jb xj xf xw xb:Nat)(name fresh:ByteArray)(wa ba:Option Addr)(wc bl bc:Nat)(whole:List UInt8)(br:Bool)(A:Ab)(n s c:Int)(dE:A.aI.length≤1000000000) :
  aw Tryz.prog 307 [ptr xj,ptr xf] ([aG bd A,ag jb (cl [ptr bd,.string name,.int .i64 n,.int .i64 s,.int .i64 c,.bool br] 327),ag xj (cl [ptr jb] 213),ag xf (cl [.string fresh] 9),ag xw (cl [.slice wa whole.length wc] 37),ag xb (cl [.slice ba bl bc] 37),aH 5 1 (.slice wa whole.length wc) whole.length (bV whole)]) (fun r H=>∃(e:Nat) (A1:Ab),(∃f,f ∉ A.fs.map (·.1)∧e=(A.create (isName fresh) fresh f).1∧A1=(A.create (isName fresh) fresh f).2)∧r = .int .i64 (e:Int)∧H=[aG bd A1,ag jb (cl [ptr bd,.string name,.int .i64 n,.int .i64 s,.int .i64 c,.bool br] 327),ag xj (cl [ptr jb] 213),ag xf (cl [.string fresh] 9),ag xw (cl [.slice wa whole.length wc] 37),ag xb (cl [.slice ba bl bc] 37),aH 5 1 (.slice wa whole.length wc) whole.length (bV whole)]):=by
 refine aw.ao Tryz.func307 Tryz.ntmps307 fun G F R hE=>?_
 refine go ?_
 refine aO (fun w=>Sat G w ([ag jb (cl [ptr bd,.string name,.int .i64 n,.int .i64 s,.int .i64 c,.bool br] 327),ag xj (cl [ptr jb] 213),ag xf (cl [.string fresh] 9),ag xw (cl [.slice wa whole.length wc] 37),aH 5 1 (.slice wa whole.length wc) whole.length (bV whole)])) (cM 0 5 (.act 5 (.st 6 .nil))) rfl ae ae ae dv ?_
 refine go ?_
 refine cP (sW bd A fresh dE) ?_
 rintro _ _⟨f,hf,rfl,rfl⟩
 refine go ?_
 refine ad hE Tryz.func307 zr zr ⟨_,_,⟨f,hf,rfl,rfl⟩,rfl,rfl⟩
def Lx(bd jb xj xf xw xb:Nat)(name fresh:ByteArray)(wa ba:Option Addr)(wc bl bc:Nat)(whole:List UInt8)(br:Bool)(A:Ab)(n s c:Int)(k4:A.writes.length≤1000000000)(uj:whole.length≤1000000000) :
  aw Tryz.prog 308 [ptr xj,ptr xf,ptr xw] ([aG bd A,ag jb (cl [ptr bd,.string name,.int .i64 n,.int .i64 s,.int .i64 c,.bool br] 327),ag xj (cl [ptr jb] 213),ag xf (cl [.string fresh] 9),ag xw (cl [.slice wa whole.length wc] 37),ag xb (cl [.slice ba bl bc] 37),aH 5 1 (.slice wa whole.length wc) whole.length (bV whole)]) (fun r H=>∃(e:Nat) (A1:Ab),e=(A.write (kF fresh 0 whole) fresh 0 whole).1∧A1=(A.write (kF fresh 0 whole) fresh 0 whole).2∧r = .int .i64 (e:Int)∧H=[aG bd A1,ag jb (cl [ptr bd,.string name,.int .i64 n,.int .i64 s,.int .i64 c,.bool br] 327),ag xj (cl [ptr jb] 213),ag xf (cl [.string fresh] 9),ag xw (cl [.slice wa whole.length wc] 37),ag xb (cl [.slice ba bl bc] 37),aH 5 1 (.slice wa whole.length wc) whole.length (bV whole)]):=by
 refine aw.ao Tryz.func308 Tryz.ntmps308 fun G F R hE=>?_
 refine go ?_
 refine aO (fun w=>Sat G w ([ag jb (cl [ptr bd,.string name,.int .i64 n,.int .i64 s,.int .i64 c,.bool br] 327),ag xj (cl [ptr jb] 213),ag xf (cl [.string fresh] 9),ag xw (cl [.slice wa whole.length wc] 37),aH 5 1 (.slice wa whole.length wc) whole.length (bV whole)])) (cM 0 6 (.act 6 (.st 7 .nil))) rfl ae ae ae dv ?_
 refine go ?_
 refine eL 6 rfl ?_
 intro dt
 refine go ?_
 refine aS ?_
 refine gm (U:=aY) 3 zr zr zr zr zr zr (go ?_)
 refine bP (Nn bd A fresh 0 _ _ whole dt k4 uj aj) ?_
 refine go ?_
 refine ad hE Tryz.func308 zr zr ⟨_,_,rfl,rfl,rfl,rfl⟩
def Lv(bd jb xj xf xw xb:Nat)(name fresh:ByteArray)(wa ba:Option Addr)(wc bl bc:Nat)(whole:List UInt8)(br:Bool)(A:Ab)(n s c:Int)(k4:A.writes.length≤1000000000) :
  aw Tryz.prog 309 [ptr xj,ptr xf] ([aG bd A,ag jb (cl [ptr bd,.string name,.int .i64 n,.int .i64 s,.int .i64 c,.bool br] 327),ag xj (cl [ptr jb] 213),ag xf (cl [.string fresh] 9),ag xw (cl [.slice wa whole.length wc] 37),ag xb (cl [.slice ba bl bc] 37),aH 5 1 (.slice wa whole.length wc) whole.length (bV whole)]) (fun r H=>∃(e:Nat) (A1:Ab),e=(A.sync (isName fresh) fresh).1∧A1=(A.sync (isName fresh) fresh).2∧r = .int .i64 (e:Int)∧H=[aG bd A1,ag jb (cl [ptr bd,.string name,.int .i64 n,.int .i64 s,.int .i64 c,.bool br] 327),ag xj (cl [ptr jb] 213),ag xf (cl [.string fresh] 9),ag xw (cl [.slice wa whole.length wc] 37),ag xb (cl [.slice ba bl bc] 37),aH 5 1 (.slice wa whole.length wc) whole.length (bV whole)]):=by
 refine aw.ao Tryz.func309 Tryz.ntmps309 fun G F R hE=>?_
 refine go ?_
 refine aO (fun w=>Sat G w ([ag jb (cl [ptr bd,.string name,.int .i64 n,.int .i64 s,.int .i64 c,.bool br] 327),ag xj (cl [ptr jb] 213),ag xf (cl [.string fresh] 9),ag xw (cl [.slice wa whole.length wc] 37),aH 5 1 (.slice wa whole.length wc) whole.length (bV whole)])) (cM 0 5 (.act 5 (.st 6 .nil))) rfl ae ae ae dv ?_
 refine go ?_
 refine bP (P9 bd A fresh k4) ?_
 refine go ?_
 refine ad hE Tryz.func309 zr zr ⟨_,_,rfl,rfl,rfl,rfl⟩
def Lt(bd jb xj xf xw xb:Nat)(name fresh:ByteArray)(wa ba:Option Addr)(wc bl bc:Nat)(whole:List UInt8)(br:Bool)(A:Ab)(n s c:Int)(dE:A.aI.length≤1000000000) :
  aw Tryz.prog 311 [ptr xj,ptr xf] ([aG bd A,ag jb (cl [ptr bd,.string name,.int .i64 n,.int .i64 s,.int .i64 c,.bool br] 327),ag xj (cl [ptr jb] 213),ag xf (cl [.string fresh] 9),ag xw (cl [.slice wa whole.length wc] 37),ag xb (cl [.slice ba bl bc] 37),aH 5 1 (.slice wa whole.length wc) whole.length (bV whole)]) (fun r H=>∃(e:Nat) (A1:Ab),e=(A.rename ([fresh,name].all isName) fresh name).1∧A1=(A.rename ([fresh,name].all isName) fresh name).2∧r = .int .i64 (e:Int)∧H=[aG bd A1,ag jb (cl [ptr bd,.string name,.int .i64 n,.int .i64 s,.int .i64 c,.bool br] 327),ag xj (cl [ptr jb] 213),ag xf (cl [.string fresh] 9),ag xw (cl [.slice wa whole.length wc] 37),ag xb (cl [.slice ba bl bc] 37),aH 5 1 (.slice wa whole.length wc) whole.length (bV whole)]):=by
 refine aw.ao Tryz.func311 Tryz.ntmps311 fun G F R hE=>?_
 refine go ?_
 refine aO (fun w=>Sat G w ([ag jb (cl [ptr bd,.string name,.int .i64 n,.int .i64 s,.int .i64 c,.bool br] 327),ag xj (cl [ptr jb] 213),ag xf (cl [.string fresh] 9),ag xw (cl [.slice wa whole.length wc] 37),aH 5 1 (.slice wa whole.length wc) whole.length (bV whole)])) (cM 0 9 (.act 9 (.st 10 .nil))) rfl ae ae ae dv ?_
 refine go ?_
 refine bP (JQ bd A fresh name dE) ?_
 refine go ?_
 refine ad hE Tryz.func311 zr zr ⟨_,_,rfl,rfl,rfl,rfl⟩
def Lr(bd jb xj xf xw xb:Nat)(name fresh:ByteArray)(wa ba:Option Addr)(wc bl bc:Nat)(whole:List UInt8)(br:Bool)(A:Ab)(n s c:Int) :
  aw Tryz.prog 313 [ptr xb,ptr xj] ([aG bd A,ag jb (cl [ptr bd,.string name,.int .i64 n,.int .i64 s,.int .i64 c,.bool br] 327),ag xj (cl [ptr jb] 213),ag xf (cl [.string fresh] 9),ag xw (cl [.slice wa whole.length wc] 37),ag xb (cl [.slice ba bl bc] 37),aH 5 1 (.slice wa whole.length wc) whole.length (bV whole)]) (fun r H=>r = .int .i64 0∧H=[aG bd A,ag jb (cl [ptr bd,.string name,.int .i64 1,.int .i64 (bl:Int),.int .i64 (bl:Int),.bool br] 327),ag xj (cl [ptr jb] 213),ag xf (cl [.string fresh] 9),ag xw (cl [.slice wa whole.length wc] 37),ag xb (cl [.slice ba bl bc] 37),aH 5 1 (.slice wa whole.length wc) whole.length (bV whole)]):=by
 refine aw.ao Tryz.func313 Tryz.ntmps313 fun G F R hE=>?_
 refine go ?_
 refine aO (fun w=>Sat G w ([ag xj (cl [ptr jb] 213),ag xb (cl [.slice ba bl bc] 37)])) (cM 0 9 (.act 9 (.st 10 (.st 11 (.act 12 (.st 13 (.st 14 (.act 15 .nil)))))))) rfl ae ae ae dv ?_
 refine go ?_
 refine aX ?_
 refine bG 1 (fun w hw=>by exact hw.cp ah) zr zr zr zr zr zr zr zr zr ?_
 refine go ?_
 refine aX ?_
 refine bG 1 (fun w hw=>by exact hw.cp ah) zr zr zr zr zr zr zr zr zr ?_
 refine go ?_
 refine ad hE Tryz.func313 zr zr ⟨rfl,rfl⟩
end Go.Proofs.YtjpboghdolfekaaGreatDoor
namespace Go.Proofs.YtjpboghdolfekaaGreatDoor
open Go Go.SL
abbrev PS:=Ab × Int × Int × Int
def onA(g:Ab→Nat→Ab→Prop)(x:PS)(e:Nat)(y:PS):Prop:=g x.1 e y.1∧y.2=x.2
def zU(fresh:ByteArray):=onA fun A e B=>e=(A.remove (isName fresh) fresh).1∧B=(A.remove (isName fresh) fresh).2
def zV(fresh:ByteArray):=onA fun A e B=>∃f,f ∉ A.fs.map (·.1)∧e=(A.create (isName fresh) fresh f).1∧B=(A.create (isName fresh) fresh f).2
def En(fresh:ByteArray)(whole:List UInt8):=onA fun A e B=>e=(A.write (kF fresh 0 whole) fresh 0 whole).1∧B=(A.write (kF fresh 0 whole) fresh 0 whole).2
def K8(fresh:ByteArray):=onA fun A e B=>e=(A.sync (isName fresh) fresh).1∧B=(A.sync (isName fresh) fresh).2
def zT(fresh name:ByteArray):=onA fun A e B=>e=(A.rename ([fresh,name].all isName) fresh name).1∧B=(A.rename ([fresh,name].all isName) fresh name).2
def Eo:=onA fun A e B=>e=A.cq.1∧B=A.cq.2
def ZL(bl:Nat)(x:PS)(e:Nat)(y:PS):Prop:=e=0∧y=(x.1,1,(bl:Int),(bl:Int))
def bW(name:ByteArray):ByteArray:=name++⟨#[46,110,101,119]⟩
def db(ls:List (List UInt8)):List UInt8:=List.replicate 16 0++dW 1 (ls.flatMap eo).length++ls.flatMap eo
def gw(name:ByteArray)(ls:List (List UInt8))(A:Ab):List (PS→Nat→PS→Prop) :=
 (if(A.size (bW name)).2=0 then [zU (bW name)]else []) ++
 [zV (bW name),En (bW name) (db ls),K8 (bW name),zT (bW name) name,Eo,ZL (ls.flatMap eo).length]
def AU(name:ByteArray)(ls:List (List UInt8))(x:PS)(e:Nat)(y:PS):Prop:=sT (gw name ls x.1) x e y
attribute [local irreducible] J K aw Ends ag aH au bE aW aJ a6 aZ bI aG
def _root_.Go.SL.ak.pY(l:List HP):ak [Sep l] l:=by have:=ak.cL l [];rwa[List.append_nil]at this
def _root_.Go.SL.ak.p9(l:List HP):ak l [Sep l]:=by have:=ak.bT l [];rwa[List.append_nil]at this
def PI(bd jb xj xf xw xb:Nat)(name fresh:ByteArray)(wa ba:Option Addr)(wc bl bc:Nat)(whole:List UInt8)(br:Bool)(x:PS):HP:=Sep [aG bd x.1,ag jb (cl [ptr bd,.string name,.int .i64 x.2.1,.int .i64 x.2.2.1,.int .i64 x.2.2.2,.bool br] 327),ag xj (cl [ptr jb] 213),ag xf (cl [.string fresh] 9),ag xw (cl [.slice wa whole.length wc] 37),ag xb (cl [.slice ba bl bc] 37),aH 5 1 (.slice wa whole.length wc) whole.length (bV whole)]
def PQ(i:Nat)(x:PS):Prop:=x.1.aI.length≤900000000+i∧x.1.writes.length≤900000000+i
def PQ.next{i:Nat}{x:PS}(h:PQ i x){B:Ab}(g:kY x.1 B):PQ (i+1) (B,x.2):=by
 obtain⟨h1,h2⟩:=h
 obtain⟨g1,g2⟩:=g
 exact⟨by simp only;omega,by simp only;omega⟩
end Go.Proofs.YtjpboghdolfekaaGreatDoor
namespace Go.Proofs.YtjpboghdolfekaaGreatDoor
open Go Go.SL
def JB{P:Program}{f:FuncId}{args:List Value}{Pre:List HP}{Post:Value→List HP→Prop}(X:List HP)(c:aw P f args Pre Post):aw P f args (Pre++X) (fun v H=>∃H',Post v H'∧H=H'++X) :=
 ⟨c.1,fun G w F hw=>(c.2 G w (X++F) (by rw[List.append_assoc]at hw;exact hw)).mono fun e w' h'=>let ⟨v,H,he,Pc,hs⟩:=h';⟨v,H++X,he,⟨H,Pc,rfl⟩,by rw[List.append_assoc];exact hs⟩⟩
attribute [local irreducible] J K aw Ends ag aH au bE aW aJ a6 aZ bI aG
def ZR(bd jb xj xf xw xb:Nat)(name fresh:ByteArray)(wa ba:Option Addr)(wc bl bc:Nat)(whole:List UInt8)(br:Bool)(i:Nat)(hi:i≤10)(x:PS)(hq:PQ i x) :
  aw Tryz.prog 305 [ptr xj,ptr xf] [PI bd jb xj xf xw xb name fresh wa ba wc bl bc whole br x] (fun r H=>∃(e:Nat) (x':PS),r = .int .i64 (e:Int)∧H=[PI bd jb xj xf xw xb name fresh wa ba wc bl bc whole br x']∧zU fresh x e x'∧(e=0→PQ (i+1) x')) :=
 (LB bd jb xj xf xw xb name fresh wa ba wc bl bc whole br x.1 x.2.1 x.2.2.1 x.2.2.2 (by have:=hq.1;omega)).conv (ak.pY _) (by
  rintro v H⟨e,A1,he,xF,rfl,rfl⟩
  exact⟨_,⟨_,(A1,x.2),rfl,rfl,⟨⟨he,xF⟩,rfl⟩,fun _=>hq.next (xF ▸ oN _ _ _)⟩,ak.p9 _⟩)
def LA(bd jb xj xf xw xb:Nat)(name fresh:ByteArray)(wa ba:Option Addr)(wc bl bc:Nat)(whole:List UInt8)(br:Bool)(i:Nat)(hi:i≤10)(x:PS)(hq:PQ i x) :
  aw Tryz.prog 307 [ptr xj,ptr xf] [PI bd jb xj xf xw xb name fresh wa ba wc bl bc whole br x] (fun r H=>∃(e:Nat) (x':PS),r = .int .i64 (e:Int)∧H=[PI bd jb xj xf xw xb name fresh wa ba wc bl bc whole br x']∧zV fresh x e x'∧(e=0→PQ (i+1) x')) :=
 (Lz bd jb xj xf xw xb name fresh wa ba wc bl bc whole br x.1 x.2.1 x.2.2.1 x.2.2.2 (by have:=hq.1;omega)).conv (ak.pY _) (by
  rintro v H⟨e,A1,⟨f,hf,he,xF⟩,rfl,rfl⟩
  exact⟨_,⟨_,(A1,x.2),rfl,rfl,⟨⟨f,hf,he,xF⟩,rfl⟩,fun _=>hq.next (xF ▸ oO _ _ _ _)⟩,ak.p9 _⟩)
def Ly(bd jb xj xf xw xb:Nat)(name fresh:ByteArray)(wa ba:Option Addr)(wc bl bc:Nat)(whole:List UInt8)(br:Bool)(i:Nat)(hi:i≤10)(uj:whole.length≤1000000000)(x:PS)(hq:PQ i x) :
  aw Tryz.prog 308 [ptr xj,ptr xf,ptr xw] [PI bd jb xj xf xw xb name fresh wa ba wc bl bc whole br x] (fun r H=>∃(e:Nat) (x':PS),r = .int .i64 (e:Int)∧H=[PI bd jb xj xf xw xb name fresh wa ba wc bl bc whole br x']∧En fresh whole x e x'∧(e=0→PQ (i+1) x')) :=
 (Lx bd jb xj xf xw xb name fresh wa ba wc bl bc whole br x.1 x.2.1 x.2.2.1 x.2.2.2 (by have:=hq.2;omega) uj).conv (ak.pY _) (by
  rintro v H⟨e,A1,he,xF,rfl,rfl⟩
  exact⟨_,⟨_,(A1,x.2),rfl,rfl,⟨⟨he,xF⟩,rfl⟩,fun _=>hq.next (xF ▸ we _ _ _ _ _)⟩,ak.p9 _⟩)
def Lw(bd jb xj xf xw xb:Nat)(name fresh:ByteArray)(wa ba:Option Addr)(wc bl bc:Nat)(whole:List UInt8)(br:Bool)(i:Nat)(hi:i≤10)(x:PS)(hq:PQ i x) :
  aw Tryz.prog 309 [ptr xj,ptr xf] [PI bd jb xj xf xw xb name fresh wa ba wc bl bc whole br x] (fun r H=>∃(e:Nat) (x':PS),r = .int .i64 (e:Int)∧H=[PI bd jb xj xf xw xb name fresh wa ba wc bl bc whole br x']∧K8 fresh x e x'∧(e=0→PQ (i+1) x')) :=
 (Lv bd jb xj xf xw xb name fresh wa ba wc bl bc whole br x.1 x.2.1 x.2.2.1 x.2.2.2 (by have:=hq.2;omega)).conv (ak.pY _) (by
  rintro v H⟨e,A1,he,xF,rfl,rfl⟩
  exact⟨_,⟨_,(A1,x.2),rfl,rfl,⟨⟨he,xF⟩,rfl⟩,fun _=>hq.next (xF ▸ y8 _ _ _)⟩,ak.p9 _⟩)
def Lu(bd jb xj xf xw xb:Nat)(name fresh:ByteArray)(wa ba:Option Addr)(wc bl bc:Nat)(whole:List UInt8)(br:Bool)(i:Nat)(hi:i≤10)(x:PS)(hq:PQ i x) :
  aw Tryz.prog 311 [ptr xj,ptr xf] [PI bd jb xj xf xw xb name fresh wa ba wc bl bc whole br x] (fun r H=>∃(e:Nat) (x':PS),r = .int .i64 (e:Int)∧H=[PI bd jb xj xf xw xb name fresh wa ba wc bl bc whole br x']∧zT fresh name x e x'∧(e=0→PQ (i+1) x')) :=
 (Lt bd jb xj xf xw xb name fresh wa ba wc bl bc whole br x.1 x.2.1 x.2.2.1 x.2.2.2 (by have:=hq.1;omega)).conv (ak.pY _) (by
  rintro v H⟨e,A1,he,xF,rfl,rfl⟩
  exact⟨_,⟨_,(A1,x.2),rfl,rfl,⟨⟨he,xF⟩,rfl⟩,fun _=>hq.next (xF ▸ tO _ _ _ _)⟩,ak.p9 _⟩)
def Lo(bd jb xj xf xw xb:Nat)(name fresh:ByteArray)(wa ba:Option Addr)(wc bl bc:Nat)(whole:List UInt8)(br:Bool)(i:Nat)(x:PS)(hq:PQ i x) :
  aw Tryz.prog 115 [ptr bd] [PI bd jb xj xf xw xb name fresh wa ba wc bl bc whole br x] (fun r H=>∃(e:Nat) (x':PS),r = .int .i64 (e:Int)∧H=[PI bd jb xj xf xw xb name fresh wa ba wc bl bc whole br x']∧Eo x e x'∧(e=0→PQ (i+1) x')) :=
 (JB ([aG bd x.1,ag jb (cl [ptr bd,.string name,.int .i64 x.2.1,.int .i64 x.2.2.1,.int .i64 x.2.2.2,.bool br] 327),ag xj (cl [ptr jb] 213),ag xf (cl [.string fresh] 9),ag xw (cl [.slice wa whole.length wc] 37),ag xb (cl [.slice ba bl bc] 37),aH 5 1 (.slice wa whole.length wc) whole.length (bV whole)].drop 1) (nF bd x.1)).conv (ak.pY _) (by
  rintro v H⟨_,⟨rfl,rfl⟩,rfl⟩
  exact⟨_,⟨_,(x.1.cq.2,x.2),rfl,rfl,⟨⟨rfl,rfl⟩,rfl⟩,fun _=>hq.next (iT _)⟩,ak.p9 _⟩)
def Ls(bd jb xj xf xw xb:Nat)(name fresh:ByteArray)(wa ba:Option Addr)(wc bl bc:Nat)(whole:List UInt8)(br:Bool)(i:Nat)(x:PS)(hq:PQ i x) :
  aw Tryz.prog 313 [ptr xb,ptr xj] [PI bd jb xj xf xw xb name fresh wa ba wc bl bc whole br x] (fun r H=>∃(e:Nat) (x':PS),r = .int .i64 (e:Int)∧H=[PI bd jb xj xf xw xb name fresh wa ba wc bl bc whole br x']∧ZL bl x e x'∧(e=0→PQ (i+1) x')) :=
 (Lr bd jb xj xf xw xb name fresh wa ba wc bl bc whole br x.1 x.2.1 x.2.2.1 x.2.2.2).conv (ak.pY _) (by
  rintro v H⟨rfl,rfl⟩
  exact⟨_,⟨0,(x.1,1,(bl:Int),(bl:Int)),rfl,rfl,⟨rfl,rfl⟩,fun _=>⟨by have:=hq.1;simp only;omega,by have:=hq.2;simp only;omega⟩⟩,ak.p9 _⟩)
def jr(jb bd:Nat)(name:ByteArray)(n s c:Int)(br:Bool):HP:=ag jb (cl [ptr bd,.string name,.int .i64 n,.int .i64 s,.int .i64 c,.bool br] 327)
def zd{ls:List (List UInt8)}{i:Nat}{x:List UInt8}(h:ls[i]?=some x):(ls.take (i+1)).flatMap eo=(ls.take i).flatMap eo++eo x:=by
 rw[List.take_add_one,h];simp
def Hj(ls:List (List UInt8))(i:Nat):((ls.take i).flatMap eo).length≤(ls.flatMap eo).length:=by
 conv=>rhs;rw[← List.take_append_drop i ls,List.flatMap_append,List.length_append]
 omega
theorem GJ(jb bd:Nat)(name:ByteArray)(n s c:Int)(br:Bool)(A:Ab)(V:HP)(lv:Value)(ls:List (List UInt8))(hv:qx V lv ls)(hl:(ls.flatMap eo).length≤500000000)(Ku:ls.length≤1000000000)(G':name.size≤1000000000)(dE:A.aI.length≤900000000)(Bj:A.writes.length≤900000000) :
    aw Tryz.prog 193 [ptr jb,lv] [aG bd A,jr jb bd name n s c br,V]
      (fun r H=>∃(e:Nat) (y:PS),r = .int .i64 (e:Int)∧H=[aG bd y.1,jr jb bd name y.2.1 y.2.2.1 y.2.2.2 br,V]∧AU name ls (A,n,s,c) e y):=by
  obtain⟨cs,dt,jF,⟨a,cc,rfl,hc⟩,rU⟩:=hv
  unfold jr
  refine aw.ao Tryz.func193 Tryz.ntmps193 fun G F R hE=>?_
  refine go ?_
  refine bC zr zr bq ?_
  intro xj
  refine go ?_
  refine xh zr zr zr (by show name.size+4≤_;omega) ?_
  refine go ?_
  refine aC 17 (.string (bW name)) zr zr ?_
  generalize Hc:bW name=fresh
  refine aB zr zr zr bq ?_
  intro xf
  refine go ?_
  refine aB zr zr zr bq ?_
  intro xb
  refine go ?_
  refine ai (bp 5 1 none _) ?_
  refine bj (fun y:Value × Nat=>y.2≤ls.length) (fun y=>ls.length-y.2)
    (fun y=>[(0,ptr jb),(2,ptr xj),(5,ptr xf),(6,ptr xb),(18,.slice a ls.length cc),(19,.int .i64 (ls.length:Int)),(20,.int .i64 (y.2:Int))])
    (fun y=>ag xb (cl [y.1] 37)::aH 5 1 y.1 ((ls.take y.2).flatMap eo).length (bV ((ls.take y.2).flatMap eo))::ag xf (cl [.string fresh] 9)::ag xj (cl [ptr jb] 213)::aG bd A::ag jb (cl [ptr bd,.string name,.int .i64 n,.int .i64 s,.int .i64 c,.bool br] 327)::V::F) (.slice none 0 0,0) (Nat.zero_le _) rfl bO ah ?_
  rintro⟨v,i⟩ hi ih
  simp only at hi
  refine go ?_
  refine aD zr zr ?_ ?_
  · intro cB
    simp only at cB
    have k9:i<ls.length:=by omega
    obtain⟨x,hx⟩:∃x,ls[i]?=some x:=⟨ls[i],List.getElem?_eq_getElem k9⟩
    obtain⟨cv,n5,hb⟩:=rU i x hx
    obtain⟨b0,o0,c0,xU⟩:=dt.some (by intro h;rw[h]at n5;simp at n5)
    simp only[Value.slice.injEq]at xU
    obtain⟨rfl,-,rfl⟩:=xU
    refine go ?_
    refine bD i zr zr zr zr zr zr zr zr k9 ?_
    obtain⟨ax,cx,rfl,hcx⟩:=hb.2
    have ue:=zd hx
    have eR:((ls.take (i+1)).flatMap eo).length=((ls.take i).flatMap eo).length+(eo x).length:=by rw[ue,List.length_append]
    have hle:=Hj ls (i+1)
    have Cu:x.length≤(eo x).length:=by simp[eo]
    refine aP 6 i zr zr zr dt rfl n5 zr zr ?_
    refine aM 1 rfl ?_
    intro av cv vS
    simp only at vS
    subst vS
    refine go ?_
    refine aO (fun w=>Sat G w ([ag xb (cl [.slice av ((ls.take i).flatMap eo).length cv] 37)])) (.st 0 (.st 1 (.act 2 (.act 3 (.act 4 .nil))))) rfl ae ae ae dv ?_
    refine go ?_
    refine cP (tP V _ x hb aj) ?_
    rintro r _ rfl
    refine aM 0 rfl ?_
    rintro ra rc rfl
    refine eL 0 rfl ?_
    intro Cx
    refine go ?_
    refine aU (mm:=(eo x).length) (news:=bV (eo x)) 3 0 zr zr zr zr zr zr zr zr zr zr zr zr Cx (by show _=_*1;rw[bK];omega) (dL _) (by simp only;omega) (by show(_+_)*1≤_;simp only;omega) (fun _=>rfl) (fun _ w hw=>by exact hw.cp ah) ?_
    intro v1
    simp only
    rw[show bV ((ls.take i).flatMap eo)++bV (eo x)=bV ((ls.take (i+1)).flatMap eo)from by rw[ue];simp[bV],← eR]
    refine aM 3 rfl ?_
    rintro va vc rfl
    refine go ?_
    refine aK ih (.slice va ((ls.take (i+1)).flatMap eo).length vc,i+1) rfl (by simp only;omega) (by simp only;omega) bO ah
  intro eN
  simp only at eN
  have dP:i=ls.length:=by omega
  subst dP
  rw[List.take_length]
  refine cU 1 rfl ?_
  intro av cv vS
  simp only at vS
  subst vS
  obtain⟨B,hB⟩:∃B,B=ls.flatMap eo:=⟨_,rfl⟩
  rw[← hB]at hl ⊢
  have hhl:(dW 1 B.length).length=16:=y6 _ _
  have k4:(db ls)=List.replicate 16 0++dW 1 B.length++B:=by rw[hB];rfl
  obtain⟨W,hW⟩:∃W,W=db ls:=⟨_,rfl⟩
  rw[← hW]at k4
  have Fm:W.length=32+B.length:=by rw[k4];simp only[List.length_append,List.length_replicate,hhl]
  have afs:∀(m:Nat) (ra:Option Addr) (rc row:Nat),fb (aH 5 1 (.slice ra (dW 1 B.length).length rc) (dW 1 B.length).length (bV (dW 1 B.length))) (.slice ra (dW 1 B.length).length rc) (dW 1 B.length) →
      fb (aH 5 1 (.slice av B.length cv) B.length (bV B)) (.slice av B.length cv) B→aw Tryz.prog 304 [.slice (some ⟨row,0,none⟩) 3 3]
      [Sep [ag row (cl [.slice (some ⟨m,0,none⟩) 16 16,.slice ra (dW 1 B.length).length rc,.slice av B.length cv] 37),ag m (cl (bV (List.replicate 16 0)) 5),aH 5 1 (.slice ra (dW 1 B.length).length rc) (dW 1 B.length).length (bV (dW 1 B.length)),aH 5 1 (.slice av B.length cv) B.length (bV B)]]
      (fun r H=>H=[aH 5 1 r W.length (bV W),Sep [ag row (cl [.slice (some ⟨m,0,none⟩) 16 16,.slice ra (dW 1 B.length).length rc,.slice av B.length cv] 37),ag m (cl (bV (List.replicate 16 0)) 5),aH 5 1 (.slice ra (dW 1 B.length).length rc) (dW 1 B.length).length (bV (dW 1 B.length)),aH 5 1 (.slice av B.length cv) B.length (bV B)]]):=by
    intro m ra rc row pH pR
    have q5:[List.replicate 16 0,dW 1 B.length,B].flatten=W:=by rw[k4];simp only[List.flatten_cons,List.flatten_nil,List.append_nil,List.append_assoc]
    have:=Gj (Sep [ag row (cl [.slice (some ⟨m,0,none⟩) 16 16,.slice ra (dW 1 B.length).length rc,.slice av B.length cv] 37),ag m (cl (bV (List.replicate 16 0)) 5),aH 5 1 (.slice ra (dW 1 B.length).length rc) (dW 1 B.length).length (bV (dW 1 B.length)),aH 5 1 (.slice av B.length cv) B.length (bV B)]) (.slice (some ⟨row,0,none⟩) 3 3) [List.replicate 16 0,dW 1 B.length,B]
      ⟨[.slice (some ⟨m,0,none⟩) 16 16,.slice ra (dW 1 B.length).length rc,.slice av B.length cv],(Vw.ag rfl).mono (bz (i:=0) rfl),rfl,⟨_,_,rfl,Nat.le_refl 3⟩,fun i x hx=>by
        match i,hx with
        | 0,hx=>cases hx;exact⟨_,rfl,⟨(Vw.ag (b:=m) (l:=bV (List.replicate 16 0)) (e:=5) rfl).mono (bz (i:=1) rfl),_,_,rfl,by decide⟩⟩
        | 1,hx=>cases hx;exact⟨_,rfl,pH.mono (bz (i:=2) rfl)⟩
        | 2,hx=>cases hx;exact⟨_,rfl,pR.mono (bz (i:=3) rfl)⟩
        | k+3,hx=>simp at hx⟩ (by rw[q5,Fm];omega) (by show 3≤_;omega)
    rw[q5]at this
    exact this
  refine xe (bs:=B) 1 rfl ?_
  intro pR
  refine gG rfl ?_
  refine zA 1 (fun y:Option Addr × Nat × Nat=>True) (fun y=>[(0,ptr jb),(2,ptr xj),(5,ptr xf),(6,ptr xb),(9,ptr y.2.2)]) (fun y=>ag y.2.2 (cl [.slice y.1 W.length y.2.1] 37)::aH 5 1 (.slice y.1 W.length y.2.1) W.length (bV W)::ag xb (cl [.slice av B.length cv] 37)::ag xf (cl [.string fresh] 9)::ag xj (cl [ptr jb] 213)::aG bd A::ag jb (cl [ptr bd,.string name,.int .i64 n,.int .i64 s,.int .i64 c,.bool br] 327)::V::F) rfl ?_ ?_
  rotate_left
  · intro tail
    refine aO (fun w=>Sat G w ([ag xb (cl [.slice av B.length cv] 37)])) (.st 1 (.st 2 (.st 4 (.fork (.fork (.act 0 (.fork (.act 3 (.fork (.act 5 (.fork (.act 6 (.act 7 (.act 8 .nil))) (.act 7 (.act 6 (.act 8 .nil))))) (.act 7 (.act 5 (.act 6 (.act 8 .nil)))))) (.act 7 (.act 3 (.act 5 (.act 6 (.act 8 .nil))))))) (.act 3 (.fork (.act 0 (.fork (.act 5 (.fork (.act 6 (.act 7 (.act 8 .nil))) (.act 7 (.act 6 (.act 8 .nil))))) (.act 7 (.act 5 (.act 6 (.act 8 .nil)))))) (.act 7 (.act 0 (.act 5 (.act 6 (.act 8 .nil)))))))) (.act 7 (.fork (.act 0 (.act 3 (.act 5 (.act 6 (.act 8 .nil))))) (.act 3 (.act 0 (.act 5 (.act 6 (.act 8 .nil))))))))))) rfl ae ae ae dv ?_
    repeat'(first|refine nL ?_ ?_|(refine hJ (p:=16) (q:=16) zr zr zr zr zr zr zr zr zr aj aj (by show 1*16≤_;omega) (fun _ w hw=>by exact hw.cp ah) ?_;intro m)|(((refine cP (CK 1 B.length aj aj) ?_));rintro _ _ rfl;((refine aM 0 rfl ?_));rintro ra rc rfl;refine iA (bs:=dW 1 B.length) 0 rfl ?_;intro pH)|(refine aq zr zr zr zr zr zr zr zr zr (fun _ w hw=>by exact hw.cp ah) ?_;intro row)|(refine aB zr zr zr (fun _ w hw=>by exact hw.cp ah) ?_;intro x9)|(refine dM zr zr zr zr (afs m ra rc row pH pR) (ak.trans ah (ak.bT [_,_,_,_] _)) ?_ tqg;rintro _ _ rfl;((refine aM 0 rfl ?_));rintro wa wc rfl)|(refine aX ?_;(first|refine bG 0 fE zr zr zr zr zr zr zr zr zr ?_|refine bG 2 fE zr zr zr zr zr zr zr zr zr ?_);refine Dz ?_;refine pJ tail (wa,wc,x9) rfl trivial bO ah)|(refine eK ?_)|fail)
  rintro⟨wa,wc,x9⟩ -
  simp only
  refine go ?_
  refine aO (fun w=>Sat G w ([ag jb (cl [ptr bd,.string name,.int .i64 n,.int .i64 s,.int .i64 c,.bool br] 327),ag xj (cl [ptr jb] 213),ag xf (cl [.string fresh] 9)])) (cM 0 5 (.act 5 (cM 6 5 .nil))) rfl ae ae ae dv ?_
  refine go ?_
  refine bP (rA bd A fresh) ?_
  refine go ?_
  refine zA 1 (fun y:Value × List Value=>y.2=if(A.size fresh).2=0 then [.func (.func 305) #[] #[ptr xj,ptr xf] ]else []) (fun y=>[(0,ptr jb),(2,ptr xj),(5,ptr xf),(6,ptr xb),(9,ptr x9),(10,y.1)]) (fun y=>ag xj (cl [ptr jb] 213)::ag jb (cl [ptr bd,.string name,.int .i64 n,.int .i64 s,.int .i64 c,.bool br] 327)::aH 137 1 y.1 y.2.length y.2::ag x9 (cl [.slice wa W.length wc] 37)::aH 5 1 (.slice wa W.length wc) W.length (bV W)::ag xb (cl [.slice av B.length cv] 37)::ag xf (cl [.string fresh] 9)::aG bd A::V::F) rfl ?_ ?_
  rotate_left
  · intro tail
    refine ai (bp 137 1 none _) ?_
    refine aD zr zr ?_ ?_
    · intro he
      refine go ?_
      refine aq zr zr zr zr zr zr zr zr zr bq ?_
      intro row
      refine go ?_
      refine aU (mm:=1) (news:=[.func (.func 305) #[] #[ptr xj,ptr xf]]) 1 0 zr zr zr zr zr zr zr zr zr zr zr zr (Vw.ag rfl) rfl (by simp[Value.oneCell']) aj (by show(0+1)*8≤_;omega) (fun _=>rfl) bq ?_
      intro v1
      refine aM 1 rfl ?_
      rintro va vc rfl
      refine rW ?_
      refine pJ tail (.slice va (0+1) vc,[.func (.func 305) #[] #[ptr xj,ptr xf] ]) rfl (by rw[if_pos aj]) bO ah
    · intro he
      refine pJ tail (.slice none 0 0,[]) rfl (by rw[if_neg aj]) bO ah
  rintro⟨sv,fv⟩ Pu
  simp only at Pu ⊢
  refine cU 2 rfl ?_
  rintro va vc rfl
  refine go ?_
  have q5:fv.length≤1:=by rw[Pu];split <;> simp
  refine aq (cs:=[.func (.func 307) #[] #[ptr xj,ptr xf],.func (.func 308) #[] #[ptr xj,ptr xf,ptr x9],.func (.func 309) #[] #[ptr xj,ptr xf],.func (.func 311) #[] #[ptr xj,ptr xf],.func (.func 115) #[ptr bd] #[],.func (.func 313) #[] #[ptr xb,ptr xj] ]) zr zr zr zr zr zr zr zr zr bq ?_
  intro row
  refine go ?_
  refine aU (mm:=6) (news:=[.func (.func 307) #[] #[ptr xj,ptr xf],.func (.func 308) #[] #[ptr xj,ptr xf,ptr x9],.func (.func 309) #[] #[ptr xj,ptr xf],.func (.func 311) #[] #[ptr xj,ptr xf],.func (.func 115) #[ptr bd] #[],.func (.func 313) #[] #[ptr xb,ptr xj] ]) 3 0 zr zr zr zr zr zr zr zr zr zr zr zr (Vw.ag rfl) rfl (by simp[Value.oneCell']) aj (by show(_+6)*8≤_;omega) (fun _=>rfl) bq ?_
  intro v1
  refine eL 3 rfl ?_
  intro k6
  obtain⟨fs,qw⟩:∃fs,fs=fv++[.func (.func 307) #[] #[ptr xj,ptr xf],.func (.func 308) #[] #[ptr xj,ptr xf,ptr x9],.func (.func 309) #[] #[ptr xj,ptr xf],.func (.func 311) #[] #[ptr xj,ptr xf],.func (.func 115) #[ptr bd] #[],.func (.func 313) #[] #[ptr xb,ptr xj] ]:=⟨_,rfl⟩
  rw[← qw]at k6 ⊢
  have afj:fs.length=fv.length+6:=by rw[qw,List.length_append];rfl
  rw[← afj]at k6 ⊢
  have uf:(gw name ls A).length=fs.length:=by
    grind [gw]
  have hWb:W.length≤1000000000:=by omega
  have Mn:∀(i:Nat) (fv:Value) (s:PS→Nat→PS→Prop),fs[i]?=some fv→(gw name ls A)[i]?=some s→∃g fi cap,fv = .func (.func g) fi cap∧∀x,PQ i x→aw Tryz.prog g (fi.toList++cap.toList) [PI bd jb xj xf x9 xb name fresh wa av wc B.length cv W br x] (fun r H=>∃(e:Nat) (x':PS),r = .int .i64 (e:Int)∧H=[PI bd jb xj xf x9 xb name fresh wa av wc B.length cv W br x']∧s x e x'∧(e=0→PQ (i+1) x')):=by
    intro i f1 s1 h1 h2
    have hi:i<fs.length:=(List.getElem?_eq_some_iff.1 h1).1
    have vY:i≤10:=by omega
    unfold gw at h2
    rw[Hc,← hW,← hB]at h2
    rw[qw,Pu]at h1
    by_cases hz:(A.size fresh).2=0
    · rw[if_pos hz]at h1 h2
      match i,h1,h2 with
      | 0,h1,h2=>cases h1;cases h2;exact⟨_,_,_,rfl,fun x hq=>ZR _ _ _ _ _ _ _ _ _ _ _ _ _ _ _ _ vY x hq⟩
      | 1,h1,h2=>cases h1;cases h2;exact⟨_,_,_,rfl,fun x hq=>LA _ _ _ _ _ _ _ _ _ _ _ _ _ _ _ _ vY x hq⟩
      | 2,h1,h2=>cases h1;cases h2;exact⟨_,_,_,rfl,fun x hq=>Ly _ _ _ _ _ _ _ _ _ _ _ _ _ _ _ _ vY hWb x hq⟩
      | 3,h1,h2=>cases h1;cases h2;exact⟨_,_,_,rfl,fun x hq=>Lw _ _ _ _ _ _ _ _ _ _ _ _ _ _ _ _ vY x hq⟩
      | 4,h1,h2=>cases h1;cases h2;exact⟨_,_,_,rfl,fun x hq=>Lu _ _ _ _ _ _ _ _ _ _ _ _ _ _ _ _ vY x hq⟩
      | 5,h1,h2=>cases h1;cases h2;exact⟨_,_,_,rfl,fun x hq=>Lo _ _ _ _ _ _ _ _ _ _ _ _ _ _ _ _ x hq⟩
      | 6,h1,h2=>cases h1;cases h2;exact⟨_,_,_,rfl,fun x hq=>Ls _ _ _ _ _ _ _ _ _ _ _ _ _ _ _ _ x hq⟩
      | k+7,h1,h2=>simp at h1
    · rw[if_neg hz]at h1 h2
      match i,h1,h2 with
      | 0,h1,h2=>cases h1;cases h2;exact⟨_,_,_,rfl,fun x hq=>LA _ _ _ _ _ _ _ _ _ _ _ _ _ _ _ _ vY x hq⟩
      | 1,h1,h2=>cases h1;cases h2;exact⟨_,_,_,rfl,fun x hq=>Ly _ _ _ _ _ _ _ _ _ _ _ _ _ _ _ _ vY hWb x hq⟩
      | 2,h1,h2=>cases h1;cases h2;exact⟨_,_,_,rfl,fun x hq=>Lw _ _ _ _ _ _ _ _ _ _ _ _ _ _ _ _ vY x hq⟩
      | 3,h1,h2=>cases h1;cases h2;exact⟨_,_,_,rfl,fun x hq=>Lu _ _ _ _ _ _ _ _ _ _ _ _ _ _ _ _ vY x hq⟩
      | 4,h1,h2=>cases h1;cases h2;exact⟨_,_,_,rfl,fun x hq=>Lo _ _ _ _ _ _ _ _ _ _ _ _ _ _ _ _ x hq⟩
      | 5,h1,h2=>cases h1;cases h2;exact⟨_,_,_,rfl,fun x hq=>Ls _ _ _ _ _ _ _ _ _ _ _ _ _ _ _ _ x hq⟩
      | k+6,h1,h2=>simp at h1
  have eY:=P6 (PI bd jb xj xf x9 xb name fresh wa av wc B.length cv W br) (aH 137 1 v1 fs.length fs) v1 fs k6 aj (gw name ls A) uf PQ Mn (A,n,s,c) ⟨by simp only;omega,by simp only;omega⟩
  refine aM 3 rfl ?_
  rintro Km Kl rfl
  refine go ?_
  refine dM zr zr zr zr eY (ak.trans ah (ak.cons _ (ak.bT [aG bd A,ag jb (cl [ptr bd,.string name,.int .i64 n,.int .i64 s,.int .i64 c,.bool br] 327),ag xj (cl [ptr jb] 213),ag xf (cl [.string fresh] 9),ag x9 (cl [.slice wa W.length wc] 37),ag xb (cl [.slice av B.length cv] 37),aH 5 1 (.slice wa W.length wc) W.length (bV W)] _))) ?_ iM
  rintro _ _⟨e,y,rfl,rfl,hr⟩
  refine aR (ak.trans (ak.pick [1] rfl) (ak.cL [aG bd y.1,ag jb (cl [ptr bd,.string name,.int .i64 y.2.1,.int .i64 y.2.2.1,.int .i64 y.2.2.2,.bool br] 327),ag xj (cl [ptr jb] 213),ag xf (cl [.string fresh] 9),ag x9 (cl [.slice wa W.length wc] 37),ag xb (cl [.slice av B.length cv] 37),aH 5 1 (.slice wa W.length wc) W.length (bV W)] _)) (go ?_)
  refine ad hE Tryz.func193 zr zr ⟨e,y,rfl,rfl,hr⟩
def OV(name:ByteArray)(f:Nat):((Ab.new 1).create (isName name) name f).1=if isName name then 0 else 1:=by
 cases h:isName name <;> simp[Ab.create,Ab.meet,Ab.new,Ab.look,Ab.cK]
def GR(name:ByteArray):aw Tryz.prog 188 [.string name] [] (fun r H=>r = .bool (isName name)∧H=[]):=by
 refine aw.ao Tryz.func188 Tryz.ntmps188 fun G F R hE=>?_
 refine go ?_
 refine az (NC 1 aj aj) ?_
 rintro _ _⟨bd,rfl,rfl⟩
 refine go ?_
 refine az (sW bd (Ab.new 1) name (by simp[Ab.new])) ?_
 rintro _ _⟨f,hf,rfl,rfl⟩
 rw[OV]
 refine go ?_
 ((refine aQ 2 ((.bool (isName name))) rfl ((congrArg Value.bool (by cases isName name <;> rfl))) ?_))
 refine ai (ak.drop _ _) ?_
 refine ad hE Tryz.func188 zr zr ⟨rfl,rfl⟩
def FI(jb bd:Nat)(name:ByteArray)(n s c:Int)(br:Bool)(e:Nat):aw Tryz.prog 212 [ptr jb,.int .i64 (e:Int)] [jr jb bd name n s c br] (fun r H=>r = .int .i64 (e:Int)∧H=[jr jb bd name n s c (br || decide (e≠0))]):=by
 unfold jr
 refine aw.ao Tryz.func212 Tryz.ntmps212 fun G F R hE=>?_
 cases br
 ·refine go ?_
  have hd:decide ((e:Int)≠0)=(false || decide (e≠0)):=by by_cases h:e=0 <;> simp[h]
  simp only[hd]
  refine ad hE Tryz.func212 zr zr ⟨rfl,rfl⟩
 ·refine go ?_
  refine ad hE Tryz.func212 zr zr ⟨rfl,rfl⟩
structure JN where
 n:Int
 s:Int
 c:Int
 br:Bool
def Md(jb bd:Nat)(name:ByteArray)(x:JN):HP:=jr jb bd name x.n x.s x.c x.br
theorem CZ(b:List UInt8)(h:b.length≤1000000000000):(eo b).length≤b.length+10:=by
 grind [om,eo]
end Go.Proofs.YtjpboghdolfekaaGreatDoor
namespace Go.Proofs.YtjpboghdolfekaaGreatDoor
open Go Go.SL
theorem ox:∀(f:Nat) (bs:List UInt8),((fq f bs).flatMap eo).length≤2*bs.length∧(fq f bs).length≤bs.length∧∀x∈fq f bs,x.length≤4096
 | 0,bs=>by simp[fq]
 | f+1,bs=>by
  unfold fq
  split
  ·simp
  ·rename_i k n hl
   have hp:=ph hl
   split
   ·rename_i hb
    obtain⟨h1,h2,h3⟩:=ox f (bs.drop (k+n))
    have hx:((bs.drop k).take n).length=n:=by rw[List.length_take,List.length_drop];omega
    have he:(eo ((bs.drop k).take n)).length≤n+2:=by
     have:=uP 1 n (by have:=hp.2.2.2;omega)
     grind [eo]
    grind
   ·simp
def oy(bs:List UInt8):((bR bs).flatMap eo).length≤2*bs.length∧(bR bs).length≤bs.length∧∀x∈bR bs,x.length≤4096:=ox _ bs
def rD(M:eG)(cs:List Value)(ls:List (List UInt8)):Prop:=cs.length=ls.length∧∀(j:Nat) (y:List UInt8),ls[j]?=some y→∃cv,cs[j]?=some cv∧Bo M 1 cv y.length (bV y)
def LI(lb:Nat)(ls:List (List UInt8)):HP:=fun h=>∃x:Value × List Value × eG,rD x.2.2 x.2.1 ls∧Sep [ag lb (cl [x.1] 36),aH 37 1 x.1 ls.length x.2.1,a6 5 x.2.2] h
def wW(e:TypeId)(H:List HP):ak H (a6 e []::H):=ak.jO H
def NG(lb:Nat)(a:Option Addr)(H:List HP):ak (ag lb (cl [.slice a 0 0] 36)::H) (LI lb []::H):=by
 have h1:ak (ag lb (cl [.slice a 0 0] 36)::H) ([ag lb (cl [.slice a 0 0] 36),aH 37 1 (.slice a 0 0) 0 [],a6 5 [] ]++H) :=
  ak.cons _ ((bp 37 1 a H).trans (ak.cons _ (wW 5 H)))
 exact h1.trans (ak.fold fun h hs=>⟨h,sub.refl h,(.slice a 0 0,[],[]),⟨rfl,fun j y hj=>by simp at hj⟩,hs⟩)
theorem Qc(lb:Nat)(ls:List (List UInt8))(x:List UInt8)(v rv:Value)(cs:List Value)(M M':eG)(hR:rD M cs ls)(hr:Bo M' 1 rv x.length (bV x))(hs:∀y∈M,y∈M')(H:List HP) :
  ak (ag lb (cl [v] 36)::aH 37 1 v (ls.length+1) (cs++[rv])::a6 5 M'::H) (LI lb (ls++[x])::H):=by
 refine ak.fold (B:=[ag lb (cl [v] 36),aH 37 1 v (ls.length+1) (cs++[rv]),a6 5 M']) fun h hp=>⟨h,sub.refl h,(v,cs++[rv],M'),⟨by simp[hR.1],fun j y hj=>?_⟩,by simp only[List.length_append,List.length_singleton];exact hp⟩
 simp only
 rw[List.getElem?_append]at hj ⊢
 rw[hR.1]
 split at hj
 ·rename_i cB
  obtain⟨cv,h1,h2⟩:=hR.2 j y hj
  rw[if_pos cB]
  exact⟨cv,h1,h2.mono hs⟩
 grind
def HB(lb:Nat)(ls:List (List UInt8)):∀h,LI lb ls h→∃x:Value × List Value × eG,rD x.2.2 x.2.1 ls∧Sep [ag lb (cl [x.1] 36),aH 37 1 x.1 ls.length x.2.1,a6 5 x.2.2] h:=fun h hs=>hs
def tC(v:Value)(ls:List (List UInt8)):HP:=fun h=>∃x:List Value × eG,rD x.2 x.1 ls∧Sep [aH 37 1 v ls.length x.1,a6 5 x.2] h
def L7{v:Value}{ls:List (List UInt8)}{cs:List Value}{M:eG}(hR:rD M cs ls)(H:List HP):ak (aH 37 1 v ls.length cs::a6 5 M::H) (tC v ls::H) :=
 ak.fold (B:=[aH 37 1 v ls.length cs,a6 5 M]) fun h hp=>⟨h,sub.refl h,(cs,M),hR,hp⟩
def E4(v:Value)(ls:List (List UInt8)):∀h,tC v ls h→∃x:List Value × eG,rD x.2 x.1 ls∧Sep [aH 37 1 v ls.length x.1,a6 5 x.2] h:=fun h hs=>hs
theorem rD.lat{v:Value}{ls:List (List UInt8)}{cs:List Value}{M:eG}(hR:rD M cs ls)(h0:∃h,aH 37 1 v ls.length cs h):qx (Sep [aH 37 1 v ls.length cs,a6 5 M]) v ls:=by
 have hv:=Vw.lV 37 1 v ls.length cs h0
 refine⟨cs,hv.mono (bz (i:=0) rfl),hR.1,?_,fun i x hx=>?_⟩
 ·obtain⟨h,hl,⟨a,rfl,hn,_⟩|⟨b,o,cap,pre,junk,rfl,hp,hn,hc,_⟩⟩:=h0
  ·grind
  grind
 ·obtain⟨cv,h1,h2⟩:=hR.2 i x hx
  obtain⟨a,c,qX,hc⟩:=h2.shape
  exact⟨cv,h1,(h2.view 5).mono (bz (i:=1) rfl),a,c,qX,hc⟩
section
variable{P:Program}{f:FuncId}{n:Nat}{R:Ending→World→Prop}{G:cg}{k:List Item}{L:eC}{H:List HP}
def Q'{v:Value}{ls:List (List UInt8)}{cs:List Value}{M:eG}(i:Nat)(hR:rD M cs ls)(hi:bU H i=some (aH 37 1 v ls.length cs))(h:qx (Sep [aH 37 1 v ls.length cs,a6 5 M]) v ls→K P f n R G k L H):K P f n R G k L H :=
 oZ fun⟨w,hw⟩=>by
  obtain⟨h1,_,hA⟩:=hw.jM hi
  exact h (hR.lat ⟨h1,hA⟩)
def ad8{bd:Nat}{A:Ab}(i:Nat)(hi:bU H i=some (aG bd A))(h:(∃D,Rel D A)→K P f n R G k L H):K P f n R G k L H :=
 oZ fun⟨w,hw⟩=>by
  obtain⟨h1,_,D,hR,_⟩:=hw.jM hi
  exact h ⟨D,hR⟩
end
theorem BW(A:Ab)(hR:∃D,Rel D A)(name:ByteArray)(at_ n:Int):(A.read name at_ n).1.length≤1048576:=by
 obtain⟨D,hR⟩:=hR
 unfold Ab.read
 split
 ·simp
 split
 ·simp
 ·rename_i f hf
  split
  ·simp
  ·have h1:(A.now f).length≤1048576:=by
    unfold Ab.now Ab.file
    cases h:A.fs.find? (fun x=>decide (x.1=f))with
    | none=>simp
    | some x =>
     have:=hR.e8 x (List.mem_of_find?_eq_some h)
     grind
   grind
end Go.Proofs.YtjpboghdolfekaaGreatDoor
namespace Go.Proofs.YtjpboghdolfekaaGreatDoor
open Go Go.SL
attribute [local irreducible] J K aw Ends ag aH au bE aW aJ a6 aZ bI aG LI tC
def kM(A:Ab)(name:ByteArray):List (List UInt8):=bR (eS (A.read name 0 (A.size name).1).1)
def pV(A:Ab)(name:ByteArray)(e:Nat)(A':Ab)(x:JN):Prop :=
 if ¬(isName name=true∧isName (bW name)=true)then e=1∧A'=A else if A.off then e=7∧A'=A
 else ∃y:PS,AU name (kM A name) (A,0,0,0) e y∧A'=y.1∧x=⟨y.2.1,y.2.2.1,y.2.2.2,false⟩
def Nx(bd:Nat)(name:ByteArray)(A:Ab)(G':name.size≤1000000000)(dE:A.aI.length≤900000000)(Bj:A.writes.length≤900000000) :
  aw Tryz.prog 116 [ptr bd,.string name] [aG bd A]
   (fun r H=>∃(e:Nat) (A':Ab) (x:JN),pV A name e A' x∧((e≠0∧r = .tuple #[.pointer none,.slice none 0 0,.int .i64 (e:Int)]∧H=[aG bd A']) ∨
    (e=0∧∃jb lv,r = .tuple #[ptr jb,lv,.int .i64 0]∧H=[aG bd A',Md jb bd name x,tC lv (kM A name)]))):=by
 refine aw.ao Tryz.func116 Tryz.ntmps116 fun G F R hE=>?_
 refine ad8 0 rfl ?_
 intro afB
 refine go ?_
 refine aF (GR name) ?_
 cases h1:isName name with
 | false =>
  refine go ?_
  ((refine ad hE Tryz.func116 zr zr ⟨1,A,⟨0,0,0,false⟩,(by unfold pV;rw[if_pos (by simp[h1])];exact⟨rfl,rfl⟩),.inl ⟨aj,rfl,rfl⟩⟩))
 | true =>
 refine go ?_
 refine xh zr zr zr (by show name.size+4≤_;omega) ?_
 refine aC 25 (.string (bW name)) zr zr ?_
 ((refine go ?_;(refine az (GR (bW name)) ?_)))
 rintro _ _⟨rfl,rfl⟩
 cases h2:isName (bW name)with
 | false =>
  refine go ?_
  ((refine ad hE Tryz.func116 zr zr ⟨1,A,⟨0,0,0,false⟩,(by unfold pV;rw[if_pos (by simp[h2])];exact⟨rfl,rfl⟩),.inl ⟨aj,rfl,rfl⟩⟩))
 | true =>
 refine go ?_
 refine aF (Ny bd A) ?_
 cases h3:A.off with
 | true =>
  refine go ?_
  ((refine ad hE Tryz.func116 zr zr ⟨7,A,⟨0,0,0,false⟩,(by unfold pV;rw[if_neg (by simp[h1,h2]),if_pos h3];exact⟨rfl,rfl⟩),.inl ⟨aj,rfl,rfl⟩⟩))
 | false =>
 refine go ?_
 refine aF (rA bd A name) ?_
 refine go ?_
 refine az (AT bd A name 0 (A.size name).1) ?_
 rintro _ _⟨rb,rfl,rfl⟩
 have E8:=BW A afB name 0 (A.size name).1
 obtain⟨B,hB⟩:∃B,B=(A.read name 0 (A.size name).1).1:=⟨_,rfl⟩
 rw[← hB]at E8 ⊢
 refine go ?_
 refine aM 1 rfl ?_
 rintro ra rc rfl
 refine iA (bs:=B) 1 rfl ?_
 intro hbr
 refine aB zr zr zr bq ?_
 intro lb
 refine go ?_
 refine az (Js _ _ B hbr aj) ?_
 rintro fv _⟨hbf,rfl⟩
 obtain⟨fa,fc,rfl,hfc⟩:=hbf.2
 refine az (BS fa (eS B).length fc) ?_
 rintro _ _⟨bx,rfl,rfl⟩
 have q5:(eS B).length≤1048576:=by
  unfold eS
  split
  ·simp
  ·rw[List.length_take,List.length_drop];omega
 refine go ?_
 obtain⟨rs,hrs⟩:∃rs,rs=bR (eS B):=⟨_,rfl⟩
 have Bn:=oy (eS B)
 rw[← hrs]at Bn
 refine gG rfl ?_
 refine ai (ak.trans (ak.pick [2] rfl) (NG lb none _)) ?_
 refine rF (Fr:=aG bd A::F) (Pre:=fun _ _=>[ag bx (cl [.slice fa (eS B).length fc] 37),aH 5 1 (.slice ra B.length rc) B.length (bV B),LI lb [] ]) (Post:=?Po) rfl hE.1.1 rfl ?c (fun l r=>ah) ?fR
 case c =>
  intro l r
  refine zZ (aH 5 1 (.slice ra B.length rc) B.length (bV B)) l bx _ (eS B) hbf aj _ (fun i=>LI lb ((bR (eS B)).take i)) ?_
  intro i x hx rv
  refine bI.Af zr zr ?_
  intro G2 F2 R2 hY
  have k9:i<(bR (eS B)).length:=(List.getElem?_eq_some_iff.1 hx).1
  have tM:=(oy (eS B)).2.1
  have l6:(bR (eS B)).take (i+1)=(bR (eS B)).take i++[x]:=by rw[List.take_add_one,hx];rfl
  have xQ:((bR (eS B)).take i).length≤(eS B).length:=by rw[List.length_take];omega
  simp only[l6]at hY
  generalize (bR (eS B)).take i=ts at xQ hY ⊢
  refine go ?_
  refine er rfl hY ?_
  refine ai (ak.pick [1] rfl) ?_
  refine cG (HB lb ts) ?_
  rintro⟨lv,cs,M⟩ hR
  refine ai (ak.trans (ak.pick [4,2] rfl) (ak.join _ _ _)) ?_
  refine cG (BN 5 1 x.length rv (bV x) M) ?_
  rintro M'⟨Of,cH⟩
  obtain⟨xa,xc,rfl,hxc⟩:=Of.shape
  refine cU 2 rfl ?_
  intro la lc hlv
  simp only at hlv
  subst hlv
  refine go ?_
  refine aq zr zr zr zr zr zr zr zr zr bq ?_
  intro row
  refine go ?_
  refine aU (mm:=1) (news:=[.slice xa x.length xc]) 3 0 zr zr zr zr zr zr zr zr zr zr zr zr (Vw.ag rfl) rfl (by simp[Value.oneCell']) aj (by show(_+1)*24≤_;omega) (fun _=>rfl) bq ?_
  intro v1
  refine aM 3 rfl ?_
  rintro va vc rfl
  refine go ?_
  refine ai (ak.trans ah (Qc lb ts x _ (.slice xa x.length xc) cs M M' hR Of cH _)) ?_
  refine ea hY rfl ah ⟨rfl,rfl⟩
 intro l r v H ef
 obtain⟨v',rfl⟩:=ef
 refine⟨_,_,_,rfl,by decide,?_⟩
 rw[hE.1.2,List.take_length,← hrs]
 refine ai (ak.pick [2] rfl) ?_
 refine cG (HB lb rs) ?_
 rintro⟨lv,cs,M⟩ hR
 refine cU 1 rfl ?_
 intro la lc hlv
 simp only at hlv
 subst hlv
 simp only at hR
 refine Q' 1 hR rfl ?_
 intro mz
 refine go ?_
 refine bC zr zr bq ?_
 intro jb
 refine go ?_
 have xR:=GJ jb bd name 0 0 0 false A (Sep [aH 37 1 (.slice la rs.length lc) rs.length cs,a6 5 M]) (.slice la rs.length lc) rs mz aj aj G' dE Bj
 refine dM zr zr zr zr xR (ak.trans ah (ak.cons (aG bd A) (ak.cons (jr jb bd name 0 0 0 false) (ak.bT [aH 37 1 (.slice la rs.length lc) rs.length cs,a6 5 M] _)))) ?_ iM
 rintro _ _⟨e,y,rfl,rfl,hpr⟩
 have y5:kM A name=rs:=by rw[hrs,hB];rfl
 have kK:pV A name e y.1 ⟨y.2.1,y.2.2.1,y.2.2.2,false⟩:=by
  unfold pV
  rw[if_neg (by simp[h1,h2]),if_neg (by rw[h3];simp),y5]
  exact⟨y,hpr,rfl,rfl⟩
 rw[y5]at hE
 refine go ?_
 refine aD zr zr ?_ ?_
 ·intro gf
  have qe:e≠0:=by omega
  refine go ?_
  refine mI hE Tryz.func116 rfl _ rfl ⟨e,_,_,kK,.inl ⟨qe,rfl,rfl⟩⟩ ah
 ·intro heq
  have Jc:e=0:=by omega
  subst Jc
  refine go ?_
  refine aO (fun w=>Sat G w ([ag lb (cl [.slice la rs.length lc] 36)])) (cM 0 5 .nil) rfl ae ae ae dv ?_
  refine go ?_
  refine ai (ak.trans (ak.pick [2] rfl) (ak.cL [aH 37 1 (.slice la rs.length lc) rs.length cs,a6 5 M] _)) ?_
  refine ai (L7 hR _) ?_
  refine mI hE Tryz.func116 rfl _ rfl ⟨0,_,_,kK,.inr ⟨rfl,jb,_,rfl,rfl⟩⟩ ah
end Go.Proofs.YtjpboghdolfekaaGreatDoor
namespace Go.Proofs.YtjpboghdolfekaaGreatDoor
open Go Go.SL
variable{A B:Ab}{n:ByteArray}{D:Nat→Prop}
theorem OW{nm:ByteArray}(hn:isName nm=true)(at_:Nat)(b:List UInt8)(h:at_+b.length≤1048576):kF nm (at_:Int) b=true:=by
 grind [kF]
def vR:isName kZ=true:=by decide +kernel
def tH:isName (bW kZ)=true:=by decide +kernel
def GK:bW kZ≠kZ:=by decide +kernel
abbrev SJ:=nV × JN
structure Nz(k:Nat)(A:Ab)(N0:Nms):Prop where
 keys:(N0.map (·.1)).Nodup
 own:(N0.map (·.2)).Nodup
 known:∀x∈N0,x.2∈A.fs.map (·.1)
 hold:∀n f,A.look n=some f→Ab.cK N0 n=some f
 more:∀n f,Ab.cK N0 n=some f→A.look n=some f∨(∃d,n=fSd d)∧(A.now f).length≤1000
 cnt:N0.length≤k
structure Cd(k:Nat)(A:Ab)(D:Nat→Prop):Prop where
 wr:∀w∈A.writes,D w.1
 cl:∀f∈A.fs.map (·.1),¬D f→(A.file f).2=(A.file f).1
 st:∃N0 rest,A.aI=N0::rest∧Nz k A N0
def rP(name:ByteArray)(A:Ab)(x:JN)(ls:List (List UInt8))(e:Nat)(A':Ab)(x':JN):Prop :=
 if x.br then e=10∧A'=A∧x'=x else if ls.any (fun b=>decide (4096<b.length))then e=1∧A'=A∧x'=x else if 524288<(ls.flatMap eo).length then e=3∧A'=A∧x'=x
 else ∃y:PS,AU name ls (A,x.n,x.s,x.c) e y∧A'=y.1∧x'=⟨y.2.1,y.2.2.1,y.2.2.2,decide (e≠0)⟩
theorem OG{l:List (ByteArray × Nat)}{f:Nat}(h1:(l.map (·.1)).Nodup)(h2:(l.map (·.2)).Nodup)(hf:∀x∈l,x.2≠f):((l.map fun x=>if x.1=n then(n,f)else x).map (·.2)).Nodup:=by
 unfold List.Nodup at h1 h2 ⊢
 rw[List.pairwise_map]at h1 h2
 rw[List.pairwise_map,List.pairwise_map]
 refine List.Pairwise.imp_of_mem ?_ (List.Pairwise.and h1 h2)
 grind
theorem Lj(l:List (ByteArray × Nat))(n:ByteArray)(f:Nat):(l.map fun x=>if x.1=n then(n,f)else x).map (·.1)=l.map (·.1):=by
 rw[List.map_map]
 refine List.map_congr_left fun x _=>?_
 grind
theorem HA.OI(h:HA A){o:ByteArray}{c d:List UInt8}(gf:o≠n)(hv:vw A o=some c)(G1:vw A n=some d){e:Nat}(hB:(e,B)=A.rename true o n) :
    e=0∧HA B∧vw B=mj (mj (vw A) o none) n (some c)∧B.room=A.room:=by
  obtain⟨f,hf,rfl⟩:∃f,A.look o=some f∧A.now f=c:=by
    unfold vw at hv
    cases hx:A.look o with
    | none=>rw[hx]at hv;cases hv
    | some f=>rw[hx]at hv;injection hv with hv;exact⟨f,rfl,hv⟩
  obtain⟨g,hg⟩:∃g,A.look n=some g:=by
    unfold vw at G1
    cases hx:A.look n with
    | none=>rw[hx]at G1;cases G1
    | some g=>exact⟨g,rfl⟩
  have Pk:Ab.cK (Ab.dZ A.names o) n=some g:=by
    rw[qW,if_neg (fun e=>gf e.symm)]
    exact hg
  obtain⟨N,hN⟩:∃N,N=(Ab.dZ A.names o).map (fun x=>if x.1=n then(n,f)else x):=⟨_,rfl⟩
  have jL:Ab.jl (Ab.dZ A.names o) n f=N:=by
    unfold Ab.jl
    grind
  have hc:A.rename true o n=(0,A.nU N):=by
    unfold Ab.rename
    rw[h.find,hf]
    grind
  rw[hc]at hB
  injection hB with h1 h2
  subst h1 h2
  have cH:∀x∈Ab.dZ A.names o,x∈A.names∧x.1≠o:=fun x hx=>by
    obtain⟨h1,h2⟩:=List.mem_filter.1 hx
    grind
  have Kv:((Ab.dZ A.names o).map (·.1)).Nodup:=(List.filter_sublist.map _).nodup h.keys
  have Bk:((Ab.dZ A.names o).map (·.2)).Nodup:=(List.filter_sublist.map _).nodup h.own
  have hnf:∀x∈Ab.dZ A.names o,x.2≠f:=fun x hx e=>by
    have h3:=eu h.keys (cH x hx).1
    rw[e]at h3
    exact(cH x hx).2 (h.ZU h3 hf)
  have hkN:(N.map (·.1)).Nodup:=by rw[hN,Lj];exact Kv
  have dU:∀x∈N,x=(n,f)∨(x∈Ab.dZ A.names o∧x.1≠n):=fun x hx=>by
    grind
  have hH:HA (A.nU N):=⟨h.cu,h.on,hkN,by show(N.map (·.2)).Nodup;rw[hN];exact OG Kv Bk hnf,h.ids,fun x hx=>by
    rcases dU x hx with rfl|⟨hx,_⟩
    · exact h.known (o,f) (gz hf)
    · exact h.known x (cH x hx).1⟩
  refine⟨rfl,hH,funext fun m=>?_,rfl⟩
  have CD:(A.nU N).look m=if m=n then some f else if m=o then none else A.look m:=by
    have Aq:∀x∈N,(A.nU N).look x.1=some x.2:=fun x hx=>eu (A:=A.nU N) hkN hx
    by_cases hm:m=n
    · rw[if_pos hm,hm]
      refine Aq (n,f) ?_
      rw[hN]
      refine List.mem_map.2 ⟨(n,g),?_,if_pos rfl⟩
      exact gz (A:=A.nU (Ab.dZ A.names o)) Pk
    · rw[if_neg hm]
      have hd:Ab.cK (Ab.dZ A.names o) m=if m=o then none else A.look m:=qW A.names o m
      rw[← hd]
      cases hx:Ab.cK (Ab.dZ A.names o) m with
      | some k =>
        refine Aq (m,k) ?_
        rw[hN]
        exact List.mem_map.2 ⟨(m,k),gz (A:=A.nU (Ab.dZ A.names o)) hx,if_neg hm⟩
      | none =>
        cases hy:(A.nU N).look m with
        | none=>rfl
        | some k =>
          rcases dU _ (gz hy)with he|⟨aff,_⟩
          · grind
          · have:=eu (A:=A.nU (Ab.dZ A.names o)) Kv aff
            have h2:(A.nU (Ab.dZ A.names o)).look m=none:=hx
            grind
  unfold vw mj
  rw[CD]
  by_cases hm:m=n
  · rw[if_pos hm,if_pos hm];rfl
  · rw[if_neg hm,if_neg hm]
    by_cases ho:m=o
    · grind
    · rw[if_neg ho,if_neg ho];rfl
theorem Ir{nm:ByteArray}{ls:List (List UInt8)}{e:Nat}{n s c:Int}{y:PS}(h:HA A)(hn:isName nm=true)(hf:isName (bW nm)=true)(gf:bW nm≠nm)(Mk:vw A (bW nm)=none)(hl:A.names.length<200)(yU:(db ls).length≤1048576)(hr:A.used+(db ls).length≤A.room)(hR:AU nm ls (A,n,s,c) e y) :
  e=0∧HA y.1∧vw y.1=mj (vw A) nm (some (db ls))∧y.1.room=A.room∧y.2=(1,((ls.flatMap eo).length:Int),((ls.flatMap eo).length:Int)):=by
 unfold AU gw at hR
 have js:(A.size (bW nm)).2=4:=by
  have CE:A.look (bW nm)=none:=by
   unfold vw at Mk
   cases hx:A.look (bW nm)with
   | none=>rfl
   | some f=>rw[hx]at Mk;cases Mk
  unfold Ab.size
  rw[CE]
 simp only[js]at hR
 rw[if_neg aj,List.nil_append]at hR
 obtain⟨e1,x1,⟨⟨f,h1f,h1a,h1b⟩,h1c⟩,c1⟩:=hR
 rw[hf]at h1a h1b
 obtain⟨g0,g1,g2,g3⟩:=h.PZ Mk hl h1f (B:=x1.1) (e:=e1) (by rw[h1a,h1b])
 subst g0
 rcases c1 with⟨qe,_⟩|⟨_,e2,x2,⟨⟨h2a,h2b⟩,h2c⟩,c2⟩
 ·grind
 have hw:kF (bW nm) 0 (db ls)=true:=by
  grind [OW,db]
 rw[hw]at h2a h2b
 obtain⟨hu,G9⟩:=h.Br g1 Mk g2
 obtain⟨k0,k1,k2,k3⟩:=g1.Rc (nm:=bW nm) (c:=[]) (by rw[g2,lp]) 0 (db ls) (by rw[hu,g3];simp only[List.length_nil];omega) (B:=x2.1) (e:=e2) (by rw[h2a,h2b])
 subst k0
 rcases c2 with⟨qe,_⟩|⟨_,e3,x3,⟨⟨h3a,Q1⟩,h3c⟩,c3⟩
 ·grind
 rw[hf]at h3a Q1
 have Bj:cX [] 0 (db ls)=db ls:=by unfold cX;simp
 rw[Bj]at k2
 obtain⟨m0,m1,m2,m3⟩:=k1.acD (nm:=bW nm) (c:=db ls) (by rw[k2,lp]) (B:=x3.1) (e:=e3) (by rw[h3a,Q1])
 subst m0
 rcases c3 with⟨qe,_⟩|⟨_,e4,x4,⟨⟨h4a,h4b⟩,h4c⟩,c4⟩
 ·grind
 have eY:[bW nm,nm].all isName=true:=by simp[hf,hn]
 rw[eY]at h4a h4b
 have IY:vw x3.1 (bW nm)=some (db ls):=by rw[m2,k2,lp]
 have G1:vw x3.1 nm=vw A nm:=by rw[m2,k2,mS _ _ (fun e=>gf e.symm),g2,mS _ _ (fun e=>gf e.symm)]
 obtain⟨p0,p1,p2,p3⟩:e4=0∧HA x4.1∧vw x4.1=mj (mj (vw x3.1) (bW nm) none) nm (some (db ls))∧x4.1.room=x3.1.room:=by
  cases hd:vw A nm with
  | none=>exact m1.OH gf IY (by rw[G1,hd]) (B:=x4.1) (e:=e4) (by rw[h4a,h4b])
  | some d=>exact m1.OI gf IY (by rw[G1,hd]) (B:=x4.1) (e:=e4) (by rw[h4a,h4b])
 subst p0
 rcases c4 with⟨qe,_⟩|⟨_,e5,x5,⟨⟨h5a,h5b⟩,h5c⟩,c5⟩
 ·grind
 obtain⟨q0,q1,q2,q3⟩:=p1.D8 (B:=x5.1) (e:=e5) (by rw[h5a,h5b])
 subst q0
 rcases c5 with⟨qe,_⟩|⟨_,e6,x6,⟨h6a,h6b⟩,c6⟩
 ·grind
 subst h6a
 rcases c6 with⟨qe,_⟩|⟨_,he,hy⟩
 ·grind
 subst he
 rw[hy,h6b]
 simp only
 refine⟨trivial,q1,?_,by rw[q3,p3,m3,k3,g3],trivial⟩
 rw[q2,p2,m2,k2,g2]
 grind [mj,bW]
structure yf(A:Ab)(D:Nat→Prop):Prop where
 wr:∀w∈A.writes,D w.1
 cl:∀f∈A.fs.map (·.1),¬D f→(A.file f).2=(A.file f).1
theorem yf.create(h:yf A D)(hs:gq n A 0 B):∃f,B.look n=some f∧yf B D:=by
 rcases AD hs with⟨gf,_⟩|⟨_,tJ,f,hf,hn,dE,qw,Bj⟩
 ·grind
 refine⟨f,?_,fun w hw=>h.wr w (Bj ▸ hw),fun g hg hd=>?_⟩
 ·unfold Ab.look at tJ ⊢
  grind [E3]
 ·rw[MW qw]
  split
  ·rfl
  ·rename_i hgf
   rw[O5 qw]at hg
   rcases List.mem_cons.1 hg with e|hg
   ·grind
   ·exact h.cl g hg hd
theorem yf.write{at_:Nat}{b:List UInt8}(h:yf A D)(hw:uw n at_ b A 0 B):∃f,A.look n=some f∧B.look n=some f∧B.names=A.names∧B.aI=A.aI∧yf B (fun g=>D g∨g=f):=by
 rcases Bp hw with⟨gf,_⟩|⟨_,f,hf,hn,hs,qw,Bj⟩
 ·grind
 refine⟨f,hf,by unfold Ab.look at hf ⊢;rw[hn];exact hf,hn,hs,fun w hw=>?_,fun g hg hd=>?_⟩
 ·rw[Bj,List.mem_append,List.mem_singleton]at hw
  rcases hw with hw|rfl
  ·exact .inl (h.wr w hw)
  grind
 ·rw[O4 qw]at hg
  rw[MU qw hg,if_neg (fun e=>hd (.inr e))]
  exact h.cl g hg (fun x=>hd (.inl x))
theorem yf.sync(h:yf A D)(hs:zO n A 0 B):∃f,A.look n=some f∧B.names=A.names∧B.aI=A.aI∧yf B (fun g=>D g∧g≠f):=by
 rcases D7 hs with⟨gf,_⟩|⟨_,f,hf,hn,dE,qw,Bj⟩
 ·grind
 refine⟨f,hf,hn,dE,fun w hw=>?_,fun g hg hd=>?_⟩
 ·rw[Bj,List.mem_filter]at hw
  exact⟨h.wr w hw.1,by simpa using hw.2⟩
 ·rw[Mh qw]at hg
  rw[Ju qw hg]
  by_cases hgf:g=f
  ·grind
  ·rw[if_neg hgf];exact h.cl g hg (fun x=>hd ⟨x,hgf⟩)
def yf.acN(h:yf A D)(hf:B.fs=A.fs)(hw:B.writes=A.writes):yf B D:=⟨fun w hm=>h.wr w (hw ▸ hm),fun f hm hd=>by rw[Az hf];exact h.cl f (hf ▸ hm) hd⟩
theorem yf.rename{o:ByteArray}(h:yf A D)(hs:u3 o n A 0 B):yf B D:=by
 rcases zY hs with⟨gf,_⟩|⟨_,f,hf,hn,dE,qw,Bj⟩
 ·grind
 ·exact h.acN qw Bj
theorem yf.put{C:Ab}{at_:Nat}{b:List UInt8}(h:yf A (fun _=>False))(hw:uw n at_ b A 0 B)(hs:zO n B 0 C):yf C (fun _=>False):=by
 obtain⟨f,h1,h2,_,_,h3⟩:=h.write hw
 obtain⟨g,h4,_,_,h6⟩:=h3.sync hs
 grind
attribute [local irreducible] J K aw Ends ag aH au bE aW aJ a6 aZ bI
theorem Ji{ws:List od}{n j:Nat}{w:od}(hj:j<n)(hw:ws[j/64]?=some w):decide ((((w >>> (j%64)) &&& 1#64).toNat:Int)=1)=q8 ws n (j:Int):=by
 unfold q8
 rw[decide_eq_true (show 0≤(j:Int)∧(j:Int)<n by omega),Bool.true_and,Int.toNat_natCast,List.getD_eq_getElem?_getD,hw,Option.getD_some,decide_eq_decide]
 constructor
 ·intro h
  apply BitVec.eq_of_toNat_eq
  grind
 grind
abbrev orW(p q:od):od:=p ||| q
theorem ad2(p:od):IntKind.u64.wrap ((BitVec.ofInt IntKind.u64.bits (p.toNat:Int) &&& BitVec.ofInt IntKind.u64.bits 1).toNat:Int)=((p &&& 1#64).toNat:Int):=by
 grind [oC,oe]
def aeo(p q:od):IntKind.u64.wrap ((BitVec.ofInt IntKind.u64.bits (p.toNat:Int) ||| BitVec.ofInt IntKind.u64.bits (q.toNat:Int)).toNat:Int)=((p ||| q).toNat:Int):=by
 rw[oC,oC]
 exact oe (p ||| q)
def Nj(p q:od):IntKind.u64.wrap ((BitVec.ofInt IntKind.u64.bits (p.toNat:Int) &&& ~~~ BitVec.ofInt IntKind.u64.bits (q.toNat:Int)).toNat:Int)=((p &&& ~~~q).toNat:Int):=by
 rw[oC,oC]
 exact oe (p &&& ~~~q)
def qNe{ws:List od}{i:Nat}(h:i<ws.length):qV ws≠[]:=fun e=>by have:=congrArg List.length e;rw[ZP]at this;rw[this]at h;simp at h
def xz(sb n:Nat)(wv:Value):aw Tryz.prog 205 [ptr sb] [ag sb (cl [.int .i64 (n:Int),wv] 460)] (fun r H=>r = .int .i64 (n:Int)∧H=[ag sb (cl [.int .i64 (n:Int),wv] 460)]):=by
 refine aw.ao Tryz.func205 Tryz.ntmps205 fun G F R hE=>?_
 refine go ?_
 refine ad hE Tryz.func205 zr zr ⟨rfl,rfl⟩
def N8(sb n:Nat)(wv:Value)(ws:List od)(hn:n≤65536)(hw:n≤ws.length*64)(i:Int):aw Tryz.prog 206 [ptr sb,.int .i64 i] (lI sb n wv ws) (fun r H=>r = .bool (q8 ws n i)∧H=lI sb n wv ws):=by
 unfold lI
 by_cases hi:0≤i∧i<(n:Int)
 case neg =>
  rw[MN aj]
  refine aw.ao Tryz.func206 Tryz.ntmps206 fun G F R hE=>?_
  by_cases h0:0≤i
  ·refine go ?_
   refine aC 7 ((.bool true)) rfl ((congrArg Value.bool (decide_eq_true aj))) (go ?_)
   refine aC 15 ((.bool false)) rfl ((congrArg Value.bool (decide_eq_false aj))) (go ?_)
   refine ad hE Tryz.func206 zr zr ⟨rfl,rfl⟩
  ·refine go ?_
   refine aC 7 ((.bool false)) rfl ((congrArg Value.bool (decide_eq_false aj))) (go ?_)
   refine ad hE Tryz.func206 zr zr ⟨rfl,rfl⟩
 obtain⟨j,rfl⟩:∃j:Nat,i=j:=⟨i.toNat,aj⟩
 have Ff:j/64<ws.length:=by omega
 obtain⟨w,hww⟩:∃w,ws[j/64]?=some w:=⟨ws[j/64],by simp[Ff]⟩
 have dq:=Ll hww
 refine aw.ao Tryz.func206 Tryz.ntmps206 fun G F R hE=>?_
 refine cU 1 rfl ?_
 rintro a c rfl
 refine dz 1 rfl ?_
 intro dt
 obtain⟨b,o,fX,eR⟩:=dt.some (qNe Ff)
 simp only[Value.slice.injEq]at eR
 obtain⟨rfl,_,rfl⟩:=eR
 refine go ?_
 refine aC 7 ((.bool true)) rfl ((congrArg Value.bool (decide_eq_true aj))) (go ?_)
 refine aC 15 ((.bool true)) rfl ((congrArg Value.bool (decide_eq_true aj))) (go ?_)
 refine tU zr zr zr aj aj (by simp only[fZ];omega) ?_
 refine aC 21 ((.int .i64 ((j/64:Nat):Int))) rfl ((congrArg (Value.int .i64) aj)) (go ?_)
 refine bD (j/64) zr zr zr zr zr zr zr zr Ff (go ?_)
 refine aS ?_
 refine aP 1 (j/64) zr zr zr dt rfl dq zr zr (go ?_)
 refine tT zr zr zr aj aj ?_
 refine aC 25 ((.int .i64 ((j%64:Nat):Int))) rfl ((congrArg (Value.int .i64) aj)) (go ?_)
 refine NQ (p:=w) (j%64) zr zr zr zr aj (go ?_)
 ((refine aQ 4 ((.bool (q8 ws n (j:Int)))) rfl ((congrArg Value.bool (by rw[ad2];exact Ji aj hww))) ?_))
 refine ad hE Tryz.func206 zr zr ⟨rfl,rfl⟩
def N7(n:Nat)(hn:n≤65536):aw Tryz.prog 317 [.int .i64 (n:Int)] [] (fun r H=>∃sb wv,r = .tuple #[ptr sb,.int .i64 0]∧H=lI sb n wv (List.replicate ((n+63)/64) 0#64)):=by
 refine aw.ao Tryz.func317 Tryz.ntmps317 fun G F R hE=>?_
 refine go ?_
 refine aQ 6 ((.bool false)) rfl ((congrArg Value.bool (decide_eq_false aj))) (go ?_)
 refine aQ 9 ((.bool false)) rfl ((congrArg Value.bool (decide_eq_false aj))) (go ?_)
 refine tU zr zr zr aj aj (by simp only[fZ];omega) ?_
 refine aC 14 ((.int .i64 (((n+63)/64:Nat):Int))) rfl ((congrArg (Value.int .i64) aj)) (go ?_)
 refine hJ (p:=(n+63)/64) (q:=(n+63)/64) zr zr zr zr zr zr zr zr zr (Nat.le_refl _) aj (by show 8*_≤_;omega) bq ?_
 intro row
 refine go ?_
 refine bC zr zr bq ?_
 intro sb
 refine go ?_
 refine ai (H':=lI sb n (.slice (some ⟨row,0,none⟩) ((n+63)/64) ((n+63)/64)) (List.replicate ((n+63)/64) 0#64)++F) ?_ ?_
 ·have hq:qV (List.replicate ((n+63)/64) 0#64)=List.replicate ((n+63)/64) (.int .u64 0):=by simp[qV,Om]
  unfold lI
  rw[hq,List.length_replicate]
  refine ak.trans (H2:=ag row (cl (List.replicate ((n+63)/64) (.int .u64 0)) 38)::ag sb (cl [.int .i64 (n:Int),.slice (some ⟨row,0,none⟩) ((n+63)/64) ((n+63)/64)] 460)::F) ah ?_
  refine ak.trans (H2:=ag row (cl (List.replicate ((n+63)/64) (.int .u64 0)++[]) 38)::ag sb (cl [.int .i64 (n:Int),.slice (some ⟨row,0,none⟩) ((n+63)/64) ((n+63)/64)] 460)::F) (by rw[List.append_nil];exact ak.refl _) ?_
  refine(eW 38 1 row ((n+63)/64) ((n+63)/64) (List.replicate ((n+63)/64) (.int .u64 0)) [] _ (by simp) (Nat.le_refl _) (by simp)).trans ?_
  exact ak.perm (List.Perm.swap ..)
 ·refine ad hE Tryz.func317 zr zr ⟨_,_,rfl,rfl⟩
def OK(ws:List od)(i:Nat)(w:od)(hw:ws[i/64]?=some w):(qV ws).set (i/64) (.int .u64 ((orW w (FL (i%64))).toNat:Int))=qV (mZ ws i true):=by
 unfold mZ
 rw[if_pos rfl,List.getD_eq_getElem?_getD,hw,Option.getD_some]
 exact Lk ws (i/64) _
def Ln(ws:List od)(i:Nat)(w:od)(hw:ws[i/64]?=some w):(qV ws).set (i/64) (.int .u64 ((w &&& ~~~(FL (i%64))).toNat:Int))=qV (mZ ws i false):=by
 unfold mZ
 rw[if_neg (by simp),List.getD_eq_getElem?_getD,hw,Option.getD_some]
 exact Lk ws (i/64) _
set_option maxHeartbeats 1000000 in
def Kj(sb n:Nat)(wv:Value)(ws:List od)(hn:n≤65536)(hw:n≤ws.length*64)(i:Nat)(hi:i<n)(one:Bool):aw Tryz.prog 357 [ptr sb,.int .i64 (i:Int),.int .i64 ((i:Int)+1),.bool one] (lI sb n wv ws) (fun r H=>r = .int .i64 0∧H=lI sb n wv (mZ ws i one)):=by
 have k9:i/64<ws.length:=by omega
 obtain⟨w,hww⟩:∃w,ws[i/64]?=some w:=⟨ws[i/64],by simp[k9]⟩
 have dq:=Ll hww
 unfold lI
 rw[mq]
 refine aw.ao Tryz.func357 Tryz.ntmps357 fun G F R hE=>?_
 refine cU 1 rfl ?_
 rintro a c rfl
 refine dz 1 rfl ?_
 intro dt
 obtain⟨b,o,fX,eR⟩:=dt.some (qNe k9)
 simp only[Value.slice.injEq]at eR
 obtain⟨rfl,_,rfl⟩:=eR
 clear dt
 refine go ?_
 refine aC 14 ((.bool false)) rfl ((congrArg Value.bool (decide_eq_false aj))) (go ?_)
 refine aC 19 ((.bool false)) rfl ((congrArg Value.bool (decide_eq_false aj))) (go ?_)
 refine aQ 26 ((.bool false)) rfl ((congrArg Value.bool (decide_eq_false aj))) (go ?_)
 refine bj (fun g:Nat=>g≤1) (fun g=>1-g) (fun g=>[(0,ptr sb),(1,.int .i64 ((i:Int)+(g:Int))),(2,.int .i64 ((i:Int)+1)),(3,.bool one)])
  (fun g=>ag sb (cl [.int .i64 (n:Int),.slice (some ⟨b,o,none⟩) ws.length c] 460)::aH 38 1 (.slice (some ⟨b,o,none⟩) ws.length c) ws.length (qV (if g=0 then ws else mZ ws i one))::F) 0 aj rfl bO ah ?_
 intro g hg ih
 rcases(by omega:g=0∨g=1)with rfl|rfl
 ·rw[if_pos rfl]
  refine dz 1 rfl ?_
  intro dt
  refine go ?_
  refine aQ 29 ((.bool true)) rfl ((congrArg Value.bool (decide_eq_true aj))) (go ?_)
  refine tU zr zr zr aj aj (by simp only[fZ];omega) ?_
  refine aC 31 ((.int .i64 ((i/64:Nat):Int))) rfl ((congrArg (Value.int .i64) aj)) (go ?_)
  refine iG zr zr zr (by simp only[fZ];omega) ?_
  refine go ?_
  refine aC 40 ((.int .i64 63)) rfl ((congrArg (Value.int .i64) aj)) ?_
  refine NQ (p:=18446744073709551615#64) 63 rfl (congrArg (fun z:Int=>some (Value.int .u64 z)) (by decide:(18446744073709551615:Int)=((18446744073709551615#64).toNat:Int))) zr zr aj ?_
  refine aC 41 ((.int .u64 ((1#64).toNat:Int))) rfl ((congrArg (fun w:od=>Value.int .u64 (w.toNat:Int)) (by decide))) ?_
  refine go ?_
  refine tT zr zr zr aj aj ?_
  refine aC 43 ((.int .i64 ((i%64:Nat):Int))) rfl ((congrArg (Value.int .i64) aj)) ?_
  refine aa6 (p:=1#64) (i%64) zr zr zr zr aj ?_
  rw[show 1#64 <<< (i%64)=FL (i%64)from rfl]
  cases one with
  | true =>
   refine go ?_
   refine bD (i/64) zr zr zr zr zr zr zr zr k9 ?_
   refine aS ?_
   refine aP 1 (i/64) zr zr zr dt rfl dq zr zr (go ?_)
   refine aC 54 ((.int .u64 ((orW w (FL (i%64))).toNat:Int))) rfl ((congrArg (Value.int .u64) (aeo w _))) ?_
   refine bD (i/64) zr zr zr zr zr zr zr zr k9 ?_
   refine aX ?_
   refine gR (q:=i/64) 1 fE zr zr zr zr zr zr zr k9 rfl ?_
   rw[OK ws i w hww]
   refine go ?_
   refine aQ 1 ((.int .i64 ((i:Int)+((1:Nat):Int)))) rfl ((congrArg (Value.int .i64) aj)) ?_
   refine aK ih 1 rfl aj aj bO ah
  | false =>
   refine go ?_
   refine bD (i/64) zr zr zr zr zr zr zr zr k9 ?_
   refine aS ?_
   refine aP 1 (i/64) zr zr zr dt rfl dq zr zr (go ?_)
   refine aC 64 ((.int .u64 ((w &&& ~~~(FL (i%64))).toNat:Int))) rfl ((congrArg (Value.int .u64) (Nj w _))) ?_
   refine bD (i/64) zr zr zr zr zr zr zr zr k9 ?_
   refine aX ?_
   refine gR (q:=i/64) 1 fE zr zr zr zr zr zr zr k9 rfl ?_
   rw[Ln ws i w hww]
   refine go ?_
   refine aQ 1 ((.int .i64 ((i:Int)+((1:Nat):Int)))) rfl ((congrArg (Value.int .i64) aj)) ?_
   refine aK ih 1 rfl aj aj bO ah
 ·rw[if_neg aj]
  refine go ?_
  refine aQ 29 ((.bool false)) rfl ((congrArg Value.bool (decide_eq_false aj))) (go ?_)
  refine ad hE Tryz.func357 zr zr ⟨rfl,rfl⟩
def DR(sb n:Nat)(wv:Value)(ws:List od)(hn:n≤65536)(hw:n≤ws.length*64)(i:Nat)(hi:i<n)(one:Bool):aw Tryz.prog 324 [ptr sb,.int .i64 (i:Int),.bool one] (lI sb n wv ws) (fun r H=>r = .int .i64 0∧H=lI sb n wv (mZ ws i one)):=by
 have hf:=Kj sb n wv ws hn hw i hi one
 unfold lI at hf ⊢
 refine aw.ao Tryz.func324 Tryz.ntmps324 fun G F R hE=>?_
 refine go ?_
 refine aQ 9 ((.bool false)) rfl ((congrArg Value.bool (decide_eq_false aj))) (go ?_)
 refine aQ 16 ((.bool false)) rfl ((congrArg Value.bool (decide_eq_false aj))) (go ?_)
 refine aF hf ?_
 refine go ?_
 refine ad hE Tryz.func324 zr zr ⟨rfl,rfl⟩
end Go.Proofs.YtjpboghdolfekaaGreatDoor
