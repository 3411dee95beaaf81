import Derived.Test.YtjpboghdolfekaaGreatDoorQMQ2
import Derived.Test.YtjpboghdolfekaaGreatDoorQMQ3
import Derived.Test.YtjpboghdolfekaaGreatDoorQMQ4
import Derived.Test.YtjpboghdolfekaaGreatDoorQMQ6
import Derived.Test.YtjpboghdolfekaaGreatDoorQMQ7
import Derived.Test.YtjpboghdolfekaaGreatDoorQMQ8
import Derived.Test.YtjpboghdolfekaaGreatDoorQMQ9
import Derived.Test.YtjpboghdolfekaaGreatDoorQMQ10
import Derived.OpenShut
import Derived.Deep.Slices
import Derived.DataElems
import Derived.Shelf.SlLaysNS
import Derived.Test.YtjpboghdolfekaaGreatDoorChecked
set_option linter.unusedSimpArgs false
set_option linter.unusedVariables false
set_option maxHeartbeats 4000000
set_option maxRecDepth 20000
set_option linter.defProp false
namespace Go.Proofs.YtjpboghdolfekaaGreatDoor
open Go Go.SL
def Tk.drop(y:Tk)(i:Nat):Tk:=⟨y.yb,y.sb,y.mb,y.x,y.n,mZ y.ws i false,fun j=>if j=(i:Int)then none else y.pf j⟩
theorem FT(es:List (Int × Value))(k j:Int):cF (rz es k) j=if j=k then none else cF es j:=by
 grind [rz,cF]
theorem Hw.drop{z:Value × List (Int × Value) × eG}{y:Tk}(h:Hw z y)(i:Nat):Hw (z.1,rz z.2.1 (i:Int),z.2.2) (y.drop i):=fun j=>by
 rw[FT]
 by_cases hj:j=(i:Int)
 ·rw[if_pos hj]
  show(if j=(i:Int)then none else y.pf j)=none
  grind
 ·rw[if_neg hj]
  have:=h j
  show match cF z.2.1 j with
   | none=>(if j=(i:Int)then none else y.pf j)=none
   | some v=>∃l,(if j=(i:Int)then none else y.pf j)=some l∧Bo z.2.2 32 v l.length (l.flatMap dC)
  grind
attribute [local irreducible] J K aw Ends ag aH au bE aW aJ a6 aZ bI aG
def H5(y:Tk)(i:Nat)(hi:i<y.n)(hn:y.n≤65536)(hw:y.n≤y.ws.length*64) :
  aw Tryz.prog 209 [ptr y.yb,.int .i64 (i:Int)] [pL y] (fun r H=>r = .tuple #[]∧H=[pL (y.drop i)]):=by
 refine aw.ao Tryz.func209 Tryz.ntmps209 fun G F R hE=>?_
 refine cG (jz y) ?_
 rintro⟨wv,cs,M⟩ hz
 have xR:=DR y.sb y.n wv y.ws hn hw i hi false
 refine go ?_
 refine aF xR ?_
 refine aR (H':=ag y.yb (cl (uu y) 221)::au (Value.int .i64) y.mb cs::ag y.sb (cl [.int .i64 (y.n:Int),wv] 460)::aH 38 1 wv (mZ y.ws i false).length (qV (mZ y.ws i false))::a6 35 M::F) ah (go ?_)
 refine rM (U:=aY) (es:=cs) (key:=(i:Int)) 1 (qc Tryz.underlying3) (fun w hw=>by exact trivial) zr zr zr zr zr zr zr ?_
 refine go ?_
 refine ai (ak.pick [0,2,3] rfl) ?_
 refine ai (mP (hz.drop i) _) ?_
 refine bB hE Tryz.func209 rfl _ rfl ⟨rfl,rfl⟩ ah
end Go.Proofs.YtjpboghdolfekaaGreatDoor
namespace Go.Proofs.YtjpboghdolfekaaGreatDoor
open Go Go.SL
variable{ls:List (List UInt8)}{i:Nat}{s:nV}
def mG(c:TC):Prop:=c.n≤1024∧c.n≤c.ws.length*64∧c.ws.length≤65536∧∀k l,c.pf k=some l→l.length≤10
def mG.drop{c:TC}(h:mG c)(i:Nat):mG (c.drop i):=⟨h.1,by unfold TC.drop;simp only[mq];exact h.2.1,by unfold TC.drop;simp only[mq];exact h.2.2.1,fun k l hk=>by
  unfold TC.drop at hk
  simp only at hk
  split at hk
  · cases hk
  · exact h.2.2.2 k l hk⟩
def mG.hold{s:nV}{c:TC}(h:mG c):∀k,mG (hD s c k).1
 | 0=>h
 | k+1=>by
  rw[nw]
  have ih:=mG.hold (s:=s) h k
  unfold my
  split
  ·split
   ·exact ih.drop k
   ·exact ih
  ·exact ih
theorem EE{x:Bl}{i:Int}{b:List UInt8}{p:List Dg}(h:lU x i b p=true):p.length≤10:=by
 grind [lU,nA,sJ]
def Mt{y:Tk}(h:q8 y.ws y.n (i:Int)=false):my s (y.c,ls) i=(y.c,ls):=by
 exact if_neg (show ¬q8 y.ws y.n (i:Int)=true by rw[h];simp)
theorem Fb{y:Tk}(h:q8 y.ws y.n (i:Int)=true)(h2:(eH s y.x (i:Int)).2≠0∨lU y.x i (eH s y.x (i:Int)).1 ((y.pf i).getD [])=false):my s (y.c,ls) i=(y.c.drop i,ls):=by
 exact(if_pos (show q8 y.ws y.n (i:Int)=true from h)).trans (if_pos h2)
theorem Fa{y:Tk}(h:q8 y.ws y.n (i:Int)=true)(h2:¬((eH s y.x (i:Int)).2≠0∨lU y.x i (eH s y.x (i:Int)).1 ((y.pf i).getD [])=false)):my s (y.c,ls) i=(y.c,ls++[cO y.x.d i ((y.pf i).getD [])]):=by
 exact(if_pos (show q8 y.ws y.n (i:Int)=true from h)).trans (if_neg h2)
attribute [local irreducible] J K aw Ends ag aH au bE aW aJ a6 aZ bI aG l8
theorem Ms(X:HP)(hK:lL X)(tb bs jb bd:Nat)(tv:Value)(br:Bool)(q:Int)(mb:Nat)(s:SJ)(hRd:∀nm at_ n,(s.1.A.read nm at_ n).1.length≤1048576)(y0:Tk)(mL:mG y0.c)(js:0≤y0.x.size∧y0.x.size≤1000000000000)(hps:0≤y0.x.piece∧y0.x.piece≤1000000000000) :
  aw Tryz.prog 119 [ptr tb,ptr y0.yb] [ag tb (cl [ptr bs,ptr jb,tv,.bool br] 216),pL y0,l8 bs bd jb q mb [] s,X]
  (fun r H=>∃(y:Tk) (Z:HP),y.yb=y0.yb∧y.c=(jS s.1 y0.c).1∧qx Z r (jS s.1 y0.c).2∧H=[ag tb (cl [ptr bs,ptr jb,tv,.bool br] 216),pL y,l8 bs bd jb q mb [] s,X,Z]):=by
 have hbg:=ya y0.x js hps
 refine aw.ao Tryz.func119 Tryz.ntmps119 fun G F R hE=>?_
 refine ai (ak.pick [1] rfl) ?_
 refine cG (jz y0) ?_
 rintro⟨wv,cs,N⟩ hz0
 refine go ?_
 refine cC (cs:=dN y0.x) 0 zr zr zr zr zr zr ?_
 refine az hbg ?_
 rintro r _ rfl
 refine aM 0 rfl ?_
 rintro a8 c8 rfl
 refine iA (bs:=eT y0.x) 0 rfl ?_
 intro hb8
 refine go ?_
 refine aq (cs:=[.slice a8 (eT y0.x).length c8]) zr zr zr zr zr zr zr zr zr bq ?_
 intro row
 refine aR (H':=ag y0.yb (cl (uu y0) 221)::ag y0.sb (cl [.int .i64 (y0.n:Int),wv] 460)::aH 38 1 wv y0.ws.length (qV y0.ws)::au (Value.int .i64) y0.mb cs::a6 35 N::ag row (cl [.slice a8 (eT y0.x).length c8] 37)::aH 5 1 (.slice a8 (eT y0.x).length c8) (eT y0.x).length (bV (eT y0.x))::ag tb (cl [ptr bs,ptr jb,tv,.bool br] 216)::l8 bs bd jb q mb [] s::X::F) ah (go ?_)
 refine aF (xz y0.sb y0.n wv) ?_
 refine go ?_
 refine ai (ak.trans (H2:=Bw y0 (wv,cs,N)++(ag row (cl [.slice a8 (eT y0.x).length c8] 37)::aH 5 1 (.slice a8 (eT y0.x).length c8) (eT y0.x).length (bV (eT y0.x))::ag tb (cl [ptr bs,ptr jb,tv,.bool br] 216)::l8 bs bd jb q mb [] s::X::F)) ah (mP hz0 _)) ?_
 refine ai (ak.pick [1,2] rfl) ?_
 refine ai (eW 37 1 row 1 1 [.slice a8 (eT y0.x).length c8] [] _ rfl (Nat.le_refl _) (by simp)) ?_
 refine bj (fun z:Nat × Tk × Rws × Option Addr × Nat=>z.1≤y0.n∧z.2.1.yb=y0.yb∧z.2.1.c=(hD s.1 y0.c z.1).1∧AR z.2.2.1 (hD s.1 y0.c z.1).2∧z.2.2.1.cs.length≤z.1+1) (fun z=>y0.n-z.1)
  (fun z=>[(0,ptr tb),(1,ptr y0.yb),(5,.slice z.2.2.2.1 z.2.2.1.cs.length z.2.2.2.2),(19,.int .i64 (y0.n:Int)),(20,.int .i64 (z.1:Int))])
  (fun z=>aH 37 1 (.slice z.2.2.2.1 z.2.2.1.cs.length z.2.2.2.2) z.2.2.1.cs.length z.2.2.1.cs::z.2.2.1.Z::pL z.2.1::ag tb (cl [ptr bs,ptr jb,tv,.bool br] 216)::l8 bs bd jb q mb [] s::X::F) (0,y0,⟨[.slice a8 (eT y0.x).length c8],aH 5 1 (.slice a8 (eT y0.x).length c8) (eT y0.x).length (bV (eT y0.x))⟩,some ⟨row,0,none⟩,1) ⟨Nat.zero_le _,rfl,rfl,?_,by simp⟩ rfl bO ah ?_
 ·refine⟨rfl,fun j x hx=>?_⟩
  match j,hx with
  | 0,hx=>cases hx;exact⟨_,rfl,hb8⟩
  | j+1,hx=>cases hx
 rintro⟨i,y,M,oa,oc⟩⟨hi,Kq,Z7,hM,hMl⟩ ih
 simp only at hi Kq Z7 hM hMl
 refine go ?_
 refine aD zr zr ?_ ?_
 ·intro cB
  obtain⟨ls,hls⟩:∃ls,ls=(hD s.1 y0.c i).2:=⟨_,rfl⟩
  have ac':hD s.1 y0.c i=(y.c,ls):=by rw[Z7,hls]
  have nQ:=nw s.1 y0.c i
  rw[ac']at nQ
  rw[← hls]at hM
  have ade:mG y.c:=by rw[Z7];exact mL.hold i
  have hxx:=G7 s.1 y0.c i
  rw[← Z7]at hxx
  have hyn:y.n=y0.n:=hxx.2.1
  have acO:y.n≤65536:=Nat.le_trans ade.1 aj
  have hyw:y.n≤y.ws.length*64:=ade.2.1
  rw[← Kq]
  refine ai (ak.pick [2] rfl) ?_
  refine cG (jz y) ?_
  rintro⟨wv,cs,N⟩ hz
  have mA:∀H,ak (ag y.yb (cl (uu y) 221)::ag y.sb (cl [.int .i64 (y.n:Int),wv] 460)::aH 38 1 wv y.ws.length (qV y.ws)::au (Value.int .i64) y.mb cs::a6 35 N::H) (pL y::H):=fun H=>ak.trans (H2:=Bw y (wv,cs,N)++H) ah (mP hz _)
  have aas:=N8 y.sb y.n wv y.ws acO hyw (i:Int)
  refine go ?_
  refine aF aas ?_
  cases hhq:q8 y.ws y.n (i:Int)with
  | false =>
   have vT:hD s.1 y0.c (i+1)=(y.c,ls):=by rw[nQ,Mt hhq]
   refine go ?_
   refine aQ 1 ((ptr y0.yb)) rfl ((by rw[Kq])) ?_
   refine ai (ak.trans ah (mA (aH 37 1 (.slice oa M.cs.length oc) M.cs.length M.cs::M.Z::ag tb (cl [ptr bs,ptr jb,tv,.bool br] 216)::l8 bs bd jb q mb [] s::X::F))) ?_
   refine aK ih (i+1,y,M,oa,oc) rfl ⟨by simp only;omega,Kq,by rw[vT],by rw[vT];exact hM,by simp only;omega⟩ aj bO ah
  | true =>
  have hsg:=FX bs bd q mb s.1 y.x (i:Int)
  obtain⟨bb,Hg⟩:∃b,b=(eH s.1 y.x (i:Int)).1:=⟨_,rfl⟩
  obtain⟨ee,hee⟩:∃e,e=(eH s.1 y.x (i:Int)).2:=⟨_,rfl⟩
  have uj:bb.length≤1048576:=by
   grind [eH]
  have Cy:(ee≠0∨lU y.x i bb ((y.pf i).getD [])=false)→hD s.1 y0.c (i+1)=(y.c.drop i,ls):=fun h=>by
   grind [Fb]
  have hs4:¬(ee≠0∨lU y.x i bb ((y.pf i).getD [])=false)→hD s.1 y0.c (i+1)=(y.c,ls++[cO y.x.d i ((y.pf i).getD [])]):=fun h=>by
   grind [Fa]
  rw[← Hg,← hee]at hsg
  obtain⟨pv,aae,Pa⟩:=hz.look (i:Int)
  obtain⟨pa,pc,aeS,QF⟩:=Pa.shape
  subst aeS
  refine go ?_
  refine ai (ak.pick [8,2] rfl) ?_
  refine ai (F0 bs bd jb q mb s _) ?_
  refine aO (fun w=>Sat G w ([ag tb (cl [ptr bs,ptr jb,tv,.bool br] 216),ag y.yb (cl (uu y) 221)])) (cM 0 9 (.act 9 (cM 10 5 .nil))) rfl ae ae ae dv ?_
  refine go ?_
  refine cE (U:=aY) (cs:=dN y.x) 1 zr zr zr zr zr zr (go ?_)
  ((refine dM zr zr zr zr (hsg) ah ?_ (fun _ _ w hp hw=>by obtain⟨_,rfl,rfl⟩:=hp;exact hw.cp ah)))
  rintro _ _⟨rv,rfl,rfl⟩
  refine aM 0 rfl ?_
  rintro ra rc rfl
  refine rW ?_
  refine gG rfl ?_
  refine ai (ak.trans ah (w6 bs bd jb q mb s (aH 5 1 (.slice ra bb.length rc) bb.length (bV bb)::ag y.yb (cl (uu y) 221)::ag y.sb (cl [.int .i64 (y.n:Int),wv] 460)::aH 38 1 wv y.ws.length (qV y.ws)::au (Value.int .i64) y.mb cs::a6 35 N::aH 37 1 (.slice oa M.cs.length oc) M.cs.length M.cs::M.Z::ag tb (cl [ptr bs,ptr jb,tv,.bool br] 216)::X::F))) ?_
  refine xe (bs:=bb) 1 rfl ?_
  intro afx
  obtain⟨pf,hpf⟩:∃l,l=(y.pf (i:Int)).getD []:=⟨_,rfl⟩
  rw[← hpf]at aae Pa QF Cy hs4
  have hmp:=E2 (Sep [X,aH 5 1 (.slice ra bb.length rc) bb.length (bV bb),a6 35 N]) (hK.mono (bz (H:=[X,aH 5 1 (.slice ra bb.length rc) bb.length (bV bb),a6 35 N]) (i:=0) rfl)) y.x (i:Int) (.slice ra bb.length rc) bb (afx.mono (bz (i:=1) rfl)) aj (.slice pa pf.length pc) pf ⟨(Pa.view _).mono (bz (i:=2) rfl),pa,pc,rfl,QF⟩
  have hdr:=H5 y i aj acO hyw
  refine ai (ak.pick [10,1,6,2,5,3,4,7,8,9] rfl) ?_
  refine ai (ak.bT [X,aH 5 1 (.slice ra bb.length rc) bb.length (bV bb),a6 35 N] _) ?_
  have kK:∀H,ak (Sep [X,aH 5 1 (.slice ra bb.length rc) bb.length (bV bb),a6 35 N]::ag y.yb (cl (uu y) 221)::au (Value.int .i64) y.mb cs::ag y.sb (cl [.int .i64 (y.n:Int),wv] 460)::aH 38 1 wv y.ws.length (qV y.ws)::H) (ag y.yb (cl (uu y) 221)::ag y.sb (cl [.int .i64 (y.n:Int),wv] 460)::aH 38 1 wv y.ws.length (qV y.ws)::au (Value.int .i64) y.mb cs::a6 35 N::X::H):=fun H=>(ak.cL [X,aH 5 1 (.slice ra bb.length rc) bb.length (bV bb),a6 35 N] _).trans ah
  refine aO (fun w=>Sat G w ([ag y.yb (cl (uu y) 221),au (Value.int .i64) y.mb cs])) (cM 0 15 (.act 15 (.st 16 (.st 17 .nil)))) rfl ae ae ae dv ?_
  refine go ?_
  by_cases he:ee=0
  case neg =>
   have vT:=Cy (.inl he)
   refine aC 45 ((.bool true)) rfl ((congrArg Value.bool (decide_eq_true aj))) (go ?_)
   refine aR (ak.trans ah (kK (aH 37 1 (.slice oa M.cs.length oc) M.cs.length M.cs::M.Z::ag tb (cl [ptr bs,ptr jb,tv,.bool br] 216)::l8 bs bd jb q mb [] s::F))) ?_
   refine aR (mA _) (go ?_)
   refine aF hdr ?_
   refine go ?_
   refine aQ 1 ((ptr y0.yb)) rfl ((by rw[Kq])) ?_
   refine aK ih (i+1,y.drop i,M,oa,oc) rfl ⟨by simp only;omega,Kq,by rw[vT];rfl,by rw[vT];exact hM,by simp only;omega⟩ aj bO ah
  refine aC 45 ((.bool false)) rfl ((congrArg Value.bool (decide_eq_false aj))) (go ?_)
  refine cE (U:=aY) (cs:=dN y.x) 0 zr zr zr zr zr zr (go ?_)
  refine zB (U:=aY) (kv:=Value.int .i64) (es:=cs) (key:=(i:Int)) rfl (qc Tryz.underlying3) zr zr zr zr zr zr zr (fun w hw=>hw.jt (i:=1) rfl) ?_
  refine aC 57 ((.slice pa pf.length pc)) rfl (aae) (go ?_)
  refine bP hmp ?_
  cases hpb:lU y.x i bb pf with
  | false =>
   have vT:=Cy (.inr hpb)
   refine go ?_
   refine aR (ak.trans ah (kK (aH 37 1 (.slice oa M.cs.length oc) M.cs.length M.cs::M.Z::ag tb (cl [ptr bs,ptr jb,tv,.bool br] 216)::l8 bs bd jb q mb [] s::F))) ?_
   refine aR (mA _) (go ?_)
   refine aF hdr ?_
   refine go ?_
   refine aQ 1 ((ptr y0.yb)) rfl ((by rw[Kq])) ?_
   refine aK ih (i+1,y.drop i,M,oa,oc) rfl ⟨by simp only;omega,Kq,by rw[vT];rfl,by rw[vT];exact hM,by simp only;omega⟩ aj bO ah
  | true =>
  have vT:=hs4 (fun h=>by rcases h with h|h;exact h he;rw[hpb]at h;cases h)
  have uf:=EE hpb
  have Pd:=Iu y.x.d i aj (a6 35 N) (.slice pa pf.length pc) pf (Pa.view _) aj
  refine go ?_
  refine ai (ak.trans ah (kK (aH 37 1 (.slice oa M.cs.length oc) M.cs.length M.cs::M.Z::ag tb (cl [ptr bs,ptr jb,tv,.bool br] 216)::l8 bs bd jb q mb [] s::F))) ?_
  refine aO (fun w=>Sat G w ([ag y.yb (cl (uu y) 221),au (Value.int .i64) y.mb cs])) (cM 0 13 (.act 13 (.act 14 (.act 15 (.st 16 .nil))))) rfl ae ae ae dv ?_
  refine go ?_
  refine cE (U:=aY) (cs:=dC y.x.d) 0 zr zr zr zr zr zr (go ?_)
  refine zB (U:=aY) (kv:=Value.int .i64) (es:=cs) (key:=(i:Int)) rfl (qc Tryz.underlying3) zr zr zr zr zr zr zr (fun w hw=>hw.jt (i:=1) rfl) ?_
  refine aC 76 ((.slice pa pf.length pc)) rfl (aae) (go ?_)
  refine cP Pd ?_
  rintro r9 _ rfl
  refine aM 0 rfl ?_
  rintro a9 c9 rfl
  refine iA (bs:=cO y.x.d i pf) 0 rfl ?_
  intro hb9
  refine go ?_
  refine aq (cs:=[.slice a9 (cO y.x.d i pf).length c9]) zr zr zr zr zr zr zr zr zr (fun _ w hw=>hw.cp ah) ?_
  intro Ik
  refine aR (H':=ag Ik (cl [.slice a9 (cO y.x.d i pf).length c9] 37)::aH 37 1 (.slice oa M.cs.length oc) M.cs.length M.cs::aH 5 1 (.slice a9 (cO y.x.d i pf).length c9) (cO y.x.d i pf).length (bV (cO y.x.d i pf))::M.Z::ag y.yb (cl (uu y) 221)::ag y.sb (cl [.int .i64 (y.n:Int),wv] 460)::aH 38 1 wv y.ws.length (qV y.ws)::au (Value.int .i64) y.mb cs::a6 35 N::ag tb (cl [ptr bs,ptr jb,tv,.bool br] 216)::l8 bs bd jb q mb [] s::X::F) ah (go ?_)
  refine aU (mm:=1) (news:=[.slice a9 (cO y.x.d i pf).length c9]) 1 0 rfl rfl rfl rfl rfl rfl rfl rfl rfl rfl rfl rfl (Vw.ag rfl) rfl (by intro v hv;simp at hv;rw[hv];rfl) aj (by show(_+_)*24≤_;omega) (fun _=>rfl) (fun _ w hw=>hw.cp ah) ?_
  intro v1
  refine aM 1 rfl ?_
  rintro ja jc rfl
  refine go ?_
  have CU:=hM.add hb9
  have aaB:(M.cs++[Value.slice a9 (cO y.x.d i pf).length c9]).length=M.cs.length+1:=by simp
  refine ai (H':=aH 5 1 (.slice a9 (cO y.x.d i pf).length c9) (cO y.x.d i pf).length (bV (cO y.x.d i pf))::M.Z::ag y.yb (cl (uu y) 221)::ag y.sb (cl [.int .i64 (y.n:Int),wv] 460)::aH 38 1 wv y.ws.length (qV y.ws)::au (Value.int .i64) y.mb cs::a6 35 N::aH 37 1 (.slice ja (M.cs++[Value.slice a9 (cO y.x.d i pf).length c9]).length jc) (M.cs++[Value.slice a9 (cO y.x.d i pf).length c9]).length (M.cs++[Value.slice a9 (cO y.x.d i pf).length c9])::ag tb (cl [ptr bs,ptr jb,tv,.bool br] 216)::l8 bs bd jb q mb [] s::X::F) (by rw[aaB];exact ah) ?_
  refine ai (ak.bT [aH 5 1 (.slice a9 (cO y.x.d i pf).length c9) (cO y.x.d i pf).length (bV (cO y.x.d i pf)),M.Z] _) ?_
  refine ai (ak.trans ah (mA (Sep [aH 5 1 (.slice a9 (cO y.x.d i pf).length c9) (cO y.x.d i pf).length (bV (cO y.x.d i pf)),M.Z]::aH 37 1 (.slice ja (M.cs++[Value.slice a9 (cO y.x.d i pf).length c9]).length jc) (M.cs++[Value.slice a9 (cO y.x.d i pf).length c9]).length (M.cs++[Value.slice a9 (cO y.x.d i pf).length c9])::ag tb (cl [ptr bs,ptr jb,tv,.bool br] 216)::l8 bs bd jb q mb [] s::X::F))) ?_
  refine aQ 1 ((ptr y0.yb)) rfl ((by rw[Kq])) ?_
  refine aQ 5 ((.slice ja (M.cs++[Value.slice a9 (cO y.x.d i pf).length c9]).length jc)) rfl ((by rw[aaB])) ?_
  refine aK ih (i+1,y,⟨M.cs++[Value.slice a9 (cO y.x.d i pf).length c9],Sep [aH 5 1 (.slice a9 (cO y.x.d i pf).length c9) (cO y.x.d i pf).length (bV (cO y.x.d i pf)),M.Z]⟩,ja,jc) rfl ⟨by simp only;omega,Kq,by rw[vT],by rw[vT];exact CU,by simp only[aaB];omega⟩ aj bO ah
 ·intro eN
  have tK:i=y0.n:=by omega
  subst tK
  refine oY 0 rfl ?_
  intro fF
  refine dz 0 rfl ?_
  intro Mj
  have uh:=hM.1
  have mz:qx (Sep [aH 37 1 (.slice oa M.cs.length oc) M.cs.length M.cs,M.Z]) (.slice oa M.cs.length oc) (jS s.1 y0.c).2:=by
   rw[uh]at Mj fF ⊢
   exact qx.ofP Mj fF uh hM.2
  refine ai (ak.bT [aH 37 1 (.slice oa M.cs.length oc) M.cs.length M.cs,M.Z] _) (go ?_)
  refine ad hE Tryz.func119 zr zr ⟨y,_,Kq,Z7,mz,rfl⟩
end Go.Proofs.YtjpboghdolfekaaGreatDoor
namespace Go.Proofs.YtjpboghdolfekaaGreatDoor
open Go Go.SL
def Nq(c:TC):Prop:=mG c∧bY c.x=true
theorem mG.fresh(x:Bl):mG (sG x):=by
 have h:=zk x
 unfold mG sG
 grind
theorem mG.put{c:TC}(h:mG c)(i:Nat){l:List Dg}(hl:l.length≤10):mG (c.put i l):=⟨h.1,by unfold TC.put;simp only[mq];exact h.2.1,by unfold TC.put;simp only[mq];exact h.2.2.1,fun k l' hk=>by
  unfold TC.put at hk
  simp only at hk
  split at hk
  · grind
  · exact h.2.2.2 k l' hk⟩
theorem yL{cs:List TC}(h:∀c∈cs,Nq c)(d:Dg)(m:List UInt8)(l:List (List UInt8)):(∀c∈oB cs d m l,Nq c)∧(oB cs d m l).length=cs.length:=by
 unfold oB
 split
 ·refine⟨fun c hc=>?_,by simp⟩
  obtain⟨y,hy,rfl⟩:=List.mem_map.1 hc
  split
  ·rename_i hh
   exact⟨(h y hy).1.put _ (by rw[hh.2.2];exact sJ _ _),(h y hy).2⟩
  grind
 grind
def ZN{cs:List TC}(h:∀c∈cs,Nq c)(d:Dg):(∀c∈OF cs d,Nq c)∧(OF cs d).length≤cs.length:=⟨fun c hc=>h c (List.mem_filter.1 hc).1,List.length_filter_le _ _⟩
theorem KW{cs:List TC}(h:∀c∈cs,Nq c)(b:List UInt8):(∀c∈fI cs b,Nq c)∧(fI cs b).length≤cs.length+1:=by
 unfold fI
 split
 ·grind
 ·rename_i k d more _
  have hr:=ZN h d
  split
  ·grind
  ·split
   ·split
    ·split
     ·split
      ·rename_i QB
       refine⟨fun c hc=>?_,by rw[List.length_append];simp;omega⟩
       rcases List.mem_append.1 hc with hc|hc
       ·exact hr.1 c hc
       ·rw[List.mem_singleton.1 hc];exact⟨mG.fresh _,QB⟩
      grind
     grind
    grind [yL]
   ·grind [yL]
   grind
theorem Gv:∀(ls:List (List UInt8)) (cs:List TC),(∀c∈cs,Nq c)→(∀c∈ls.foldl fI cs,Nq c)∧(ls.foldl fI cs).length≤cs.length+ls.length
 | [],cs,h=>⟨h,by simp⟩
 | b::ls,cs,h=>by
  obtain⟨h1,h2⟩:=KW h b
  obtain⟨h3,h4⟩:=Gv ls (fI cs b) h1
  grind
theorem uT(ls:List (List UInt8)):(∀c∈ls.foldl fI [],Nq c)∧(ls.foldl fI []).length≤ls.length:=by
 grind [Gv]
theorem Gn{q:Int}{x:Bl}{s t:nV}{e:Nat}(h:gJ q x s e t):t.cy=s.cy∨t.cy=s.cy++[(x.d,x)]:=by
 unfold gJ at h
 split at h
 ·grind
 split at h
 ·grind
 split at h
 ·grind
 split at h
 ·grind
 split at h
 ·grind
 ·obtain⟨e1,s1,⟨B,_,rfl⟩,h2⟩:=h
  grind
theorem lS{x:Bl}(h:bY x=true):1≤x.size∧x.size≤1048576∧16≤x.piece∧x.piece≤16384:=by
 grind [bY]
theorem tW.begin{q:Int}{x:Bl}{s t:nV}{e:Nat}(h:tW s.cy)(hl:s.cy.length<1000000)(hr:bY x=true)(hR:gJ q x s e t):tW t.cy∧t.cy.length≤s.cy.length+1:=by
 rcases Gn hR with h1|h1
 ·grind
 ·rw[h1]
  have:=lS hr
  refine⟨⟨fun y hy=>?_,by simp;omega⟩,by simp⟩
  rcases List.mem_append.1 hy with hy|hy
  ·exact h.1 y hy
  grind
theorem tj:∀(ss:List (PS→Nat→PS→Prop)),(∀sp∈ss,∀x e y,sp x e y→kY x.1 y.1)→∀(x:PS) (e:Nat) (y:PS),sT ss x e y→y.1.aI.length≤x.1.aI.length+ss.length∧y.1.writes.length≤x.1.writes.length+ss.length
 | [],_,x,e,y,h=>by obtain⟨_,rfl⟩:=h;simp
 | sp::ss,hs,x,e,y,⟨e1,x1,h1,h2⟩=>by
  have hg:=hs sp (List.mem_cons_self ..) x e1 x1 h1
  unfold kY at hg
  rcases h2 with⟨_,_,rfl⟩|⟨_,h2⟩
  ·grind
  ·have:=tj ss (fun sp h=>hs sp (List.mem_cons_of_mem _ h)) x1 e y h2
   grind
theorem JR{nm:ByteArray}{ls:List (List UInt8)}{x y:PS}{e:Nat}(h:AU nm ls x e y):y.1.aI.length≤x.1.aI.length+7∧y.1.writes.length≤x.1.writes.length+7:=by
 have hg:=tj (gw nm ls x.1) (fun sp DV x e y hS=>by
  unfold gw at DV
  have key:sp=zU (bW nm)∨sp∈[zV (bW nm),En (bW nm) (db ls),K8 (bW nm),zT (bW nm) nm,Eo,ZL (ls.flatMap eo).length]:=by
   grind
  simp only[List.mem_cons,List.not_mem_nil,or_false]at key
  rcases key with rfl|rfl|rfl|rfl|rfl|rfl|rfl
  ·obtain⟨⟨h1,h2⟩,_⟩:=hS;rw[h2];exact oN _ _ _
  ·obtain⟨⟨f,_,h1,h2⟩,_⟩:=hS;rw[h2];exact oO _ _ _ _
  ·obtain⟨⟨h1,h2⟩,_⟩:=hS;rw[h2];exact we _ _ _ _ _
  ·obtain⟨⟨h1,h2⟩,_⟩:=hS;rw[h2];exact y8 _ _ _
  ·obtain⟨⟨h1,h2⟩,_⟩:=hS;rw[h2];exact tO _ _ _ _
  ·obtain⟨⟨h1,h2⟩,_⟩:=hS;rw[h2];exact iT _
  ·obtain⟨h1,h2⟩:=hS;rw[h2];exact⟨by simp,by simp⟩) x e y h
 grind [gw]
theorem F4{A A':Ab}{nm:ByteArray}{e:Nat}{j:JN}(h:pV A nm e A' j):A'.aI.length≤A.aI.length+7∧A'.writes.length≤A.writes.length+7:=by
 unfold pV at h
 split at h
 ·grind
 split at h
 ·grind
 obtain⟨y,hy,rfl,_⟩:=h
 exact JR hy
theorem I3(s:nV)(z:TC × List (List UInt8))(hz:mG z.1)(i:Nat)(hi:i≤1000000000000):(∀x∈(my s z i).2,x∈z.2∨x.length≤760)∧(my s z i).2.length≤z.2.length+1:=by
 unfold my
 split
 ·split
  ·grind
  ·refine⟨fun x hx=>?_,by simp⟩
   rcases List.mem_append.1 hx with hx|hx
   ·exact .inl hx
   ·right
    rw[List.mem_singleton.1 hx]
    have uf:((z.1.pf i).getD []).length≤10:=by
     cases hp:z.1.pf i with
     | none=>simp
     | some l=>exact hz.2.2.2 _ l hp
    have:=vo 2 z.1.x.d (jo i ((z.1.pf i).getD [])) (by simp[jo];omega) (vt i hi _)
    grind [cO,jo]
 grind
theorem yW(s:nV)(c:TC)(hc:mG c)(hr:bY c.x=true):∀k,k≤1024→(∀x∈(hD s c k).2,x.length≤760)∧(hD s c k).2.length≤k+1
 | 0,_=>by
  refine⟨fun x hx=>?_,by simp[hD]⟩
  have:x=eT c.x:=by simpa[hD]using hx
  rw[this]
  have hb:=lS hr
  have:=vo 1 c.x.d (nC c.x) (by simp[nC]) (wU c.x aj aj)
  unfold eT
  omega
 | k+1,hk=>by
  obtain⟨h1,h2⟩:=yW s c hc hr k aj
  rw[nw]
  obtain⟨h3,h4⟩:=I3 s (hD s c k) (hc.hold k) k aj
  grind
theorem I4(s:nV)(c:TC)(h:Nq c):(∀x∈(jS s c).2,x.length≤760)∧(jS s c).2.length≤1025:=by
 obtain⟨h1,h2⟩:=yW s c h.1 h.2 c.n h.1.1
 have:=h.1.1
 grind [jS]
theorem wj:∀(ls:List (List UInt8)) (n:Nat),(∀x∈ls,x.length≤760)→ls.length≤n→(ls.flatMap eo).length≤770*n
 | [],n,_,_=>by simp
 | x::ls,n,h,hn=>by
  rw[List.length_cons]at hn
  have:=wj ls (n-1) (fun y hy=>h y (List.mem_cons_of_mem _ hy)) aj
  grind [CZ]
def AR.afH{M:Rws}{ls:List (List UInt8)}(h:AR M ls){A:HP}{cs:List Value}{ls2:List (List UInt8)}(hl:cs.length=ls2.length)(hx:∀(i:Nat) (x:List UInt8),ls2[i]?=some x→∃cv,cs[i]?=some cv∧fb A cv x):AR ⟨M.cs++cs,Sep [A,M.Z]⟩ (ls++ls2):=by
 obtain⟨h1,h2⟩:=h
 refine⟨by simp[h1,hl],fun i y hy=>?_⟩
 rw[List.getElem?_append]at hy ⊢
 rw[h1]
 split at hy
 ·rename_i cB
  rw[if_pos cB]
  obtain⟨cv',h3,h4⟩:=h2 i y hy
  exact⟨cv',h3,h4.mono (bz (i:=1) rfl)⟩
 ·rename_i eN
  rw[if_neg eN]
  obtain⟨cv',h3,h4⟩:=hx _ y hy
  exact⟨cv',h3,h4.mono (bz (i:=0) rfl)⟩
attribute [local irreducible] J K aw Ends ag aH au bE aW aJ a6 aZ bI aG l8 tC
theorem JY(X:HP)(hK:lL X)(bs bd:Nat)(q:Int)(hq:0≤q∧q≤1073741824)(mb:Nat)(s:nV)(hbo:tW s.cy)(uj:s.cy.length≤900000)(dE:s.A.aI.length≤700000000)(k4:s.A.writes.length≤700000000)(q5:(kM s.A kZ).length≤900000)(Ps:∀x∈kM s.A kZ,x.length≤1000000)(xQ:((kM s.A kZ).foldl fI []).length≤100) :
    aw Tryz.prog 68 [ptr bd,ptr bs] (p5 bs bd q mb s++[X])
    (fun r H=>∃(e:Nat) (t:nV) (jn:JN) (cs:List TC),AV q s e t jn cs∧((e≠0∧r = .tuple #[.pointer none,.int .i64 (e:Int)]∧H=p5 bs bd q mb t++[X])∨(e=0∧∃tb jb tv ts,kq ts=cs∧r = .tuple #[ptr tb,.int .i64 0]∧H=kC tb bs jb tv ts false++[l8 bs bd jb q mb [] (t,jn),X]))):=by
  obtain⟨A,cy,brk⟩:=s
  have I2:=Nx bd kZ A (by decide) (by simp only at dE;omega) (by simp only at k4;omega)
  have hpn:kZ=⟨#[112,105,101,99,101,115]⟩:=rfl
  simp only at hbo uj dE k4 q5 xQ Ps
  refine aw.ao Tryz.func68 Tryz.ntmps68 fun G F R hE=>?_
  refine go ?_
  refine az I2 ?_
  rintro _ _⟨e1,A1,j1,hO,⟨QT,rfl,rfl⟩|⟨rfl,jb,lv,rfl,rfl⟩⟩
  · refine go ?_
    refine aD zr zr ?_ ?_
    case' refine_2=>(intro h;exfalso;omega)
    intro _
    refine go ?_
    ((refine ad hE Tryz.func68 zr zr ⟨e1,⟨A1,cy,brk⟩,j1,[],⟨e1,A1,j1,hO,by rw[if_pos QT];exact⟨rfl,rfl⟩⟩,.inl ⟨QT,rfl,rfl⟩⟩))
  have hog:=F4 hO
  obtain⟨ls,hls⟩:∃ls,ls=kM A kZ:=⟨_,rfl⟩
  rw[← hpn,← hls]
  rw[← hls]at q5 Ps xQ
  refine rW ?_
  refine gG rfl ?_
  refine ai (H':=tC lv ls::aG bd A1::Md jb bd kZ j1::ag bs (cl (dR bd q mb brk) 209)::au dV mb (eB cy)::X::F) (by rw[hpn];exact ah) ?_
  refine cG (E4 lv ls) ?_
  rintro⟨cs,M⟩ hRR
  refine Q' 0 hRR rfl ?_
  intro mz
  obtain⟨Z,hZ⟩:∃Z,Z=Sep [aH 37 1 lv ls.length cs,a6 5 M]:=⟨_,rfl⟩
  refine ai (ak.bT [aH 37 1 lv ls.length cs,a6 5 M] _) ?_
  rw[← hZ]at mz ⊢
  obtain⟨cs,dt,jF,⟨la,lc,rfl,hlc⟩,rU⟩:=mz
  refine go ?_
  refine bC zr zr bq ?_
  intro tb
  refine go ?_
  refine ai (ak.trans (bp 217 1 none _) (Gx _)) ?_
  refine bj (fun y:Nat × List Tk × Value=>y.1≤ls.length∧kq y.2.1=(ls.take y.1).foldl fI []∧y.2.1.length≤y.1) (fun y=>ls.length-y.1)
    (fun y=>[(0,ptr bd),(1,ptr bs),(6,ptr jb),(9,ptr tb),(37,.slice la ls.length lc),(38,.int .i64 (ls.length:Int)),(39,.int .i64 (y.1:Int))])
    (fun y=>Z::ag tb (cl [ptr bs,ptr jb,y.2.2,.bool false] 216)::aH 217 1 y.2.2 y.2.1.length (y.2.1.map gn)::cD y.2.1::aG bd A1::Md jb bd kZ j1::ag bs (cl (dR bd q mb brk) 209)::au dV mb (eB cy)::X::F) (0,[],.slice none 0 0) ⟨Nat.zero_le _,rfl,Nat.le_refl _⟩ rfl bO ah ?_
  rintro⟨i,ts,tv⟩⟨hi,xV,aeK⟩ ih
  simp only at hi xV aeK
  dsimp only
  refine go ?_
  refine aD zr zr ?_ ?_
  · intro cB
    have dP:i<ls.length:=by omega
    obtain⟨x,hx⟩:∃x,ls[i]?=some x:=⟨ls[i],by simp⟩
    obtain⟨cv,n5,tM⟩:=rU i x hx
    have l6:ls.take (i+1)=ls.take i++[x]:=by rw[List.take_add_one,hx];rfl
    have mL:∀y∈ts,mG y.c:=fun y hy=>((uT (ls.take i)).1 y.c (by rw[← xV];exact List.mem_map.2 ⟨y,hy,rfl⟩)).1
    have acX:=KU Z tb bs jb tv false ts cv x tM (by have:=Ps x (List.mem_of_getElem? hx);omega) aj (fun y hy=>Nat.le_trans (mL y hy).1 aj) (fun y hy=>(mL y hy).2.1)
    obtain⟨bb,oo,cc,he⟩:=dt.some (by intro h;rw[h]at n5;cases n5)
    obtain⟨rfl,rfl⟩:=he
    refine go ?_
    refine bD i zr zr zr zr zr zr zr zr dP ?_
    refine aS ?_
    refine aP 0 i zr zr zr dt rfl n5 zr zr (go ?_)
    refine az acX ?_
    rintro _ _⟨rfl,KO,HV,afr,rfl⟩
    refine go ?_
    have afq:kq KO=(ls.take (i+1)).foldl fI []:=by rw[afr,xV,l6,List.foldl_append];rfl
    have qZ:KO.length≤i+1:=by
      grind [uT,Ht]
    refine aK ih (i+1,KO,HV) rfl ⟨by simp only;omega,afq,qZ⟩ aj bO ah
  intro eN
  have tK:i=ls.length:=by omega
  subst tK
  rw[List.take_length]at xV
  have htr:∀y∈ts,Nq y.c:=fun y hy=>(uT ls).1 y.c (by rw[← xV];exact List.mem_map.2 ⟨y,hy,rfl⟩)
  have aeL:ts.length≤100:=by rw[← Ht,xV];exact xQ
  refine ai (ak.pick [2] rfl) ?_
  refine cU 0 rfl ?_
  rintro ta tc rfl
  refine dz 0 rfl ?_
  intro hvt
  refine go ?_
  have aft:∀H,ak (H) (aH 217 1 (.slice none 0 0) 0 []::cD []::aH 37 1 (.slice none 0 0) 0 []::Sep []::H):=fun H=>ak.trans (ak.bT [] H) (ak.trans (bp 37 1 none _) (ak.trans (Gx _) (bp 217 1 none _)))
  refine ai (ak.pick [6,7,4,5,3,0,2,8] rfl) ?_
  refine ai (w6 bs bd jb q mb (⟨A1,cy,brk⟩,j1) _) ?_
  refine ai (aft _) ?_
  refine bj (fun z:Nat × nV × List Tk × Value × List (List UInt8) × Rws × Option Addr × Nat=>z.1≤ts.length∧(∀e t cs rs,rE q (kq (ts.drop z.1)) z.2.1 (kq z.2.2.1) z.2.2.2.2.1 e t cs rs→rE q (kq ts) ⟨A1,cy,brk⟩ [] [] e t cs rs)∧(tW z.2.1.cy∧z.2.1.cy.length≤cy.length+z.1)∧(z.2.1.A.aI.length≤A1.aI.length+2*z.1∧z.2.1.A.writes.length≤A1.writes.length+2*z.1)∧z.2.2.1.length≤z.1∧AR z.2.2.2.2.2.1 z.2.2.2.2.1∧(∀x∈z.2.2.2.2.1,x.length≤760)∧z.2.2.2.2.1.length≤1025*z.1) (fun z=>ts.length-z.1)
    (fun z=>[(0,ptr bd),(1,ptr bs),(6,ptr jb),(9,ptr tb),(13,.slice z.2.2.2.2.2.2.1 z.2.2.2.2.2.1.cs.length z.2.2.2.2.2.2.2),(54,.slice ta ts.length tc),(55,.int .i64 (ts.length:Int)),(56,.int .i64 (z.1:Int))])
    (fun z=>aH 217 1 z.2.2.2.1 z.2.2.1.length (z.2.2.1.map gn)::cD z.2.2.1::aH 37 1 (.slice z.2.2.2.2.2.2.1 z.2.2.2.2.2.1.cs.length z.2.2.2.2.2.2.2) z.2.2.2.2.2.1.cs.length z.2.2.2.2.2.1.cs::z.2.2.2.2.2.1.Z::l8 bs bd jb q mb [] (z.2.1,j1)::cD (ts.drop z.1)::aH 217 1 (.slice ta ts.length tc) ts.length (ts.map gn)::ag tb (cl [ptr bs,ptr jb,z.2.2.2.1,.bool false] 216)::X::F) (0,⟨A1,cy,brk⟩,[],.slice none 0 0,[],⟨[],Sep []⟩,none,0) ⟨Nat.zero_le _,fun _ _ _ _ h=>h,⟨hbo,by simp⟩,⟨by simp,by simp⟩,Nat.le_refl _,⟨rfl,fun i x h=>by cases h⟩,fun x h=>(by cases h),by simp⟩ rfl bO ah ?_
  rintro⟨i,s,us,uv,rs,M,oa,oc⟩⟨hi,hOL,⟨hbg,afw⟩,⟨eR,aeO⟩,aeH,hM,G5,aeQ⟩ ih
  simp only at hi hOL hbg afw eR aeO aeH hM G5 aeQ
  have hMl:=hM.1
  refine go ?_
  refine aD zr zr ?_ ?_
  case' refine_2 =>
    intro eN
    have tK:i=ts.length:=by omega
    subst tK
    have jW:=hOL 0 s (kq us) rs (by rw[List.drop_length];exact⟨rfl,rfl,rfl,rfl⟩)
    refine ai (ak.pick [2,3,4,0,1,7,8] rfl) ?_
    refine oY 0 rfl ?_
    intro fF
    refine dz 0 rfl ?_
    intro Mj
    have mz:qx (Sep [aH 37 1 (.slice oa M.cs.length oc) M.cs.length M.cs,M.Z]) (.slice oa M.cs.length oc) rs:=by
      rw[hMl]at Mj fF ⊢
      exact qx.ofP Mj fF hMl hM.2
    have hfb:=wj rs (1025*100) G5 aj
    have hcm:=DL jb bd kZ (by decide) s.A j1 _ _ rs mz aj aj aj aj
    refine ai (ak.bT [aH 37 1 (.slice oa M.cs.length oc) M.cs.length M.cs,M.Z] _) ?_
    refine ai (ak.pick [1] rfl) ?_
    refine ai (F0 bs bd jb q mb (s,j1) _) (go ?_)
    refine az hcm ?_
    rintro _ _⟨e3,A3,jn,rfl,rfl,hCR⟩
    have adO:AV q ⟨A,cy,brk⟩ e3 ⟨A3,s.cy,s.brk⟩ jn (kq us):=⟨0,A1,j1,hO,by
      rw[if_neg aj]
      refine⟨0,s,rs,by rw[← hls];rw[xV]at jW;exact jW,?_⟩
      rw[if_neg aj]
      exact⟨A3,hCR,rfl⟩⟩
    by_cases he3:e3=0
    · subst he3
      refine go ?_
      refine ai (ak.pick [3,4,0,1,7,5,6,8] rfl) ?_
      refine ai (w6 bs bd jb q mb (⟨A3,s.cy,s.brk⟩,jn) _) ?_
      refine ad hE Tryz.func68 zr zr ⟨0,⟨A3,s.cy,s.brk⟩,jn,kq us,adO,.inr ⟨rfl,tb,jb,uv,us,rfl,rfl,rfl⟩⟩
    · refine go ?_
      refine aD zr zr ?_ ?_
      case' refine_2=>(intro h;exfalso;omega)
      intro _
      refine go ?_
      refine ad hE Tryz.func68 zr zr ⟨e3,⟨A3,s.cy,s.brk⟩,jn,kq us,adO,.inl ⟨he3,rfl,rfl⟩⟩
  intro cB
  have dP:i<ts.length:=by omega
  obtain⟨y,hy⟩:∃y,ts[i]?=some y:=⟨ts[i],by simp⟩
  have hyr:=htr y (List.mem_of_getElem? hy)
  have Kq:=lS (x:=y.x) hyr.2
  have jT:ts.drop i=y::ts.drop (i+1):=by
    obtain⟨h1,h2⟩:=List.getElem?_eq_some_iff.1 hy
    rw[List.drop_eq_getElem_cons h1,h2]
  have aaD:kq (ts.drop i)=y.c::kq (ts.drop (i+1)):=by rw[jT];rfl
  rw[aaD]at hOL
  have Pe:=zK [] (ts.drop (i+1)) y
  rw[← jT]at Pe
  have afv:=N6 bs bd q hq mb s y.x hbg aj aj
  obtain⟨bb9,oo9,cc9,he9⟩:=hvt.some (Oq dP)
  obtain⟨rfl,rfl⟩:=he9
  refine ai (ak.pick [5,6,4] rfl) ?_
  refine ai (Pe _) ?_
  refine cG (jz y) ?_
  rintro⟨wv,cs0,N⟩ hz
  have mA:∀H,ak (ag y.yb (cl (uu y) 221)::ag y.sb (cl [.int .i64 (y.n:Int),wv] 460)::aH 38 1 wv y.ws.length (qV y.ws)::au (Value.int .i64) y.mb cs0::a6 35 N::H) (pL y::H):=fun H=>ak.trans (H2:=Bw y (wv,cs0,N)++H) ah (mP hz _)
  refine ai (ak.pick [7,0,1,2,3,4,6] rfl) ?_
  refine ai (F0 bs bd jb q mb (s,j1) _) ?_
  refine ai (ak.pick [9,4,5,6,7,8] rfl) (go ?_)
  refine bD i zr zr zr zr zr zr zr zr dP ?_
  refine aS ?_
  refine aP 0 i zr zr zr hvt rfl (qD hy) zr zr (go ?_)
  refine cC (cs:=dN y.x) 1 zr zr zr zr zr zr (go ?_)
  refine az afv ?_
  rintro _ _⟨e1,s1,rfl,rfl,hBR⟩
  refine rW ?_
  refine gG rfl ?_
  have Pz:=hbg.begin aj hyr.2 hBR
  have hgr:=DQ hBR
  refine ai (ak.trans (H2:=ag y.yb (cl (uu y) 221)::ag y.sb (cl [.int .i64 (y.n:Int),wv] 460)::aH 38 1 wv y.ws.length (qV y.ws)::au (Value.int .i64) y.mb cs0::a6 35 N::aH 217 1 (.slice (some ⟨bb9,oo9,none⟩) ts.length tc) ts.length (ts.map gn)::cD (ts.drop (i+1))::(p5 bs bd q mb s1++(Md jb bd kZ j1::aH 217 1 uv us.length (us.map gn)::cD us::aH 37 1 (.slice oa M.cs.length oc) M.cs.length M.cs::M.Z::ag tb (cl [ptr bs,ptr jb,uv,.bool false] 216)::X::F))) ah (mA _)) ?_
  by_cases G4:e1=5∨e1=11
  · have yX:∀e t cs GB,rE q (kq (ts.drop (i+1))) s1 (kq us) rs e t cs GB→rE q (kq ts) ⟨A1,cy,brk⟩ [] [] e t cs GB:=fun e t cs GB h=>hOL e t cs GB ⟨e1,s1,hBR,by rw[if_pos G4];exact h⟩
    refine ai (ak.trans ah (w6 bs bd jb q mb (s1,j1) (cD (ts.drop (i+1))::aH 217 1 (.slice (some ⟨bb9,oo9,none⟩) ts.length tc) ts.length (ts.map gn)::aH 217 1 uv us.length (us.map gn)::cD us::aH 37 1 (.slice oa M.cs.length oc) M.cs.length M.cs::M.Z::ag tb (cl [ptr bs,ptr jb,uv,.bool false] 216)::X::F))) ?_
    rcases G4 with rfl|rfl
    all_goals(
      refine go ?_
      refine aK ih (i+1,s1,us,uv,rs,M,oa,oc) rfl ⟨by simp only;omega,yX,⟨Pz.1,by simp only;have:=Pz.2;omega⟩,⟨by simp only;have:=hgr.1;omega,by simp only;have:=hgr.2;omega⟩,by simp only;omega,hM,G5,by simp only;omega⟩ (by simp only;omega) bO ah)
  by_cases xU:e1=0
  case neg =>
    have afT:=hOL e1 s1 [] [] ⟨e1,s1,hBR,by rw[if_neg G4,if_pos xU];exact⟨rfl,rfl⟩⟩
    have adN:AV q ⟨A,cy,brk⟩ e1 s1 j1 []:=by
      refine⟨0,A1,j1,hO,?_⟩
      grind
    refine go ?_
    refine aC 68 ((.bool false)) rfl ((congrArg Value.bool (decide_eq_false aj))) (go ?_)
    refine aQ 71 ((.bool false)) rfl ((congrArg Value.bool (decide_eq_false aj))) (go ?_)
    refine aD zr zr ?_ ?_
    case' refine_2=>(intro h;exfalso;omega)
    intro _
    refine go ?_
    refine ad hE Tryz.func68 zr zr ⟨e1,s1,j1,[],adN,.inl ⟨xU,rfl,rfl⟩⟩
  subst xU
  refine ad8 5 rfl ?_
  intro aeR
  have hRd:∀nm at_ n,(s1.A.read nm at_ n).1.length≤1048576:=fun nm at_ n=>BW s1.A aeR nm at_ n
  obtain⟨yZ,qZ⟩:=I4 s1 y.c hyr
  have yX:∀e t cs GB,rE q (kq (ts.drop (i+1))) s1 (kq us++[(jS s1 y.c).1]) (rs++(jS s1 y.c).2) e t cs GB→rE q (kq ts) ⟨A1,cy,brk⟩ [] [] e t cs GB:=fun e t cs GB h=>hOL e t cs GB ⟨0,s1,hBR,by rw[if_neg G4,if_neg aj];exact h⟩
  have adA:=fun tv=>Ms X hK tb bs jb bd tv false q mb (s1,j1) hRd y hyr.1 aj aj
  refine ai (ak.trans ah (w6 bs bd jb q mb (s1,j1) (aH 217 1 uv us.length (us.map gn)::ag tb (cl [ptr bs,ptr jb,uv,.bool false] 216)::pL y::X::aH 37 1 (.slice oa M.cs.length oc) M.cs.length M.cs::M.Z::aH 217 1 (.slice (some ⟨bb9,oo9,none⟩) ts.length tc) ts.length (ts.map gn)::cD (ts.drop (i+1))::cD us::F))) ?_
  refine cU 1 rfl ?_
  rintro ua uc rfl
  refine go ?_
  refine aq (cs:=[ptr y.yb]) zr zr zr zr zr zr zr zr zr bq ?_
  intro r1
  refine go ?_
  refine aU (mm:=1) (news:=[ptr y.yb]) 2 0 rfl rfl rfl rfl rfl rfl rfl rfl rfl rfl rfl rfl (Vw.ag rfl) rfl (by intro v hv;simp at hv;rw[hv];rfl) aj (by show(_+_)*8≤_;omega) (fun _=>rfl) bq ?_
  intro v1
  refine aM 2 rfl ?_
  rintro va vc rfl
  refine go ?_
  refine az (adA (.slice va (us.length+1) vc)) ?_
  rintro r9 _⟨y',Z2,aew,acP,adm,rfl⟩
  obtain⟨Kz,qX,CN,⟨ra,rc,rfl,Og⟩,aaw⟩:=adm
  simp only at acP qX CN aaw Og
  have CU:=hM.afH CN aaw
  have gA:∀v∈Kz,v.oneCell'=true:=fun v hv=>by
    obtain⟨j,hj,rfl⟩:=List.getElem_of_mem hv
    obtain⟨x,hx⟩:∃x,(jS s1 y.c).2[j]?=some x:=⟨(jS s1 y.c).2[j]' aj,by simp⟩
    obtain⟨cv,h1,h2⟩:=aaw j x hx
    obtain⟨_,_,rfl,_⟩:=h2.2
    rw[List.getElem?_eq_getElem hj]at h1
    injection h1 with h1
    rw[h1];rfl
  refine aR (H':=aH 37 1 (.slice oa M.cs.length oc) M.cs.length M.cs::Z2::ag tb (cl [ptr bs,ptr jb,.slice va (us.length+1) vc,.bool false] 216)::pL y'::l8 bs bd jb q mb [] (s1,j1)::X::M.Z::aH 217 1 (.slice (some ⟨bb9,oo9,none⟩) ts.length tc) ts.length (ts.map gn)::cD (ts.drop (i+1))::cD us::aH 217 1 (.slice va (us.length+1) vc) (us.length+1) (us.map gn++[ptr y.yb])::F) ah (go ?_)
  refine aU (mm:=(jS s1 y.c).2.length) (news:=Kz) 0 1 zr zr zr zr zr zr zr zr zr zr zr zr qX (by show _=_*1;omega) gA aj (by show(_+_)*24≤_;omega) (fun _=>rfl) bq ?_
  intro v2
  refine aM 0 rfl ?_
  rintro wa wc rfl
  refine go ?_
  have hmp:us.map gn++[ptr y.yb]=(us++[y']).map gn:=by rw[← aew];simp[gn]
  have uh:us.length+1=(us++[y']).length:=by simp
  have adL:(M.cs++Kz).length=M.cs.length+(jS s1 y.c).2.length:=by rw[List.length_append,CN]
  have Aq:=uV us [] y'
  rw[List.append_nil]at Aq
  rw[hmp,uh]
  refine ai (H':=pL y'::cD us::Z2::M.Z::aH 37 1 (.slice wa (M.cs++Kz).length wc) (M.cs++Kz).length (M.cs++Kz)::l8 bs bd jb q mb [] (s1,j1)::X::aH 217 1 (.slice (some ⟨bb9,oo9,none⟩) ts.length tc) ts.length (ts.map gn)::cD (ts.drop (i+1))::aH 217 1 (.slice va (us++[y']).length vc) (us++[y']).length ((us++[y']).map gn)::ag tb (cl [ptr bs,ptr jb,.slice va (us++[y']).length vc,.bool false] 216)::F) (by rw[adL];exact ah) ?_
  refine ai (Aq _) ?_
  refine ai (ak.pick [1,2] rfl) ?_
  refine ai (ak.bT [Z2,M.Z] _) ?_
  have hcu:kq (us++[y'])=kq us++[(jS s1 y.c).1]:=by rw[Hu,acP]
  rw[← hcu]at yX
  refine aQ 13 ((.slice wa (M.cs++Kz).length wc)) rfl ((by rw[adL])) ?_
  refine aK ih (i+1,s1,us++[y'],.slice va (us++[y']).length vc,rs++(jS s1 y.c).2,⟨M.cs++Kz,Sep [Z2,M.Z]⟩,wa,wc) rfl ⟨by simp only;omega,yX,⟨Pz.1,by simp only;have:=Pz.2;omega⟩,⟨by simp only;have:=hgr.1;omega,by simp only;have:=hgr.2;omega⟩,by simp only[List.length_append,List.length_singleton];omega,CU,(fun x hx=>by
    rcases List.mem_append.1 hx with h|h
    · exact G5 x h
    · exact yZ x h),by simp only[List.length_append];omega⟩ (by simp only;omega) bO ah
end Go.Proofs.YtjpboghdolfekaaGreatDoor
namespace Go.Proofs.YtjpboghdolfekaaGreatDoor
open Go Go.SL
def Q7(q:Int)(A:Ab)(e:Nat)(t:SJ)(cs:List TC):Prop :=
 ∃e1 B,pU A e1 B∧if e1≠0 then e=e1 else ∃s jn,AV q ⟨B,[],false⟩ e s jn cs∧t=(s,jn)
attribute [local irreducible] J K aw Ends ag aH au bE aW aJ a6 aZ bI aG l8 tC
end Go.Proofs.YtjpboghdolfekaaGreatDoor
namespace Go.Proofs.YtjpboghdolfekaaGreatDoor
open Go Go.SL
variable{A:Ab}{nm:ByteArray}{n:Int}{e:Nat}
theorem Fv(h:HA A)(hv:vw A nm=none):kM A nm=[]:=by
 have CE:A.look nm=none:=by
  unfold vw at hv
  cases hx:A.look nm with
  | none=>rfl
  | some f=>rw[hx]at hv;cases hv
 have xD:(A.read nm 0 (A.size nm).1).1=[]:=by
  unfold Ab.read
  grind
 unfold kM
 rw[xD]
 rfl
def l9:(db []).length=32:=by unfold db;simp[y6]
structure QD(t:SJ):Prop where
 ha:HA t.1.A
 cy:t.1.cy=[]
 brk:t.1.brk=false
 v:vw t.1.A=mj (fun _=>none) kZ (some (db []))
 st:t.1.A.aI.length≤100
 wr:t.1.A.writes.length≤100
 jn:t.2=⟨1,0,0,false⟩
structure QS(A:Ab):Prop where
 ha:HA A
 st:A.aI=[A.names]
 wr:A.writes=[]
 fl:∀x∈A.fs,x.2.2=x.2.1
 room:A.room=16777216
 kd:∀n,n≠kZ→vw A n=none
 pn:∀c,vw A kZ=some c→c=db []
 nms:A.names.length≤1
def QS.new:QS (Ab.new 16777216):=⟨HA.new _,rfl,rfl,(fun x h=>by cases h),rfl,fun n _=>rfl,(fun c h=>by cases h),Nat.zero_le _⟩
def QS.rp(h:QS A)(p:List UInt8)(last:Int)(stay:List UInt8)(dS cut:Int):({ A with cu:=p }:Ab).rp last stay dS cut=A:=by
 obtain⟨room,fs,names,aI,writes,cu,off⟩:=A
 have h1:=h.st
 have h2:=h.wr
 have h3:=h.ha.cu
 have h4:=h.ha.on
 have h5:=h.fl
 simp only at h1 h2 h3 h4 h5
 subst h1 h2 h3 h4
 unfold Ab.rp
 have e0:(max 0 (min last (([names]:List Nms).length-1:Nat))).toNat=0:=by simp only[List.length_singleton];omega
 simp only[Ab.kG]
 have e1:([names]:List Nms).getD (max 0 (min last (((([names]:List Nms).length:Nat):Int)-1))).toNat []=names:=by
  rw[show(max 0 (min last (((([names]:List Nms).length:Nat):Int)-1))).toNat=0 by simp only[List.length_singleton];omega]
  rfl
 rw[e1]
 have e2:∀(P:Nat × List UInt8 × List UInt8→Prop) [DecidablePred P],(fs.map fun x=>if P x then(x.1,x.2.2,x.2.2)else x)=fs:=fun P _=>by
  conv=>rhs;rw[← List.map_id fs]
  refine List.map_congr_left fun x hx=>?_
  split
  ·have:=h5 x hx
   obtain⟨a,b,c⟩:=x
   simp only at this
   rw[id,this]
  ·rfl
 rw[e2]
def Ef(hv:vw A nm=none):(A.size nm).2=4:=by
 have CE:A.look nm=none:=by
  unfold vw at hv
  cases hx:A.look nm with
  | none=>rfl
  | some f=>rw[hx]at hv;cases hv
 unfold Ab.size
 rw[CE]
def Hk{l:List (Nat × List UInt8 × List UInt8)}(hn:(l.map (·.1)).Nodup){x:Nat × List UInt8 × List UInt8}(hx:x∈l):((l.find? fun y=>decide (y.1=x.1)).map (·.2)).getD ([],[])=x.2:=by
 induction l with
 | nil=>cases hx
 | cons y l ih =>
  rw[List.map_cons,List.nodup_cons]at hn
  rcases List.mem_cons.1 hx with rfl|hx
  ·simp
  ·have:y.1≠x.1:=fun e=>hn.1 (e ▸ List.mem_map.2 ⟨x,hx,rfl⟩)
   rw[List.find?_cons_of_neg (by simpa using this)]
   exact ih hn.2 hx
def QS.flz(h:QS A):yf A (fun _=>False):=⟨(fun w hw=>by rw[h.wr]at hw;cases hw),fun f hf _=>by
  obtain⟨x,hx,rfl⟩:=List.mem_map.1 hf
  have:=Hk h.ha.ids hx
  unfold Ab.file
  rw[this]
  exact h.fl x hx⟩
theorem ZQ{ls:List (List UInt8)}{s c:Int}{y:PS}(h:yf A (fun _=>False))(Mk:vw A (bW nm)=none)(hR:AU nm ls (A,n,s,c) 0 y):yf y.1 (fun _=>False)∧y.1.aI=[y.1.names]:=by
 unfold AU gw at hR
 simp only[Ef Mk]at hR
 rw[if_neg aj,List.nil_append]at hR
 obtain⟨e1,x1,⟨⟨f,h1f,h1a,h1b⟩,h1c⟩,⟨hx,hy,_⟩|⟨rfl,e2,x2,⟨⟨h2a,h2b⟩,h2c⟩,c2⟩⟩:=hR
 ·grind
 obtain⟨_,_,f1⟩:=h.create (n:=bW nm) (B:=x1.1) ⟨f,h1f,Prod.ext h1a h1b⟩
 rcases c2 with⟨hx,hy,_⟩|⟨rfl,e3,x3,⟨⟨h3a,Q1⟩,h3c⟩,c3⟩
 ·grind
 rcases c3 with⟨hx,hy,_⟩|⟨rfl,e4,x4,⟨⟨h4a,h4b⟩,h4c⟩,c4⟩
 ·grind
 have f3:=f1.put (n:=bW nm) (at_:=0) (b:=db ls) (B:=x2.1) (C:=x3.1) (Prod.ext h2a h2b) (Prod.ext h3a Q1)
 rcases c4 with⟨hx,hy,_⟩|⟨rfl,e5,x5,⟨⟨h5a,h5b⟩,h5c⟩,c5⟩
 ·grind
 have f4:=f3.rename (o:=bW nm) (n:=nm) (B:=x4.1) (Prod.ext h4a h4b)
 rcases c5 with⟨hx,hy,_⟩|⟨rfl,e6,x6,⟨h6a,h6b⟩,c6⟩
 ·grind
 rcases c6 with⟨hx,hy,_⟩|⟨_,_,hy⟩
 ·grind
 have hy1:y.1=x5.1:=by rw[hy,h6b]
 rw[hy1]
 rcases tX (A:=x4.1) (B:=x5.1) (Prod.ext h5a h5b)with⟨gf,_⟩|⟨_,hn,dE,qw,Bj⟩
 ·grind
 exact⟨f4.acN qw Bj,by rw[dE,hn]⟩
def QS.fresh(h:QS A):vw A (bW kZ)=none:=h.kd _ GK
def QS.used(h:QS A):A.used≤32:=by
 unfold Ab.used
 have hn:=h.nms
 cases hl:A.names with
 | nil=>simp
 | cons x l =>
  have I7:l=[]:=by
   cases l with
   | nil=>rfl
   | cons y l=>rw[hl]at hn;simp at hn
  subst I7
  have hv:vw A x.1=some (A.now x.2):=by
   unfold vw Ab.look Ab.cK
   rw[hl]
   simp
  have hx:x.1=kZ:=Classical.byContradiction fun gf=>by rw[h.kd _ gf]at hv;cases hv
  rw[hx]at hv
  have h3:=h.pn _ hv
  simp only[List.map_cons,List.map_nil,List.sum_cons,List.sum_nil]
  rw[h3,l9]
  omega
def QS.file(h:QS A):kM A kZ=[]:=by
 cases hv:vw A kZ with
 | none=>exact Fv h.ha hv
 | some c =>
  obtain rfl:=h.pn c hv
  have CE:∃f,A.look kZ=some f∧A.now f=db []:=by
   unfold vw at hv
   cases hx:A.look kZ with
   | none=>rw[hx]at hv;cases hv
   | some f=>rw[hx]at hv;exact⟨f,rfl,by simpa using hv⟩
  obtain⟨f,h1,h2⟩:=CE
  have hs:(A.size kZ).1=32:=by
   unfold Ab.size
   rw[h1]
   simp only
   rw[h2,l9]
  have hr:(A.read kZ 0 32).1=db []:=by
   unfold Ab.read
   rw[if_neg (by rw[h.ha.on];simp),h1]
   simp only
   rw[h2,if_neg (by rw[l9];omega)]
   rfl
  unfold kM
  rw[hs]
  show bR (eS (A.read kZ 0 32).1)=[]
  rw[hr]
  rfl
theorem QS.open{B:Ab}(h:QS A)(hO:pU A e B):e=0∧B=A:=by
 have tJ:∀(k:List UInt8) (nm:ByteArray) (d:Dg),nm∈eQ A→gk k nm=some d→False:=fun k nm d nR hd=>by
  obtain rfl:=y7.1 hd
  obtain⟨c,hc⟩:=Option.isSome_iff_exists.1 ((vD h.ha _).1 nR)
  rw[h.kd _ (lE k d)]at hc
  cases hc
 obtain⟨e1,A1,⟨e2,A2,h2,c2⟩,hc⟩:=hO
 obtain⟨rfl,rfl⟩:=p6 _ (fun nm nR d hd=>(tJ kB nm d nR hd).elim) h2
 rcases c2 with⟨hx,_⟩|⟨_,e3,A3,h3,c3⟩
 ·grind
 obtain⟨rfl,rfl⟩:=p6 _ (fun nm nR d hd=>(tJ kN nm d nR hd).elim) h3
 rcases c3 with⟨hx,_⟩|⟨_,e4,A4,h4,c4⟩
 ·grind
 obtain⟨rfl,rfl⟩:=p6 _ (fun nm nR d hd=>(tJ kI nm d nR hd).elim) h4
 rcases c4 with⟨hx,_⟩|⟨_,rfl,rfl⟩
 ·grind
 grind
def QS.put{s c:Int}{y:PS}(h:QS A)(hR:AU kZ [] (A,n,s,c) e y):e=0∧QS y.1∧vw y.1=mj (fun _=>none) kZ (some (db []))∧y.2=(1,0,0):=by
 have hu:=h.used
 have hrm:=h.room
 have hn:=h.nms
 obtain⟨rfl,r1,r2,r3,r4⟩:=Ir h.ha vR tH GK h.fresh aj (by rw[l9];omega) (by rw[l9];omega) hR
 obtain⟨z1,z2⟩:=ZQ h.flz h.fresh hR
 have hv:vw y.1=mj (fun _=>none) kZ (some (db [])):=by
  rw[r2]
  funext m
  by_cases hm:m=kZ
  ·rw[hm,lp,lp]
  ·rw[mS _ _ hm,mS _ _ hm,h.kd m hm]
 refine⟨rfl,⟨r1,z2,?_,?_,r3.trans hrm,fun m hm=>by rw[hv,mS _ _ hm],fun c hc=>by rw[hv,lp]at hc;exact(Option.some.inj hc).symm,?_⟩,hv,r4⟩
 ·cases hw:y.1.writes with
  | nil=>rfl
  | cons z l=>exact(z1.wr z (by rw[hw];simp)).elim
 ·intro x hx
  have h1:=z1.cl x.1 (List.mem_map.2 ⟨x,hx,rfl⟩) (fun h=>h)
  unfold Ab.file at h1
  rw[Hk r1.ids hx]at h1
  exact h1
 ·have h1:=(HA.new 16777216).Br r1 (k:=kZ) (c:=db []) (by rfl) (by rw[hv];rfl)
  have h2:=h1.2
  have h3:(Ab.new 16777216).names.length=0:=rfl
  omega
def QS.again{q:Int}{t:SJ}{cs:List TC}(h:QS A)(hR:Q7 q A e t cs):e=0∧cs=[]∧QD t∧QS t.1.A:=by
 obtain⟨e1,B,hO,hR⟩:=hR
 obtain⟨rfl,rfl⟩:=h.open hO
 rw[if_neg aj]at hR
 obtain⟨s,jn,⟨e2,A1,j1,hO1,hR⟩,rfl⟩:=hR
 simp only at hO1 hR
 rw[h.file]at hR
 unfold pV at hO1
 rw[if_neg (by rw[vR,tH];simp),if_neg (by rw[h.ha.on];simp),h.file]at hO1
 obtain⟨y1,hP1,rfl,rfl⟩:=hO1
 obtain⟨rfl,d1,v1,j1e⟩:=h.put hP1
 rw[if_neg aj]at hR
 obtain⟨e3,s2,rs,⟨rfl,rfl,rfl,rfl⟩,hR⟩:=hR
 rw[if_neg aj]at hR
 obtain⟨A3,hC,rfl⟩:=hR
 simp only at hC
 unfold rP at hC
 simp only[j1e]at hC
 rw[if_neg (by simp),if_neg (by simp),if_neg (by simp)]at hC
 obtain⟨y,hP,rfl,rfl⟩:=hC
 obtain⟨rfl,d2,v2,j2e⟩:=d1.put hP
 refine⟨rfl,rfl,⟨d2.ha,rfl,rfl,v2,by show y.1.aI.length≤_;rw[d2.st];simp,by show y.1.writes.length≤_;rw[d2.wr];simp,?_⟩,d2⟩
 show(⟨y.2.1,y.2.2.1,y.2.2.2,_⟩:JN)=_
 rw[j2e]
 rfl
structure Mem where
 id:Int
 inc:Int
 st:Int
 since:Int
deriving DecidableEq
instance:Inhabited Mem:=⟨⟨0,0,0,0⟩⟩
def pD(x:Mem):List Value:=[.int .i64 x.id,.int .i64 x.inc,.int .i64 x.st,.int .i64 x.since]
def uC(x:Mem):(pD x).length=4:=rfl
structure ND where
 kind:Int
 hash:Dg
 piece:Int
 ids:List Int
 bytes:List UInt8
 proof:List Dg
 af4:List Mem
 seed:Bool
def ND.zero:ND:=⟨0,Dg.zero,0,[],[],[],[],false⟩
def pE(n lo hi:Int):Bool:=decide (lo≤n) && decide (n≤hi)
def GV{lo hi:Int}:pE n lo hi=true↔lo≤n∧n≤hi:=by simp[pE]
end Go.Proofs.YtjpboghdolfekaaGreatDoor
namespace Go.SL
open Go Go.RowKit Go.ChangeShapes Go.WideShapes
def iV(l:List Int):List Value:=l.map (Value.int .i64)
def jK{l:List Int}{i:Nat}{x:Int}(h:l[i]?=some x):(iV l)[i]?=some (.int .i64 x):=by simp[iV,h]
def Mi(l:List Int):(iV l).length=l.length:=by simp[iV]
def ine{l:List Int}{i:Nat}(h:i<l.length):iV l≠[]:=fun e=>by have:=congrArg List.length e;simp[iV]at this;rw[this]at h;simp at h
abbrev i64(x:Int):Prop := -9223372036854775808≤x∧x≤9223372036854775807
end Go.SL
namespace Go.Proofs.YtjpboghdolfekaaGreatDoor
open Go Go.SL
def pI(x y:Int):Int:=if x<y then -1 else if y<x then 1 else 0
def LJ:List Int→Int
 | []=>0
 | x::l=>if x=0 then LJ l else x
def sw:∀(l:List Int) (i:Nat),(∀y∈l.take i,y=0)→LJ l=LJ (l.drop i)
 | [],i,_=>by simp
 | x::l,0,_=>rfl
 | x::l,i+1,h=>by
  have hx:x=0:=h x (by simp)
  rw[List.drop_succ_cons,← sw l i (fun y hy=>h y (by simp[hy]))]
  simp[LJ,hx]
def sC(l:List Int):∀v∈iV l,v.oneCell'=true:=by
 intro v hv
 obtain⟨x,_,rfl⟩:=List.mem_map.1 hv
 rfl
attribute [local irreducible] J K aw Ends ag aH au bE aW aJ a6 aZ bI
def yT(x:Int):aw Tryz.prog 280 [.int .i64 x] [] (fun r H=>r = .bool false∧H=[]):=by
 refine aw.ao Tryz.func280 Tryz.ntmps280 fun G F R hE=>?_
 refine go ?_
 refine aQ 2 ((.bool false)) rfl ((by simp)) ?_
 refine ad hE Tryz.func280 zr zr ⟨rfl,rfl⟩
def tV(x y:Int):aw Tryz.prog 168 [.int .i64 x,.int .i64 y] [] (fun r H=>r = .int .i64 (pI x y)∧H=[]):=by
 refine aw.ao Tryz.func168 Tryz.ntmps168 fun G F R hE=>?_
 refine go ?_
 refine aF (yT x) ?_
 refine go ?_
 refine aF (yT y) ?_
 refine go ?_
 refine aD zr zr ?_ ?_
 ·intro h
  refine go ?_
  ((refine ad hE Tryz.func168 zr zr ⟨by rw[pI,if_pos h];rfl,rfl⟩))
 intro h
 refine go ?_
 refine aD zr zr ?_ ?_
 ·intro h2
  refine go ?_
  ((refine ad hE Tryz.func168 zr zr ⟨by rw[pI,if_neg h,if_pos h2];rfl,rfl⟩))
 intro h2
 refine go ?_
 ((refine ad hE Tryz.func168 zr zr ⟨by rw[pI,if_neg h,if_neg h2];rfl,rfl⟩))
def aa0(A:HP)(v:Value)(l:List Int)(hv:Vw A v l.length (iV l))(hl:l.length≤1000000000):aw Tryz.prog 167 [v] [A] (fun r H=>r = .int .i64 (LJ l)∧H=[A]):=by
  obtain⟨a,c,rfl⟩:=hv.shape
  refine aw.ao Tryz.func167 Tryz.ntmps167 fun G F R hE=>?_
  refine go ?_
  refine bj (fun i:Nat=>i≤l.length∧∀y∈l.take i,y=0) (fun i=>l.length-i) (fun i=>[(3,.int .i64 0),(6,.slice a l.length c),(7,.int .i64 l.length),(8,.int .i64 i)]) (fun _=>A::F) 0 ⟨Nat.zero_le _,by simp⟩ rfl bO ah ?_
  rintro i⟨hi,hb⟩ ih
  refine go ?_
  refine aD zr zr ?_ ?_
  · intro cB
    have dP:i<l.length:=by omega
    obtain⟨x,hx⟩:∃x,l[i]?=some x:=⟨l[i],by simp[dP]⟩
    obtain⟨b,o,c',he⟩:=hv.some (ine dP)
    simp only[Value.slice.injEq,true_and]at he
    obtain⟨rfl,rfl⟩:=he
    refine go ?_
    refine bD i zr zr zr zr zr zr zr zr dP ?_
    refine aP 0 i zr zr zr hv rfl (show(iV l)[i]?=some (.int .i64 x)from by simp[iV,hx]) zr zr (go ?_)
    refine aD zr zr ?_ ?_
    · intro h
      refine go ?_
      have h1:LJ l=x:=by
        rw[sw l i hb,List.drop_eq_getElem_cons dP]
        have:l[i]=x:=by rw[List.getElem?_eq_getElem dP]at hx;exact Option.some.inj hx
        rw[this]
        simp only[LJ]
        rw[if_neg h]
      ((refine ad hE Tryz.func167 zr zr ⟨by rw[h1];rfl,rfl⟩))
    intro h
    refine go ?_
    refine aK ih (i+1) rfl (⟨aj,fun y hy=>by
      rw[List.take_add_one,hx]at hy
      rcases List.mem_append.1 hy with h'|h'
      · exact hb y h'
      · simp at h';subst h';exact Decidable.not_not.1 h⟩) aj bO ah
  intro eN
  refine go ?_
  have h1:LJ l=0:=by
    rw[sw l i hb,List.drop_of_length_le aj];rfl
  ((refine ad hE Tryz.func167 zr zr ⟨by rw[h1];rfl,rfl⟩))
def GW{α:Type}(p:α→Bool)(l:List α):decide (0≤iR p l)=l.any p:=by
 rw[show decide (0≤iR p l)=decide (¬iR p l<0)from by rw[decide_eq_decide];omega]
 rw[Bool.eq_iff_iff,decide_eq_true_iff,kJ (p:=p) (l:=l),Bool.not_eq_false]
def O3(t:Int)(l:List Int):decide (0≤iR (fun x=>decide (x=t)) l)=decide (t∈l):=by
 rw[GW,Bool.eq_iff_iff,decide_eq_true_iff,List.any_eq_true]
 constructor
 ·rintro⟨x,hx,h⟩;have:=of_decide_eq_true h;subst this;exact hx
 ·intro h;exact⟨t,h,decide_eq_true rfl⟩
def Gd(A:HP)(v:Value)(l:List Int)(t:Int)(hv:Vw A v l.length (iV l))(hlen:l.length≤1000000000) :
  aw Tryz.prog 329 [v,.int .i64 t] [A] (fun r H=>r = .int .i64 (iR (fun x=>decide (x=t)) l)∧H=[A]):=by
 obtain⟨a,c0,rfl⟩:=hv.shape
 refine aw.ao Tryz.func329 Tryz.ntmps329 fun G F R hE=>?_
 refine go ?_
 refine bj (fun i:Nat=>i≤l.length∧∀y∈l.take i,decide (y=t)=false) (fun i=>l.length-i) (fun i=>[(0,.slice a l.length c0),(1,.int .i64 t),(7,.int .i64 l.length),(8,.int .i64 i)]) (fun _=>A::F) 0 ⟨by simp,by simp⟩ rfl bO ah ?_
 rintro i⟨hi,hb⟩ ih
 refine go ?_
 refine aD zr zr ?_ ?_
 ·intro cB
  have dP:i<l.length:=by omega
  obtain⟨x,hx⟩:∃x,l[i]?=some x:=⟨l[i],by simp[dP]⟩
  obtain⟨b,o,c',he⟩:=hv.some (ine dP)
  simp only[Value.slice.injEq,true_and]at he
  obtain⟨rfl,rfl⟩:=he
  refine go ?_
  refine bD i zr zr zr zr zr zr zr zr dP ?_
  refine aP 0 i zr zr zr hv rfl (jK hx) zr zr (go ?_)
  refine aD zr zr ?_ ?_
  ·intro h
   refine go ?_
   ((refine ad hE Tryz.func329 zr zr ⟨by rw[jq hx (decide_eq_true h.symm) hb];rfl,rfl⟩))
  intro h
  refine go ?_
  refine aK ih (i+1) rfl (⟨aj,nE hb hx (decide_eq_false fun e=>h e.symm)⟩) aj bO ah
 intro eN
 refine go ?_
 have:i=l.length:=by omega
 subst this
 ((refine ad hE Tryz.func329 zr zr ⟨by rw[ki (fun x hx=>hb x (by simpa using hx))];rfl,rfl⟩))
def yj(A:HP)(v:Value)(l:List Int)(t:Int)(hv:Vw A v l.length (iV l))(hlen:l.length≤1000000000) :
  aw Tryz.prog 217 [v,.int .i64 t] [A] (fun r H=>r = .bool (decide (t∈l))∧H=[A]):=by
 refine aw.ao Tryz.func217 Tryz.ntmps217 fun G F R hE=>?_
 refine go ?_
 refine aF (Gd A v l t hv hlen) ?_
 refine go ?_
 refine aQ 4 ((.bool (decide (t∈l)))) rfl ((congrArg Value.bool (O3 t l))) ?_
 refine ad hE Tryz.func217 zr zr ⟨rfl,rfl⟩
def Kg(A:HP)(v:Value)(W:List Int)(hv:Vw A v W.length (iV W))(hlen:W.length≤1000000000) :
  aw Tryz.prog 397 [v] [A] (fun r H=>H=[aH 3 1 r W.length (iV W),A]):=by
 obtain⟨a,c0,rfl⟩:=hv.shape
 cases a with
 | none =>
  have hb:W=[]:=by
   obtain⟨a,cap,h1,h2|⟨b,o,h2,_⟩⟩:=hv
   ·have:=congrArg List.length h2
    rw[Mi]at this
    exact List.eq_nil_of_length_eq_zero (by simpa using this)
   ·simp only[Value.slice.injEq]at h1;rw[← h1.1]at h2;cases h2
  subst hb
  refine aw.enter Tryz.func397 ae rfl Tryz.ntmps397 zr zr ?_
  intro G F R hR
  refine go ?_
  have he:c0=c0:=rfl
  refine ai (bp 3 1 none _) ?_
  refine aL hR Tryz.func397 rfl _ zr zr (ak.fin [0,1] 0 zr zr)
 | some a =>
  refine aw.enter Tryz.func397 ae rfl Tryz.ntmps397 zr zr ?_
  intro G F R hR
  refine go ?_
  refine aq (cs:=[]) zr zr zr zr zr zr zr zr zr bq ?_
  intro b0
  refine go ?_
  refine aR (eW 3 1 b0 0 0 [] [] _ rfl (Nat.le_refl _) (by simp)) ?_
  refine aU (mm:=W.length) (news:=iV W) 0 1 zr zr zr zr zr zr zr zr zr zr zr zr hv (by show _=_*1;rw[Mi];omega) (sC W) aj (by show _*8≤_;omega) (fun _=>rfl) bq ?_
  intro v'
  have e1:(0:Nat)+W.length=W.length:=by omega
  rw[e1,List.nil_append]
  refine go ?_
  refine aL hR Tryz.func397 rfl _ zr zr (ak.fin [0,1] 0 zr zr)
def zD(g:FuncId)(cap:List Value)(N:Nat)(Pre Post:List HP)(Q:List Int→Prop):Prop :=
 ∀(l:Nat) (Lp:HP) (Inv:List Int→HP),(∀done x,done.length<N→bI Tryz.prog l [.int .i64 x] [Lp,Inv done] (fun v H=>v = .bool true∧H=[Lp,Inv (done++[x])])) →
  aw Tryz.prog g (.func (.yield l) #[] #[]::cap) (Lp::Inv []::Pre) (fun _ H=>∃xs,Q xs∧H=Lp::Inv xs::Post)
def II(bs:Nat)(ks:List Int):HP:=fun h=>∃v:Value,True∧Sep [ag bs (cl [v] 152),aH 3 1 v ks.length (iV ks)] h
def HK(bs:Nat)(ks:List Int):∀h,II bs ks h→∃v,True∧Sep [ag bs (cl [v] 152),aH 3 1 v ks.length (iV ks)] h:=fun h hs=>hs
def DD(bs:Nat)(ks:List Int)(v:Value)(H:List HP):ak (ag bs (cl [v] 152)::aH 3 1 v ks.length (iV ks)::H) (II bs ks::H) :=
 ak.fold (A:=II bs ks) (B:=[ag bs (cl [v] 152),aH 3 1 v ks.length (iV ks)]) fun h hs=>⟨h,sub.refl h,v,trivial,hs⟩
attribute [local irreducible] II
def xA(g:FuncId)(cap:List Value)(N:Nat)(Pre Post:List HP)(Q:List Int→Prop)(hN:N≤1000000000)(hi:zD g cap N Pre Post Q) :
  aw Tryz.prog 296 [.slice none 0 0,.func (.func g) #[] cap.toArray] Pre (fun r H=>∃xs,Q xs∧H=aH 3 1 r xs.length (iV xs)::Post):=by
 refine aw.ao Tryz.func296 Tryz.ntmps296 fun G F R hE=>?_
 refine aN rfl ?_
 refine bC zr zr bq ?_
 intro bs
 refine go ?_
 refine gG rfl ?_
 refine ai (ak.trans (ak.cons _ (bp 3 1 none _)) (DD bs [] (.slice none 0 0) _)) ?_
 refine rF (Fr:=F) (Pre:=fun _ _=>II bs []::Pre) (Post:=?Po) rfl hE.1.1 rfl ?c (fun l r=>ak.refl _) ?fR
 case c =>
  intro l r
  refine hi l _ (fun dn=>II bs dn) ?_
  intro dn k cB
  refine bI.Af zr zr ?_
  intro G2 F2 R2 hY
  refine go ?_
  refine er rfl hY ?_
  refine ai (ak.pick [1] rfl) ?_
  refine cG (HK bs dn) ?_
  rintro v -
  refine cU 1 rfl ?_
  rintro va vc rfl
  refine go ?_
  refine aq (cs:=iV [k]) zr zr zr zr zr zr zr zr zr bq ?_
  intro row
  refine go ?_
  refine aU (mm:=1) (news:=iV [k]) 2 0 zr zr zr zr zr zr zr zr zr zr zr zr (Vw.ag rfl) rfl (sC _) aj (by show(_+1)*8≤_;omega) (fun _=>rfl) bq ?_
  intro v1
  rw[show iV dn++iV [k]=iV (dn++[k])from by simp[iV],show dn.length+1=(dn++[k]).length from by simp]
  refine aM 2 rfl ?_
  rintro Km Kl rfl
  refine go ?_
  refine ai (ak.trans ah (DD bs (dn++[k]) (.slice Km (dn++[k]).length Kl) _)) ?_
  refine ea hY rfl ah ⟨rfl,rfl⟩
 intro l r v H ef
 obtain⟨xs,hq,rfl⟩:=ef
 refine⟨_,_,_,rfl,by decide,?_⟩
 rw[hE.1.2]
 refine cG (HK bs xs) ?_
 rintro w -
 refine go ?_
 refine mI hE Tryz.func296 rfl _ rfl ⟨xs,hq,rfl⟩ ?_
 exact(ak.drop _ _).trans (ak.perm (((List.perm_middle (a:=ag r (.deferred (some []))) (l₁:=Post) (l₂:=F)).cons _).trans (List.Perm.swap _ _ _)))
def Be(g:FuncId)(cap:List Value)(N:Nat)(Pre Post:List HP)(Q:List Int→Prop)(hN:N≤1000000000)(hi:zD g cap N Pre Post Q) :
  aw Tryz.prog 182 [.func (.func g) #[] cap.toArray] Pre (fun r H=>∃xs,Q xs∧H=aH 3 1 r xs.length (iV xs)::Post):=by
 refine aw.ao Tryz.func182 Tryz.ntmps182 fun G F R hE=>?_
 refine go ?_
 refine az (xA g cap N Pre Post Q hN hi) ?_
 rintro w _⟨xs,hq,rfl⟩
 refine go ?_
 refine ad hE Tryz.func182 zr zr ⟨xs,hq,rfl⟩
end Go.Proofs.YtjpboghdolfekaaGreatDoor
namespace Go.Proofs.YtjpboghdolfekaaGreatDoor
open Go Go.SL
structure MV where
 i:Value
 b:Value
 p:Value
 m:Value
def mC(v:MV)(m:ND):List Value := .int .i64 m.kind::(dC m.hash++[.int .i64 m.piece,v.i,v.b,v.p,v.m,.bool m.seed])
attribute [local irreducible] J K aw Ends ag aH au bE aW aJ a6 aZ bI
def mV(l:List Mem):List Value:=l.flatMap pD
def Z1(l:List Mem):(mV l).length=l.length*4:=bt uC l
end Go.Proofs.YtjpboghdolfekaaGreatDoor
namespace Go.Proofs.YtjpboghdolfekaaGreatDoor
open Go Go.SL
structure FW where
 gi:Int
 cN:Int
 cj:Int
 each:Int
 pat:Int
 lim:Int
 jG:Int
 bJ:Int
def xC(S:FW):List Value:=[.int .i64 S.gi,.int .i64 S.cN,.int .i64 S.cj,.int .i64 S.each,.int .i64 S.pat,.int .i64 S.lim,.int .i64 S.jG,.int .i64 S.bJ]
def mK(id:Int)(S:FW)(st tb bv kb hb:Nat)(pv:Value)(ms mg:Nat)(br:Bool):List Value := .int .i64 id::(xC S++[ptr st,ptr tb,ptr bv,ptr kb,ptr hb,pv,.map (some ms),.map (some mg),.bool br])
structure VM where
 self:Mem
 cj:Int
 ks:List Mem
def mE(ks:List Mem)(id:Int):Option Mem:=ks.find? fun x=>decide (x.id=id)
def pC(ks:List Mem)(m:Mem):List Mem:=if m.id∈ks.map Mem.id then ks.map (fun x=>if x.id=m.id then m else x)else ks++[m]
def Qr(x:Mem):Value := .agg (pD x).toArray
def kp(ks:List Mem):List (Int × Value):=ks.map fun x=>(x.id,Qr x)
def rk(ks:List Mem):(kp ks).map (·.1)=ks.map Mem.id:=by simp[kp]
def wy(ks:List Mem)(k:Int):cF (kp ks) k=(mE ks k).map Qr:=by
 unfold cF kp mE
 rw[List.find?_map,Option.map_map]
 rfl
def PR(ks:List Mem)(m:Mem):gT (kp ks) m.id (Qr m)=kp (pC ks m):=by
 unfold gT pC
 rw[rk]
 split
 ·unfold kp
  rw[List.map_map,List.map_map]
  apply List.map_congr_left
  intro x hx
  simp only[Function.comp]
  split <;> rfl
 ·unfold kp;rw[List.map_append];rfl
def bX(bv:Nat)(V:VM):HP:=fun h=>∃bm:Nat,True∧Sep [ag bv (cl (pD V.self++[.int .i64 V.cj,.map (some bm)]) 228),au (Value.int .i64) bm (kp V.ks)] h
def kz(bv:Nat)(V:VM):∀h,bX bv V h→∃bm:Nat,True∧Sep [ag bv (cl (pD V.self++[.int .i64 V.cj,.map (some bm)]) 228),au (Value.int .i64) bm (kp V.ks)] h:=fun h hs=>hs
def iC(bv bm:Nat)(V:VM)(H:List HP):ak (ag bv (cl (pD V.self++[.int .i64 V.cj,.map (some bm)]) 228)::au (Value.int .i64) bm (kp V.ks)::H) (bX bv V::H) :=
 ak.fold (A:=bX bv V) (B:=[ag bv (cl (pD V.self++[.int .i64 V.cj,.map (some bm)]) 228),au (Value.int .i64) bm (kp V.ks)]) fun h hs=>⟨h,sub.refl h,bm,trivial,hs⟩
def lx:jg Tryz.prog 3 (Value.int .i64):=qc Tryz.underlying3
attribute [local irreducible] J K aw Ends ag aH au bE aW aJ a6 aZ bI bX
def lu(n lo hi:Int):aw Tryz.prog 121 [.int .i64 n,.int .i64 lo,.int .i64 hi] [] (fun r H=>r = .bool (pE n lo hi)∧H=[]):=by
 refine aw.ao Tryz.func121 Tryz.ntmps121 fun G F R hE=>?_
 repeat'(first|(with_reducible intro kQ)|refine eK ?_|refine ew zr zr zr zr ?_ ?_|fail)
 ·((refine ad hE Tryz.func121 zr zr ⟨(by unfold pE;rw[decide_eq_true (show lo≤n from kQ),Bool.true_and];rfl),rfl⟩))
 ·((refine ad hE Tryz.func121 zr zr ⟨(by unfold pE;rw[decide_eq_false (show ¬lo≤n from kQ),Bool.false_and];rfl),rfl⟩))
def L5(self cj:Int)(hs:pE self 1 65536=true)(hm:pE cj 1 64=true) :
  aw Tryz.prog 70 [.int .i64 self,.int .i64 cj] [] (fun r H=>∃bv,r = .tuple #[ptr bv,.int .i64 0]∧H=[bX bv ⟨⟨self,0,1,0⟩,cj,[]⟩]):=by
 refine aw.ao Tryz.func70 Tryz.ntmps70 fun G F R hE=>?_
 refine go ?_
 refine aF (lu self 1 65536) ?_
 rw[hs]
 refine go ?_
 refine aF (lu cj 1 64) ?_
 rw[hm]
 refine go ?_
 refine dA rfl bq ?_
 intro bm
 refine go ?_
 refine bC zr zr bq ?_
 intro bv
 refine go ?_
 refine ai (ak.trans (ak.pick [1] rfl) (ak.head (B:=[au (Value.int .i64) bm [] ]) (fun h hs=>⟨h,sub.refl h,di (eX _ bm h hs)⟩))) ?_
 refine ai (ak.trans (ak.pick [1,0] rfl) (iC bv bm ⟨⟨self,0,1,0⟩,cj,[]⟩ _)) ?_
 refine ad hE Tryz.func70 zr zr ⟨bv,rfl,rfl⟩
end Go.Proofs.YtjpboghdolfekaaGreatDoor
namespace Go.Proofs.YtjpboghdolfekaaGreatDoor
open Go Go.SL
def wrap_u64(x:Int):0≤IntKind.u64.wrap x∧IntKind.u64.wrap x<18446744073709551616:=by
 simp[IntKind.wrap,IntKind.bits,IntKind.signed]
 omega
def D0(a b:Int):Int:=IntKind.u64.wrap ((BitVec.ofInt IntKind.u64.bits a ^^^ BitVec.ofInt IntKind.u64.bits b).toNat:Int)
def Eh(a:Int)(k:Int):Int:=a/2 ^ (min k.toNat IntKind.u64.bits)
def oE(z:Int):Int :=
 D0 (IntKind.u64.wrap (D0 (IntKind.u64.wrap (D0 z (Eh z 30)*13787848793156543929)) (Eh (IntKind.u64.wrap (D0 z (Eh z 30)*13787848793156543929)) 27)*10723151780598845931))
  (Eh (IntKind.u64.wrap (D0 (IntKind.u64.wrap (D0 z (Eh z 30)*13787848793156543929)) (Eh (IntKind.u64.wrap (D0 z (Eh z 30)*13787848793156543929)) 27)*10723151780598845931)) 31)
def gy(s:Int):Int:=IntKind.u64.wrap (s+11400714819323198485)
def ni(z:Int):0≤oE z∧oE z<18446744073709551616:=wrap_u64 _
def gS(x n:Nat):Nat:=(x/4294967296*n+x%4294967296*n/4294967296)/4294967296
def sO{x n:Nat}(hx:x<18446744073709551616)(hn:0<n):gS x n<n:=by
 unfold gS
 rw[Nat.div_lt_iff_lt_mul (by decide)]
 have h1:x/4294967296*n≤4294967295*n:=Nat.mul_le_mul_right n aj
 have h2:x%4294967296*n≤4294967295*n:=Nat.mul_le_mul_right n aj
 have h3:x%4294967296*n/4294967296<n:=by omega
 omega
def LG{x n:Nat}(hx:x<18446744073709551616)(hn:n<4294967296):x%4294967296*n<18446744073709551616∧x/4294967296*n<18446744073709551616-4294967296∧x/4294967296*n+x%4294967296*n/4294967296<18446744073709551616:=by
 have h1:x/4294967296*n≤4294967295*4294967295:=Nat.mul_le_mul aj aj
 have h2:x%4294967296*n≤4294967295*4294967295:=Nat.mul_le_mul aj aj
 omega
attribute [local irreducible] J K aw Ends ag aH au bE aW aJ a6 aZ bI
def F6(a b:Nat)(ha:a<18446744073709551616)(hb:b<4294967296):aw Tryz.prog 266 [.int .u64 (a:Int),.int .u64 (b:Int)] [] (fun r H=>(∃lo,r = .tuple #[.int .u64 ((gS a b:Nat):Int),.int .u64 lo])∧H=[]):=by
 obtain⟨p1,p2,p3⟩:=LG ha hb
 have hm:∀x:Nat,x<18446744073709551616→IntKind.u64.wrap ((BitVec.ofInt IntKind.u64.bits (x:Int) &&& BitVec.ofInt IntKind.u64.bits 4294967295).toNat:Int)=((x%4294967296:Nat):Int):=fun x hx=>by
  have:=rq x 32 aj aj
  rw[show((2 ^ 32-1:Nat):Int)=4294967295 from rfl,show x%2 ^ 32=x%4294967296 from rfl]at this
  exact this
 have hs:∀x:Nat,(x:Int)/2 ^ (min (Int.toNat 32) IntKind.u64.bits)=((x/4294967296:Nat):Int):=fun x=>by show(x:Int)/4294967296=_;omega
 refine aw.ao Tryz.func266 Tryz.ntmps266 fun G F R hE=>?_
 refine go ?_
 refine aC 6 (.int .u64 ((a%4294967296:Nat):Int)) rfl (congrArg (Value.int .u64) (hm a ha)) ?_
 refine fL zr zr zr aj ?_
 refine aC 17 (.int .u64 ((a/4294967296:Nat):Int)) rfl (congrArg (Value.int .u64) (hs a)) (go ?_)
 refine aC 8 (.int .u64 (b:Int)) rfl (congrArg (Value.int .u64) ((hm b aj).trans (by rw[Nat.mod_eq_of_lt hb]))) ?_
 refine fL zr zr zr aj ?_
 refine aC 21 (.int .u64 0) rfl (congrArg (Value.int .u64) ((hs b).trans (by rw[Nat.div_eq_of_lt hb];rfl))) ?_
 refine go ?_
 refine iG zr zr zr (by rw[← Int.natCast_mul];simp only[fZ];omega) ?_
 refine aC 24 (.int .u64 ((a%4294967296*b:Nat):Int)) rfl (by rw[Int.natCast_mul]) (go ?_)
 refine iG zr zr zr (by rw[← Int.natCast_mul];simp only[fZ];omega) ?_
 refine aC 27 (.int .u64 ((a/4294967296*b:Nat):Int)) rfl (by rw[Int.natCast_mul]) (go ?_)
 refine fL zr zr zr aj ?_
 refine aC 29 (.int .u64 ((a%4294967296*b/4294967296:Nat):Int)) rfl (congrArg (Value.int .u64) (hs _)) ?_
 refine nJ ?_
 refine DB zr zr zr (by rw[← Int.natCast_add];simp only[fZ];omega) ?_
 refine aC 30 (.int .u64 ((a/4294967296*b+a%4294967296*b/4294967296:Nat):Int)) rfl (by rw[Int.natCast_add]) (go ?_)
 refine aC 12 (.int .u64 (((a/4294967296*b+a%4294967296*b/4294967296)%4294967296:Nat):Int)) rfl (congrArg (Value.int .u64) (hm _ p3)) ?_
 refine fL zr zr zr aj ?_
 refine aC 34 (.int .u64 ((gS a b:Nat):Int)) rfl (congrArg (Value.int .u64) (hs _)) ?_
 have He:gS a b<4294967296:=by unfold gS;omega
 refine go ?_
 refine iG zr zr zr (by simp[fZ]) ?_
 refine aC 38 (.int .u64 0) rfl (by simp) (go ?_)
 refine iG zr zr zr (by simp[fZ]) ?_
 refine aC 42 (.int .u64 0) rfl (by simp) (go ?_)
 refine fL zr zr zr aj ?_
 refine aC 46 (.int .u64 0) rfl (congrArg (Value.int .u64) (by
  show(_+0:Int)/4294967296=0
  omega)) ?_
 refine go ?_
 refine NT zr zr zr (go ?_)
 refine aQ 4 ((.int .u64 ((gS a b:Nat):Int))) rfl ((congrArg (Value.int .u64) aj)) ?_
 refine ad hE Tryz.func266 zr zr ⟨⟨_,rfl⟩,rfl⟩
def lG(s:Int):aw Tryz.prog 154 [.int .u64 s] [] (fun r H=>∃b,r=ptr b∧H=[ag b (cl [.int .u64 s] 406)]):=by
 refine aw.ao Tryz.func154 Tryz.ntmps154 fun G F R hE=>?_
 refine go ?_
 refine bC zr zr bq ?_
 intro bx
 refine go ?_
 refine ad hE Tryz.func154 zr zr ⟨_,rfl,rfl⟩
def NA(b:Nat)(s:Int):aw Tryz.prog 267 [ptr b] [ag b (cl [.int .u64 s] 406)] (fun r H=>r = .int .u64 (oE (gy s))∧H=[ag b (cl [.int .u64 (gy s)] 406)]):=by
 refine aw.ao Tryz.func267 Tryz.ntmps267 fun G F R hE=>?_
 (repeat(first|refine eK ?_|refine fL zr zr zr aj ?_|refine NT zr zr zr ?_|refine Gc zr zr zr ?_))
 refine ad hE Tryz.func267 zr zr ⟨rfl,rfl⟩
def sY(b:Nat)(s:Int)(n:Nat)(hn:n<4294967296):aw Tryz.prog 155 [ptr b,.int .u64 (n:Int)] [ag b (cl [.int .u64 s] 406)] (fun r H=>r = .int .u64 ((gS (oE (gy s)).toNat n:Nat):Int)∧H=[ag b (cl [.int .u64 (gy s)] 406)]):=by
 have hN:=NA b s
 have hr:=ni (gy s)
 obtain⟨x,hx⟩:∃x:Nat,oE (gy s)=(x:Int):=⟨(oE (gy s)).toNat,aj⟩
 rw[hx]at hN hr ⊢
 rw[Int.toNat_natCast]
 refine aw.ao Tryz.func155 Tryz.ntmps155 fun G F R hE=>?_
 refine go ?_
 refine aF hN ?_
 refine go ?_
 refine az (F6 x n aj hn) ?_
 rintro _ _⟨⟨lo,rfl⟩,rfl⟩
 refine go ?_
 refine ad hE Tryz.func155 zr zr ⟨rfl,rfl⟩
end Go.Proofs.YtjpboghdolfekaaGreatDoor
namespace Go.Proofs.YtjpboghdolfekaaGreatDoor
open Go Go.SL
def nN(l:List Int)(i k:Nat):List Int:=(l.set i (l.getD k 0)).set k (l.getD i 0)
def sf(l:List Int)(i k:Nat):(nN l i k).length=l.length:=by simp[nN]
def D9{l:List Int}{i k:Nat}(hi:i<l.length)(hk:k<l.length):(nN l i k).Perm l:=by
 unfold nN
 rw[List.getD_eq_getElem?_getD,List.getD_eq_getElem?_getD,List.getElem?_eq_getElem hi,List.getElem?_eq_getElem hk,Option.getD_some,Option.getD_some]
 exact List.set_set_perm hi hk
def u7:Nat→Int→List Int→Int × List Int
 | 0,s,l=>(s,l)
 | i+1,s,l=>u7 i (gy s) (nN l (i+1) (gS (oE (gy s)).toNat (i+2)))
def Db(s:Int)(n:Nat)(h:0<n):gS (oE (gy s)).toNat n<n:=by
 have:=ni (gy s)
 exact sO aj h
def u6:∀(i:Nat) (s:Int) (l:List Int),i<l.length→(u7 i s l).2.Perm l
 | 0,s,l,_=>List.Perm.refl _
 | i+1,s,l,h=>by
  rw[u7]
  have hk:=Db s (i+2) aj
  exact(u6 i _ _ (by rw[sf];omega)).trans (D9 h aj)
def lk(s:Int)(l:List Int):Int × List Int:=u7 (l.length-1) s l
def Eg(s:Int)(l:List Int):(lk s l).2.Perm l:=by
 unfold lk
 cases l with
 | nil=>exact List.Perm.refl _
 | cons x l=>exact u6 _ _ _ (by simp)
attribute [local irreducible] J K aw Ends ag aH au bE aW aJ a6 aZ bI
def Di(b:Nat)(s:Int)(A:HP)(v:Value)(l:List Int)(hv:Vw A v l.length (iV l))(hl:l.length≤1000000000) :
  aw Tryz.prog 268 [ptr b,v] [ag b (cl [.int .u64 s] 406),A] (fun r H=>H=[aH 3 1 r (lk s l).2.length (iV (lk s l).2),ag b (cl [.int .u64 (lk s l).1] 406),A]):=by
 obtain⟨a,c,rfl⟩:=hv.shape
 refine aw.ao Tryz.func268 Tryz.ntmps268 fun G F R hE=>?_
 refine go ?_
 refine az (Kg A _ l hv aj) ?_
 rintro r _ rfl
 refine aM 0 rfl ?_
 rintro ra rc rfl
 refine go ?_
 ((refine aQ 6 ((.int .i64 (if l.length=0 then -1 else((l.length-1:Nat):Int)))) rfl ((congrArg (Value.int .i64) (by split <;> omega))) ?_))
 refine bj (fun y:Nat × Int × List Int=>y.2.2.length=l.length∧(l.length=0→y.1=0)∧(0<l.length→y.1<l.length)∧u7 y.1 y.2.1 y.2.2=lk s l) (fun y=>y.1)
  (fun y=>[(0,ptr b),(5,.slice ra l.length rc),(6,.int .i64 (if l.length=0 then -1 else(y.1:Int)))])
  (fun y=>aH 3 1 (.slice ra l.length rc) l.length (iV y.2.2)::ag b (cl [.int .u64 y.2.1] 406)::A::F) (l.length-1,s,l) ⟨rfl,by simp only;omega,by simp only;omega,rfl⟩ rfl bO ah ?_
 rintro⟨i,s1,l1⟩⟨yZ,Jb,hi,hsh⟩ ih
 simp only at yZ Jb hi hsh
 refine go ?_
 refine aD zr zr ?_ ?_
 case' refine_2 =>
  intro eN
  simp only at eN
  have hz:i=0:=by
   by_cases h:l.length=0
   ·exact Jb h
   ·rw[if_neg h]at eN;omega
  subst hz
  have hsh:lk s l=(s1,l1):=hsh.symm
  rw[hsh]at hE
  rw[← yZ]
  refine go ?_
  refine aL hE Tryz.func268 rfl _ zr zr ah
 intro Kx
 simp only at Kx
 have gf:l.length≠0:=by intro h;rw[if_pos h]at Kx;omega
 rw[if_neg gf]at Kx ⊢
 obtain⟨i,rfl⟩:∃j,i=j+1:=⟨i-1,aj⟩
 have k9:=hi aj
 have hk:=Db s1 (i+2) aj
 have hBe:=sY b s1 (i+2) aj
 obtain⟨k,hkd⟩:∃k,k=gS (oE (gy s1)).toNat (i+2):=⟨_,rfl⟩
 rw[← hkd]at hk hBe
 have ac3:u7 i (gy s1) (nN l1 (i+1) k)=lk s l:=by rw[← hsh,u7,hkd]
 obtain⟨x,hx⟩:∃x,l1[i+1]?=some x:=⟨l1[i+1]' aj,by simp⟩
 obtain⟨y,hy⟩:∃y,l1[k]?=some y:=⟨l1[k]' aj,by simp⟩
 have hsw:nN l1 (i+1) k=(l1.set (i+1) y).set k x:=by
  unfold nN
  rw[List.getD_eq_getElem?_getD,List.getD_eq_getElem?_getD,hx,hy];rfl
 refine go ?_
 ((refine aC 20 ((.int .u64 ((i+2:Nat):Int))) rfl ((congrArg (Value.int .u64) (by simp only;omega))) ?_))
 refine aF hBe ?_
 refine go ?_
 refine ai (ak.pick [1] rfl) ?_
 refine dz 0 rfl ?_
 intro dt
 obtain⟨b3,o3,c3,Cy⟩:=dt.some (ine (l:=l1) (i:=i+1) aj)
 simp only[Value.slice.injEq,true_and]at Cy
 obtain⟨rfl,rfl⟩:=Cy
 refine aO (fun w=>Sat G w ([])) (cM 0 7 (cM 8 3 (.fork (.act 7 (.act 11 (.st 12 (.act 13 (.st 14 (.act 15 .nil)))))) (.act 11 (.act 7 (.st 12 (.act 13 (.st 14 (.act 15 .nil))))))))) rfl ae ae ae dv ?_
 refine go ?_
 refine bD k zr zr zr zr zr zr zr zr aj (go ?_)
 refine bD (i+1) zr zr zr zr zr zr zr zr aj ?_
 refine nL ?_ ?_
 ·refine go ?_
  refine aS ?_
  refine aP 0 k zr zr zr dt rfl (jK hy) zr zr (go ?_)
  refine aS ?_
  refine aP 0 (i+1) zr zr zr dt rfl (jK hx) zr zr (go ?_)
  refine bD (i+1) zr zr zr zr zr zr zr zr aj (go ?_)
  refine aX ?_
  refine gR (q:=i+1) 0 dv zr zr zr zr zr zr zr aj rfl (go ?_)
  refine bD k zr zr zr zr zr zr zr zr aj (go ?_)
  refine aX ?_
  refine gR (q:=k) 0 fE zr zr zr zr zr zr zr aj rfl ?_
  rw[show((iV l1).set (i+1) (.int .i64 y)).set k (.int .i64 x)=iV (nN l1 (i+1) k)from by rw[hsw];simp[iV,List.map_set]]
  refine go ?_
  ((refine aQ 6 ((.int .i64 (if l.length=0 then -1 else(i:Int)))) rfl ((congrArg (Value.int .i64) (by rw[if_neg gf];simp only;omega))) ?_))
  refine aK ih (i,gy s1,nN l1 (i+1) k) rfl ⟨by rw[sf];exact yZ,fun h=>absurd h gf,fun _=>by simp only;omega,ac3⟩ (by simp only;omega) bO ah
 ·refine go ?_
  refine aS ?_
  refine aP 0 (i+1) zr zr zr dt rfl (jK hx) zr zr (go ?_)
  refine aS ?_
  refine aP 0 k zr zr zr dt rfl (jK hy) zr zr (go ?_)
  refine bD (i+1) zr zr zr zr zr zr zr zr aj (go ?_)
  refine aX ?_
  refine gR (q:=i+1) 0 dv zr zr zr zr zr zr zr aj rfl (go ?_)
  refine bD k zr zr zr zr zr zr zr zr aj (go ?_)
  refine aX ?_
  refine gR (q:=k) 0 fE zr zr zr zr zr zr zr aj rfl ?_
  rw[show((iV l1).set (i+1) (.int .i64 y)).set k (.int .i64 x)=iV (nN l1 (i+1) k)from by rw[hsw];simp[iV,List.map_set]]
  refine go ?_
  ((refine aQ 6 ((.int .i64 (if l.length=0 then -1 else(i:Int)))) rfl ((congrArg (Value.int .i64) (by rw[if_neg gf];simp only;omega))) ?_))
  refine aK ih (i,gy s1,nN l1 (i+1) k) rfl ⟨by rw[sf];exact yZ,fun h=>absurd h gf,fun _=>by simp only;omega,ac3⟩ (by simp only;omega) bO ah
end Go.Proofs.YtjpboghdolfekaaGreatDoor
namespace Go.Proofs.YtjpboghdolfekaaGreatDoor
open Go Go.SL
def cdM(x:Mem):Int:=x.inc*4+x.st
def code(V:VM)(id:Int):Int:=match mE V.ks id with
 | some x=>cdM x
 | none=>0
def adZ(l:List Mem)(id:Int):Int:=match l with
 | []=>0
 | m::l=>if m.id=id then max (cdM m) (adZ l id)else adZ l id
def gY(l:List Int):List Int:=l.mergeSort fun x y=>decide (x≤y)
def fp(l:List Int):(gY l).length=l.length:=List.length_mergeSort _
def o8(l:List Int):(gY l).Perm l:=List.mergeSort_perm l _
def tk(l:List Int):(gY l).Pairwise (·≤·):=by
 have:=List.pairwise_mergeSort (le:=fun x y:Int=>decide (x≤y)) (fun a b c h1 h2=>by simp at *;omega) (fun a b=>by simp;omega) l
 exact this.imp (by simp)
def GD{a b:List Int}(h:a.Perm b):gY a=gY b :=
 List.Perm.eq_of_pairwise (fun x y _ _ h1 h2=>Int.le_antisymm h1 h2) (tk a) (tk b) ((o8 a).trans (h.trans (o8 b).symm))
def C3(k:Int)(n:Nat):Nat:=(max 0 (min k (n:Int))).toNat
def pM(s:Int)(l:List Int)(k:Int):List Int:=(lk s l).2.take (C3 k l.length)
def pw(V:VM)(cj seed:Int):List Mem:=(pM seed (gY (V.ks.map Mem.id)) cj).map (fun id=>(mE V.ks id).getD ⟨0,0,0,0⟩)++[V.self]
def yC(s:Int)(l:List Int):(lk s l).2.length=l.length:=(Eg s l).length_eq
def sm(s:Int)(l:List Int)(k:Int):(pM s l k).length=C3 k l.length:=by
 unfold pM C3
 rw[List.length_take,yC];omega
end Go.Proofs.YtjpboghdolfekaaGreatDoor
namespace Go.Proofs.YtjpboghdolfekaaGreatDoor
open Go Go.Shelf
def yB:Go.Shelf.Ren:=⟨fun|53=>183|64=>298|63=>297|78=>419|79=>420|70=>410|71=>411|72=>412|73=>413|74=>414|75=>415|59=>416|76=>417|77=>418|88=>494|89=>495|90=>496|91=>497|92=>498|68=>280|96=>554|n=>n,fun|22=>152|23=>3|3=>3|51=>196|0=>0|67=>413|69=>38|4=>4|61=>521|60=>520|44=>171|5=>5|9=>9|75=>580|79=>583|83=>619|84=>620|n=>n,fun|n=>n⟩
def acG:Go.Proofs.SlLaysN.n53 Tryz.prog yB:={
  mixed:=by kernel_rfl,
  f53:=⟨Tryz.f183.name,by decide,Tryz.func183.trans (congrArg some (by kernel_rfl))⟩,
  f59:=⟨Tryz.f416.name,by decide,Tryz.func416.trans (congrArg some (by kernel_rfl))⟩,
  f63:=⟨Tryz.f297.name,by decide,Tryz.func297.trans (congrArg some (by kernel_rfl))⟩,
  f64:=Tryz.func298.trans (congrArg some (by kernel_rfl)),
  f68:=⟨Tryz.f280.name,by decide,Tryz.func280.trans (congrArg some (by kernel_rfl))⟩,
  f70:=⟨Tryz.f410.name,by decide,Tryz.func410.trans (congrArg some (by kernel_rfl))⟩,
  f71:=⟨Tryz.f411.name,by decide,Tryz.func411.trans (congrArg some (by kernel_rfl))⟩,
  f72:=⟨Tryz.f412.name,by decide,Tryz.func412.trans (congrArg some (by kernel_rfl))⟩,
  f73:=⟨Tryz.f413.name,by decide,Tryz.func413.trans (congrArg some (by kernel_rfl))⟩,
  f74:=⟨Tryz.f414.name,by decide,Tryz.func414.trans (congrArg some (by kernel_rfl))⟩,
  f75:=⟨Tryz.f415.name,by decide,Tryz.func415.trans (congrArg some (by kernel_rfl))⟩,
  f76:=⟨Tryz.f417.name,by decide,Tryz.func417.trans (congrArg some (by kernel_rfl))⟩,
  f77:=⟨Tryz.f418.name,by decide,Tryz.func418.trans (congrArg some (by kernel_rfl))⟩,
  f78:=Tryz.func419.trans (congrArg some (by kernel_rfl)),
  f79:=Tryz.func420.trans (congrArg some (by kernel_rfl)),
  f88:=⟨Tryz.f494.name,by decide,Tryz.func494.trans (congrArg some (by kernel_rfl))⟩,
  f89:=Tryz.func495.trans (congrArg some (by kernel_rfl)),
  f90:=Tryz.func496.trans (congrArg some (by kernel_rfl)),
  f91:=⟨Tryz.f497.name,by decide,Tryz.func497.trans (congrArg some (by kernel_rfl))⟩,
  f92:=⟨Tryz.f498.name,by decide,Tryz.func498.trans (congrArg some (by kernel_rfl))⟩,
  f96:=⟨Tryz.f554.name,by decide,Tryz.func554.trans (congrArg some (by kernel_rfl))⟩,
  t0:=Tryz.underlying0,
  a0:=Tryz.isAgg0,
  z0:=Tryz.sizeOf0,
  v0:=Tryz.zeroValue0,
  t3:=Tryz.underlying3,
  a3:=Tryz.isAgg3,
  z3:=Tryz.sizeOf3,
  v3:=Tryz.zeroValue3,
  t4:=Tryz.underlying4,
  a4:=Tryz.isAgg4,
  z4:=Tryz.sizeOf4,
  v4:=Tryz.zeroValue4,
  t5:=Tryz.underlying5,
  a5:=Tryz.isAgg5,
  z5:=Tryz.sizeOf5,
  v5:=Tryz.zeroValue5,
  t9:=Tryz.underlying9,
  a9:=Tryz.isAgg9,
  z9:=Tryz.sizeOf9,
  v9:=Tryz.zeroValue9,
  t22:=Tryz.underlying152,
  a22:=Tryz.isAgg152,
  z22:=Tryz.sizeOf152,
  v22:=Tryz.zeroValue152,
  t23:=Tryz.underlying3,
  a23:=Tryz.isAgg3,
  z23:=Tryz.sizeOf3,
  v23:=Tryz.zeroValue3,
  t44:=Tryz.underlying171,
  a44:=Tryz.isAgg171,
  z44:=Tryz.sizeOf171,
  v44:=Tryz.zeroValue171,
  t51:=Tryz.underlying196,
  a51:=Tryz.isAgg196,
  z51:=Tryz.sizeOf196,
  v51:=Tryz.zeroValue196,
  t60:=Tryz.underlying520,
  a60:=Tryz.isAgg520,
  z60:=Tryz.sizeOf520,
  v60:=Tryz.zeroValue520,
  t61:=Tryz.underlying521,
  a61:=Tryz.isAgg521,
  z61:=Tryz.sizeOf521,
  v61:=Tryz.zeroValue521,
  t67:=Tryz.underlying413,
  a67:=Tryz.isAgg413,
  z67:=Tryz.sizeOf413,
  v67:=Tryz.zeroValue413,
  t69:=Tryz.underlying38,
  a69:=Tryz.isAgg38,
  z69:=Tryz.sizeOf38,
  v69:=Tryz.zeroValue38,
  t75:=Tryz.underlying580,
  a75:=Tryz.isAgg580,
  z75:=Tryz.sizeOf580,
  v75:=Tryz.zeroValue580,
  t79:=Tryz.underlying583,
  a79:=Tryz.isAgg583,
  z79:=Tryz.sizeOf583,
  v79:=Tryz.zeroValue583,
  t83:=Tryz.underlying619,
  a83:=Tryz.isAgg619,
  z83:=Tryz.sizeOf619,
  v83:=Tryz.zeroValue619,
  t84:=Tryz.underlying620,
  a84:=Tryz.isAgg620,
  z84:=Tryz.sizeOf620,
  v84:=Tryz.zeroValue620 }
end Go.Proofs.YtjpboghdolfekaaGreatDoor
namespace Go.Proofs.YtjpboghdolfekaaGreatDoor
open Go Go.SL
def oD{l r:List Int}(hl:l.Nodup)(hr:r.Nodup)(h:∀n,n∈l↔n∈r):l.length=r.length:=((List.perm_ext_iff_of_nodup hl hr).2 h).length_eq
attribute [local irreducible] J K aw Ends ag aH au bE aW aJ a6 aZ bI bX II
def yQ(bm:Nat):aw Tryz.prog 105 [.map (some bm)] [] (fun r H=>∃bx,r = .func (.func 184) #[] #[ptr bx]∧H=[ag bx (cl [.map (some bm)] 226)]):=by
 refine aw.ao Tryz.func105 Tryz.ntmps105 fun G F R hE=>?_
 refine go ?_
 refine bC zr zr bq ?_
 intro bx
 refine go ?_
 refine ad hE Tryz.func105 zr zr ⟨bx,rfl,rfl⟩
def vI(bx bm:Nat)(es:List (Int × Value))(iJ:(es.map (·.1)).Nodup) :
  zD 184 [ptr bx] es.length [ag bx (cl [.map (some bm)] 226),au (Value.int .i64) bm es] [au (Value.int .i64) bm es] (fun xs=>xs.Perm (es.map (·.1))):=by
 intro l Lp Inv hy
 refine aw.ao Tryz.func184 Tryz.ntmps184 fun G F R hE=>?_
 refine ai (ak.pick [3,0,2] rfl) (go ?_)
 refine j0 (kv:=Value.int .i64) (es:=es) (U:=aY) 0 zr zr zr zr zr (fun _=>rfl) bq ?_
 intro it
 refine go ?_
 refine bj (fun s:List Int=>s.Nodup∧∀x∈s,x∈es.map (·.1)) (fun s=>es.length-s.length) (fun s=>[(0,.func (.yield l) #[] #[]),(5,.pointer (some ⟨it,0,none⟩))])
  (fun s=>bE (Value.int .i64) bm it es s::Lp::ag bx (cl [.map (some bm)] 226)::Inv s.reverse::F) [] ⟨List.nodup_nil,by simp⟩ rfl bO ah ?_
 rintro dn⟨nx,cH⟩ ih
 refine go ?_
 refine nI (kv:=Value.int .i64) (es:=es) 0 rfl lx.inj zr zr (fun _=>rfl) fE bq ?_ ?_
 ·intro eY
  refine go ?_
  refine ai (ak.head (B:=[au (Value.int .i64) bm es]) (fun h hs=>by obtain⟨h',s,hm⟩:=gM h hs;exact⟨h',s,di hm⟩)) ?_
  have hp:dn.reverse.Perm (es.map (·.1)):=(List.reverse_perm dn).trans ((List.perm_ext_iff_of_nodup nx iJ).2 fun a=>⟨cH a,fun h=>by obtain⟨y,hy,rfl⟩:=List.mem_map.1 h;exact eY y hy⟩)
  refine bB hE Tryz.func184 rfl _ rfl ⟨_,hp,rfl⟩ ah
 ·intro key v dU k8
  have hk:key∈es.map (·.1):=List.mem_map.2 ⟨_,dU,rfl⟩
  have cB:dn.length<es.length:=by
   have h1:((List.filter (fun x=>decide (x∈dn)) (es.map (·.1)))).length≤(es.map (·.1)).length:=List.length_filter_le _ _
   have h2:dn.length=(List.filter (fun x=>decide (x∈dn)) (es.map (·.1))).length:=oD nx (iJ.sublist List.filter_sublist) (fun n=>by
    simp only[List.mem_filter,decide_eq_true_eq]
    exact⟨fun h=>⟨cH n h,h⟩,fun h=>h.2⟩)
   rw[List.length_map]at h1
   rcases Nat.lt_or_ge dn.length es.length with h|h
   ·exact h
   ·exfalso
    have h3:(List.filter (fun x=>decide (x∈dn)) (es.map (·.1))).length=(es.map (·.1)).length:=by rw[List.length_map];omega
    have h4:=List.filter_eq_self.1 ((List.filter_sublist (p:=fun x=>decide (x∈dn)) (l:=es.map (·.1))).eq_of_length h3) key hk
    exact k8 (of_decide_eq_true h4)
  refine go ?_
  refine lN (kv:=Value.int .i64) (es:=es) 0 rfl lx.inj zr zr dU (go ?_)
  refine gQ zr zr zr (hy dn.reverse key (by rw[List.length_reverse];exact cB)) ah ?_ iM
  rintro _ _⟨rfl,rfl⟩
  rw[show dn.reverse++[key]=(key::dn).reverse from by simp]
  refine go ?_
  refine aK ih (key::dn) rfl (⟨List.nodup_cons.2 ⟨k8,nx⟩,fun x hx=>by rcases List.mem_cons.1 hx with rfl|h;exact hk;exact cH x h⟩) (by show _-(key::dn).length<_;simp only[List.length_cons];omega) bO ah
def sR(v:Value)(l:List Int)(hl:l.length≤1000000000):aw Tryz.prog 183 [v] [aH 3 1 v l.length (iV l)] (fun r H=>r = .tuple #[]∧H=[aH 3 1 v l.length (iV (gY l))]) :=
 BG (ρ:=yB) acG 3 v l ae aj
def lJ(g:FuncId)(cap:List Value)(N:Nat)(Pre Post:List HP)(Q:List Int→Prop)(hN:N≤1000000000)(hi:zD g cap N Pre Post Q)(hQ:∀xs,Q xs→xs.length≤1000000000) :
  aw Tryz.prog 104 [.func (.func g) #[] cap.toArray] Pre (fun r H=>∃xs,Q xs∧H=aH 3 1 r xs.length (iV (gY xs))::Post):=by
 refine aw.ao Tryz.func104 Tryz.ntmps104 fun G F R hE=>?_
 refine go ?_
 refine az (Be g cap N Pre Post Q hN hi) ?_
 rintro w _⟨xs,hq,rfl⟩
 refine aM 0 rfl ?_
 rintro wa wc rfl
 refine go ?_
 refine aF (sR (.slice wa xs.length wc) xs (hQ xs hq)) ?_
 refine go ?_
 refine ad hE Tryz.func104 zr zr ⟨xs,hq,rfl⟩
end Go.Proofs.YtjpboghdolfekaaGreatDoor
namespace Go.Proofs.YtjpboghdolfekaaGreatDoor
open Go Go.SL
def mM(kb:Nat)(lim jG cj:Int):HP:=fun h=>∃km:Nat,True∧Sep [ag kb (cl [.int .i64 lim,.int .i64 jG,.int .i64 cj,.map (some km)] 238),au (Value.int .i64) km [] ] h
def M9(kb:Nat)(lim jG cj:Int):∀h,mM kb lim jG cj h→∃km:Nat,True∧Sep [ag kb (cl [.int .i64 lim,.int .i64 jG,.int .i64 cj,.map (some km)] 238),au (Value.int .i64) km [] ] h:=fun h hs=>hs
def zo(kb km:Nat)(lim jG cj:Int)(H:List HP):ak (ag kb (cl [.int .i64 lim,.int .i64 jG,.int .i64 cj,.map (some km)] 238)::au (Value.int .i64) km []::H) (mM kb lim jG cj::H) :=
 ak.fold (A:=mM kb lim jG cj) (B:=[_,_]) fun h hs=>⟨h,sub.refl h,km,trivial,hs⟩
def aer(mo:Option Nat):HP:=match mo with
 | none=>emp
 | some m=>au (Value.int .i64) m []
def whN(hb:Nat)(bJ r:Int):HP:=fun h=>∃mo:Option Nat,True∧Sep [ag hb (cl [.int .i64 bJ,.int .i64 3,.int .i64 r,.int .i64 0,.map mo] 241),aer mo] h
attribute [local irreducible] J K aw Ends ag aH au bE aW aJ a6 aZ bI bX mM whN
def lh(n lo hi:Int):aw Tryz.prog 122 [.int .i64 n,.int .i64 lo,.int .i64 hi] [] (fun r H=>r = .bool (pE n lo hi)∧H=[]):=by
 refine aw.ao Tryz.func122 Tryz.ntmps122 fun G F R hE=>?_
 repeat'(first|(with_reducible intro kQ)|refine eK ?_|refine ew zr zr zr zr ?_ ?_|fail)
 ·((refine ad hE Tryz.func122 zr zr ⟨(by unfold pE;rw[decide_eq_true (show lo≤n from kQ),Bool.true_and];rfl),rfl⟩))
 ·((refine ad hE Tryz.func122 zr zr ⟨(by unfold pE;rw[decide_eq_false (show ¬lo≤n from kQ),Bool.false_and];rfl),rfl⟩))
def oP(n lo hi:Int):aw Tryz.prog 325 [.int .i64 n,.int .i64 lo,.int .i64 hi] [] (fun r H=>r = .bool (pE n lo hi)∧H=[]):=by
 refine aw.ao Tryz.func325 Tryz.ntmps325 fun G F R hE=>?_
 repeat'(first|(with_reducible intro kQ)|refine eK ?_|refine ew zr zr zr zr ?_ ?_|fail)
 ·((refine ad hE Tryz.func325 zr zr ⟨(by unfold pE;rw[decide_eq_true (show lo≤n from kQ),Bool.true_and];rfl),rfl⟩))
 ·((refine ad hE Tryz.func325 zr zr ⟨(by unfold pE;rw[decide_eq_false (show ¬lo≤n from kQ),Bool.false_and];rfl),rfl⟩))
def tw(n lo hi:Int):aw Tryz.prog 64 [.int .i64 n,.int .i64 lo,.int .i64 hi] [] (fun r H=>r = .bool (pE n lo hi)∧H=[]):=by
 refine aw.ao Tryz.func64 Tryz.ntmps64 fun G F R hE=>?_
 repeat'(first|(with_reducible intro kQ)|refine eK ?_|refine ew zr zr zr zr ?_ ?_|fail)
 ·((refine ad hE Tryz.func64 zr zr ⟨(by unfold pE;rw[decide_eq_true (show lo≤n from kQ),Bool.true_and];rfl),rfl⟩))
 ·((refine ad hE Tryz.func64 zr zr ⟨(by unfold pE;rw[decide_eq_false (show ¬lo≤n from kQ),Bool.false_and];rfl),rfl⟩))
def Da(lim jG cj:Int)(h1:pE lim 1 100=true)(h2:pE jG 1 1048576=true)(h3:pE cj 1 64=true) :
  aw Tryz.prog 72 [.int .i64 lim,.int .i64 jG,.int .i64 cj] [] (fun r H=>∃kb,r = .tuple #[ptr kb,.int .i64 0]∧H=[mM kb lim jG cj]):=by
 refine aw.ao Tryz.func72 Tryz.ntmps72 fun G F R hE=>?_
 refine go ?_
 refine aF (lh lim 1 100) ?_
 rw[h1]
 refine go ?_
 refine aF (lh jG 1 1048576) ?_
 rw[h2]
 refine go ?_
 refine aF (lh cj 1 64) ?_
 rw[h3]
 refine go ?_
 refine dA rfl bq ?_
 intro km
 refine go ?_
 refine bC zr zr bq ?_
 intro kb
 refine go ?_
 refine ai (ak.trans (ak.pick [1] rfl) (ak.head (B:=[au (Value.int .i64) km [] ]) (fun h hs=>⟨h,sub.refl h,di (eX _ km h hs)⟩))) ?_
 refine ai (ak.trans (ak.pick [1,0] rfl) (zo kb km lim jG cj _)) ?_
 refine ad hE Tryz.func72 zr zr ⟨kb,rfl,rfl⟩
def AG(n cN:Int)(h1:1≤n∧n≤1024)(h2:1≤cN∧cN≤64):aw Tryz.prog 213 [.int .i64 n,.int .i64 cN] [] (fun r H=>∃b,r = .tuple #[ptr b,.int .i64 0]∧H=[]):=by
 obtain⟨m,rfl⟩:∃m:Nat,n=m:=⟨n.toNat,aj⟩
 refine aw.ao Tryz.func213 Tryz.ntmps213 fun G F R hE=>?_
 repeat'(first|(with_reducible intro kQ)|refine eK ?_|refine ew zr zr zr zr ?_ ?_|refine aD zr zr ?_ ?_)
 any_goals (exfalso;omega)
 refine dA rfl bq ?_
 intro bm
 refine go ?_
 refine hJ (p:=m) (q:=m) zr zr zr zr zr zr zr zr zr (Nat.le_refl _) aj (by show 8*_≤_;omega) bq ?_
 intro row
 refine go ?_
 refine bC zr zr bq ?_
 intro b
 refine go ?_
 refine ai (H':=F) ah ?_
 refine ad hE Tryz.func213 zr zr ⟨b,rfl,rfl⟩
def xX(cj each pat:Int)(h1:pE cj 1 256=true)(h2:pE each 1 cj=true)(h3:pE pat 1 1048576=true):aw Tryz.prog 214 [.int .i64 cj,.int .i64 each,.int .i64 pat] [] (fun r H=>∃b,r = .tuple #[ptr b,.int .i64 0]∧H=[]):=by
 refine aw.ao Tryz.func214 Tryz.ntmps214 fun G F R hE=>?_
 refine go ?_
 refine aF (oP cj 1 256) ?_
 rw[h1]
 refine go ?_
 refine aF (oP each 1 cj) ?_
 rw[h2]
 refine go ?_
 refine aF (oP pat 1 1048576) ?_
 rw[h3]
 refine go ?_
 refine dA rfl bq ?_
 intro bm
 refine go ?_
 refine bC zr zr bq ?_
 intro b
 refine go ?_
 refine ai (H':=F) ah ?_
 refine ad hE Tryz.func214 zr zr ⟨b,rfl,rfl⟩
def C4(n cN cj each pat:Int)(h1:1≤n∧n≤1024)(h2:1≤cN∧cN≤64)(h3:pE cj 1 256=true)(h4:pE each 1 cj=true)(h5:pE pat 1 1048576=true) :
  aw Tryz.prog 123 [.int .i64 n,.int .i64 cN,.int .i64 cj,.int .i64 each,.int .i64 pat] [] (fun r H=>∃b,r = .tuple #[ptr b,.int .i64 0]∧H=[]):=by
 refine aw.ao Tryz.func123 Tryz.ntmps123 fun G F R hE=>?_
 refine go ?_
 refine az (AG n cN h1 h2) ?_
 rintro _ _⟨b1,rfl,rfl⟩
 refine go ?_
 refine az (xX cj each pat h3 h4 h5) ?_
 rintro _ _⟨b2,rfl,rfl⟩
 refine go ?_
 refine bC zr zr bq ?_
 intro b
 refine go ?_
 refine ai (H':=F) ah ?_
 refine ad hE Tryz.func123 zr zr ⟨b,rfl,rfl⟩
end Go.Proofs.YtjpboghdolfekaaGreatDoor
namespace Go.Proofs.YtjpboghdolfekaaGreatDoor
open Go Go.SL
attribute [local irreducible] J K aw Ends ag aH au bE aW aJ a6 aZ bI bX II
def Jq(bm:Nat):aw Tryz.prog 143 [.map (some bm)] [] (fun r H=>∃bx,r = .func (.func 249) #[] #[ptr bx]∧H=[ag bx (cl [.map (some bm)] 129)]):=by
 refine aw.ao Tryz.func143 Tryz.ntmps143 fun G F R hE=>?_
 refine go ?_
 refine bC zr zr bq ?_
 intro bx
 refine go ?_
 refine ad hE Tryz.func143 zr zr ⟨bx,rfl,rfl⟩
def Fo(bx bm:Nat)(es:List (Int × Value))(iJ:(es.map (·.1)).Nodup) :
  zD 249 [ptr bx] es.length [ag bx (cl [.map (some bm)] 129),au (Value.int .i64) bm es] [au (Value.int .i64) bm es] (fun xs=>xs.Perm (es.map (·.1))):=by
 intro l Lp Inv hy
 refine aw.ao Tryz.func249 Tryz.ntmps249 fun G F R hE=>?_
 refine ai (ak.pick [3,0,2] rfl) (go ?_)
 refine j0 (kv:=Value.int .i64) (es:=es) (U:=aY) 0 zr zr zr zr zr (fun _=>rfl) bq ?_
 intro it
 refine go ?_
 refine bj (fun s:List Int=>s.Nodup∧∀x∈s,x∈es.map (·.1)) (fun s=>es.length-s.length) (fun s=>[(0,.func (.yield l) #[] #[]),(5,.pointer (some ⟨it,0,none⟩))])
  (fun s=>bE (Value.int .i64) bm it es s::Lp::ag bx (cl [.map (some bm)] 129)::Inv s.reverse::F) [] ⟨List.nodup_nil,by simp⟩ rfl bO ah ?_
 rintro dn⟨nx,cH⟩ ih
 refine go ?_
 refine nI (kv:=Value.int .i64) (es:=es) 0 rfl lx.inj zr zr (fun _=>rfl) fE bq ?_ ?_
 ·intro eY
  refine go ?_
  refine ai (ak.head (B:=[au (Value.int .i64) bm es]) (fun h hs=>by obtain⟨h',s,hm⟩:=gM h hs;exact⟨h',s,di hm⟩)) ?_
  have hp:dn.reverse.Perm (es.map (·.1)):=(List.reverse_perm dn).trans ((List.perm_ext_iff_of_nodup nx iJ).2 fun a=>⟨cH a,fun h=>by obtain⟨y,hy,rfl⟩:=List.mem_map.1 h;exact eY y hy⟩)
  refine bB hE Tryz.func249 rfl _ rfl ⟨_,hp,rfl⟩ ah
 ·intro key v dU k8
  have hk:key∈es.map (·.1):=List.mem_map.2 ⟨_,dU,rfl⟩
  have cB:dn.length<es.length:=by
   have h1:((List.filter (fun x=>decide (x∈dn)) (es.map (·.1)))).length≤(es.map (·.1)).length:=List.length_filter_le _ _
   have h2:dn.length=(List.filter (fun x=>decide (x∈dn)) (es.map (·.1))).length:=oD nx (iJ.sublist List.filter_sublist) (fun n=>by
    simp only[List.mem_filter,decide_eq_true_eq]
    exact⟨fun h=>⟨cH n h,h⟩,fun h=>h.2⟩)
   rw[List.length_map]at h1
   rcases Nat.lt_or_ge dn.length es.length with h|h
   ·exact h
   ·exfalso
    have h3:(List.filter (fun x=>decide (x∈dn)) (es.map (·.1))).length=(es.map (·.1)).length:=by rw[List.length_map];omega
    have h4:=List.filter_eq_self.1 ((List.filter_sublist (p:=fun x=>decide (x∈dn)) (l:=es.map (·.1))).eq_of_length h3) key hk
    exact k8 (of_decide_eq_true h4)
  refine go ?_
  refine lN (kv:=Value.int .i64) (es:=es) 0 rfl lx.inj zr zr dU (go ?_)
  refine gQ zr zr zr (hy dn.reverse key (by rw[List.length_reverse];exact cB)) ah ?_ iM
  rintro _ _⟨rfl,rfl⟩
  rw[show dn.reverse++[key]=(key::dn).reverse from by simp]
  refine go ?_
  refine aK ih (key::dn) rfl (⟨List.nodup_cons.2 ⟨k8,nx⟩,fun x hx=>by rcases List.mem_cons.1 hx with rfl|h;exact hk;exact cH x h⟩) (by show _-(key::dn).length<_;simp only[List.length_cons];omega) bO ah
def IT(bm:Nat):aw Tryz.prog 248 [.map (some bm)] [] (fun r H=>∃bx,r = .func (.func 370) #[] #[ptr bx]∧H=[ag bx (cl [.map (some bm)] 236)]):=by
 refine aw.ao Tryz.func248 Tryz.ntmps248 fun G F R hE=>?_
 refine go ?_
 refine bC zr zr bq ?_
 intro bx
 refine go ?_
 refine ad hE Tryz.func248 zr zr ⟨bx,rfl,rfl⟩
def E6(bx bm:Nat)(es:List (Int × Value))(iJ:(es.map (·.1)).Nodup) :
  zD 370 [ptr bx] es.length [ag bx (cl [.map (some bm)] 236),au (Value.int .i64) bm es] [au (Value.int .i64) bm es] (fun xs=>xs.Perm (es.map (·.1))):=by
 intro l Lp Inv hy
 refine aw.ao Tryz.func370 Tryz.ntmps370 fun G F R hE=>?_
 refine ai (ak.pick [3,0,2] rfl) (go ?_)
 refine j0 (kv:=Value.int .i64) (es:=es) (U:=aY) 0 zr zr zr zr zr (fun _=>rfl) bq ?_
 intro it
 refine go ?_
 refine bj (fun s:List Int=>s.Nodup∧∀x∈s,x∈es.map (·.1)) (fun s=>es.length-s.length) (fun s=>[(0,.func (.yield l) #[] #[]),(5,.pointer (some ⟨it,0,none⟩))])
  (fun s=>bE (Value.int .i64) bm it es s::Lp::ag bx (cl [.map (some bm)] 236)::Inv s.reverse::F) [] ⟨List.nodup_nil,by simp⟩ rfl bO ah ?_
 rintro dn⟨nx,cH⟩ ih
 refine go ?_
 refine nI (kv:=Value.int .i64) (es:=es) 0 rfl lx.inj zr zr (fun _=>rfl) fE bq ?_ ?_
 ·intro eY
  refine go ?_
  refine ai (ak.head (B:=[au (Value.int .i64) bm es]) (fun h hs=>by obtain⟨h',s,hm⟩:=gM h hs;exact⟨h',s,di hm⟩)) ?_
  have hp:dn.reverse.Perm (es.map (·.1)):=(List.reverse_perm dn).trans ((List.perm_ext_iff_of_nodup nx iJ).2 fun a=>⟨cH a,fun h=>by obtain⟨y,hy,rfl⟩:=List.mem_map.1 h;exact eY y hy⟩)
  refine bB hE Tryz.func370 rfl _ rfl ⟨_,hp,rfl⟩ ah
 ·intro key v dU k8
  have hk:key∈es.map (·.1):=List.mem_map.2 ⟨_,dU,rfl⟩
  have cB:dn.length<es.length:=by
   have h1:((List.filter (fun x=>decide (x∈dn)) (es.map (·.1)))).length≤(es.map (·.1)).length:=List.length_filter_le _ _
   have h2:dn.length=(List.filter (fun x=>decide (x∈dn)) (es.map (·.1))).length:=oD nx (iJ.sublist List.filter_sublist) (fun n=>by
    simp only[List.mem_filter,decide_eq_true_eq]
    exact⟨fun h=>⟨cH n h,h⟩,fun h=>h.2⟩)
   rw[List.length_map]at h1
   rcases Nat.lt_or_ge dn.length es.length with h|h
   ·exact h
   ·exfalso
    have h3:(List.filter (fun x=>decide (x∈dn)) (es.map (·.1))).length=(es.map (·.1)).length:=by rw[List.length_map];omega
    have h4:=List.filter_eq_self.1 ((List.filter_sublist (p:=fun x=>decide (x∈dn)) (l:=es.map (·.1))).eq_of_length h3) key hk
    exact k8 (of_decide_eq_true h4)
  refine go ?_
  refine lN (kv:=Value.int .i64) (es:=es) 0 rfl lx.inj zr zr dU (go ?_)
  refine gQ zr zr zr (hy dn.reverse key (by rw[List.length_reverse];exact cB)) ah ?_ iM
  rintro _ _⟨rfl,rfl⟩
  rw[show dn.reverse++[key]=(key::dn).reverse from by simp]
  refine go ?_
  refine aK ih (key::dn) rfl (⟨List.nodup_cons.2 ⟨k8,nx⟩,fun x hx=>by rcases List.mem_cons.1 hx with rfl|h;exact hk;exact cH x h⟩) (by show _-(key::dn).length<_;simp only[List.length_cons];omega) bO ah
end Go.Proofs.YtjpboghdolfekaaGreatDoor
namespace Go.Proofs.YtjpboghdolfekaaGreatDoor
open Go Go.SL
def MI(bs:Nat)(ks:List Mem):HP:=fun h=>∃v:Value,True∧Sep [ag bs (cl [v] 47),aH 175 4 v ks.length (mV ks)] h
attribute [local irreducible] J K aw Ends ag aH au bE aW aJ a6 aZ bI bX II MI
end Go.Proofs.YtjpboghdolfekaaGreatDoor
namespace Go.Proofs.YtjpboghdolfekaaGreatDoor
open Go Go.SL
attribute [local irreducible] J K aw Ends ag aH au bE aW aJ a6 aZ bI bX II
def Vw.aaJ{A:HP}{a:Option Addr}{m c:Nat}{l:List Int}(h:Vw A (.slice a m c) m (iV l))(n:Nat)(hn:n≤l.length):Vw A (.slice (sliceAt a c 0 1) n c) n (iV (l.take n)):=by
 obtain⟨a',cap,he,h0|⟨b,o,ha,hc⟩⟩:=h
 ·have:l=[]:=by cases l with|nil=>rfl|cons x l=>simp[iV]at h0
  subst this
  exact⟨_,_,rfl,.inl (by simp[iV])⟩
 ·simp only[Value.slice.injEq]at he
  obtain⟨rfl,-,rfl⟩:=he
  subst ha
  have hs:sliceAt (some ⟨b,o,none⟩) c 0 1=some ⟨b,o,none⟩:=by
   unfold sliceAt
   split
   ·rfl
   ·simp[Addr.add]
  refine⟨_,_,rfl,.inr ⟨b,o,hs,fun h' hA j x hj=>hc h' hA j x ?_⟩⟩
  rw[show iV (l.take n)=(iV l).take n from by simp[iV,List.map_take],List.getElem?_take]at hj
  split at hj
  ·exact hj
  ·cases hj
def FZ(b:Nat)(s:Int)(A:HP)(v:Value)(l:List Int)(hv:Vw A v l.length (iV l))(hl:l.length≤1000000000)(k:Int) :
  aw Tryz.prog 156 [ptr b,v,.int .i64 k] [ag b (cl [.int .u64 s] 406),A] (fun r H=>∃(a:Option Addr) (c:Nat) (Y:HP),r = .slice a (pM s l k).length c∧Vw Y r (pM s l k).length (iV (pM s l k))∧H=[Y,ag b (cl [.int .u64 (lk s l).1] 406),A]):=by
 obtain⟨a,c,rfl⟩:=hv.shape
 have eR:=yC s l
 have af7:=sm s l k
 refine aw.ao Tryz.func156 Tryz.ntmps156 fun G F R hE=>?_
 refine go ?_
 refine az (Di b s A _ l hv hl) ?_
 rintro r _ rfl
 refine aM 0 rfl ?_
 rintro ra rc rfl
 refine HD 0 rfl ?_
 intro Cx fF
 refine go ?_
 obtain⟨n,hn⟩:∃n,n=C3 k (lk s l).2.length:=⟨_,rfl⟩
 have G9:n≤(lk s l).2.length:=by rw[hn];unfold C3;omega
 have hsn:(pM s l k)=(lk s l).2.take n:=by unfold pM;rw[hn,eR]
 ((refine aC 16 ((.int .i64 (n:Int))) rfl ((congrArg (Value.int .i64) (by rw[hn];unfold C3;omega))) ?_))
 refine bo (p:=0) (q:=(n:Int)) zr zr zr zr zr zr zr aj aj (.inr aj) ?_
 have Mk:=Vw.aaJ Cx n G9
 have Pg:n=(pM s l k).length:=by rw[hsn,List.length_take];omega
 ((refine aC 17 ((.slice (sliceAt ra rc 0 1) n rc)) rfl ((by rw[show((n:Int)).toNat=n from by omega];rfl)) ?_))
 refine go ?_
 rw[← hsn]at Mk
 rw[Pg]at Mk ⊢
 refine ad hE Tryz.func156 zr zr ⟨_,_,_,rfl,Mk,rfl⟩
def Gossip_any(bv:Nat)(V:VM)(iJ:(V.ks.map Mem.id).Nodup)(hlen:V.ks.length≤1000000)(cj:Int)(seed:Int) :
  aw Tryz.prog 89 [ptr bv,.int .i64 cj,.int .u64 seed] [bX bv V] (fun r H=>H=[aH 175 4 r (pw V cj seed).length (mV (pw V cj seed)),bX bv V]):=by
 refine aw.ao Tryz.func89 Tryz.ntmps89 fun G F R hE=>?_
 refine cG (kz bv V) ?_
 rintro bm -
 refine go ?_
 refine aO (fun w=>Sat G w ([ag bv (cl (pD V.self++[.int .i64 V.cj,.map (some bm)]) 228)])) (.st 0 (cM 2 4 (.st 8 (.st 11 (.act 1 (.act 6 (.act 7 (.act 9 (.st 10 .nil))))))))) rfl ae ae ae dv ?_
 refine go ?_
 ((refine dM zr zr zr zr (lG seed) ah ?_ (fun _ _ w hp hw=>by obtain⟨_,rfl,rfl⟩:=hp;exact hw.cp ah)))
 rintro _ _⟨bd,rfl,rfl⟩
 refine go ?_
 ((refine dM zr zr zr zr (yQ bm) ah ?_ (fun _ _ w hp hw=>by obtain⟨_,rfl,rfl⟩:=hp;exact hw.cp ah)))
 rintro _ _⟨bx,rfl,rfl⟩
 refine go ?_
 have lC:(kp V.ks).map (·.1)=V.ks.map Mem.id:=rk V.ks
 have rU:(kp V.ks).length=V.ks.length:=List.length_map _
 ((refine cP (lJ 184 [ptr bx] (kp V.ks).length [ag bx (cl [.map (some bm)] 226),au (Value.int .i64) bm (kp V.ks)] [au (Value.int .i64) bm (kp V.ks)] (fun xs=>xs.Perm ((kp V.ks).map (·.1))) aj (vI bx bm (kp V.ks) (by rw[lC];exact iJ)) (fun xs hx=>by rw[hx.length_eq,List.length_map];omega)) ?_))
 rintro r _⟨xs,Bi,rfl⟩
 rw[lC]at Bi
 have hri:gY xs=gY (V.ks.map Mem.id):=GD Bi
 rw[hri,show xs.length=(gY (V.ks.map Mem.id)).length from by rw[fp,Bi.length_eq]]
 obtain⟨ids,nY⟩:∃ids,ids=gY (V.ks.map Mem.id):=⟨_,rfl⟩
 rw[← nY]
 have adx:ids.length=V.ks.length:=by rw[nY,fp,List.length_map]
 refine aM 0 rfl ?_
 rintro ra rc rfl
 refine eL 0 rfl ?_
 intro Cx
 refine go ?_
 refine cP (FZ bd seed _ _ ids Cx aj cj) ?_
 rintro _ _⟨sa,sc,Y,rfl,Oc,rfl⟩
 refine go ?_
 obtain⟨ss,Mp⟩:∃ss,ss=pM seed ids cj:=⟨_,rfl⟩
 have af5:ss.length≤1000000:=by rw[Mp,sm];unfold C3;omega
 have afg:pw V cj seed=ss.map (fun id=>(mE V.ks id).getD ⟨0,0,0,0⟩)++[V.self]:=by rw[Mp,nY];rfl
 rw[← Mp]at Oc ⊢
 refine bj (fun y:Nat × List Mem × Option Addr × Nat=>y.1≤ss.length∧y.2.1=(ss.take y.1).map (fun id=>(mE V.ks id).getD ⟨0,0,0,0⟩)) (fun y=>ss.length-y.1)
  (fun y=>[(0,ptr bv),(7,.slice y.2.2.1 y.2.1.length y.2.2.2),(19,.slice sa ss.length sc),(20,.int .i64 (ss.length:Int)),(21,.int .i64 (y.1:Int))])
  (fun y=>aH 175 4 (.slice y.2.2.1 y.2.1.length y.2.2.2) y.2.1.length (mV y.2.1)::ag bv (cl (pD V.self++[.int .i64 V.cj,.map (some bm)]) 228)::au (Value.int .i64) bm (kp V.ks)::Y::F) (0,[],none,0) ⟨Nat.zero_le _,rfl⟩ rfl bO (ak.trans (bp 175 4 none _) ah) ?_
 rintro⟨i,acc,a1,c1⟩⟨hi,gP⟩ ih
 simp only at hi gP
 have hal:acc.length=i:=by rw[gP,List.length_map,List.length_take];omega
 refine go ?_
 refine aD zr zr ?_ ?_
 case' refine_2 =>
  intro eN
  simp only at eN
  have fR:pw V cj seed=acc++[V.self]:=by rw[afg,gP,List.take_of_length_le aj]
  rw[fR]at hE
  refine go ?_
  refine cC 1 zr zr zr zr zr zr (go ?_)
  refine aq (cs:=pD V.self) zr zr zr zr zr zr zr zr zr bq ?_
  intro row
  refine go ?_
  refine aU (mm:=1) (news:=pD V.self) 1 0 rfl rfl rfl rfl rfl rfl rfl rfl rfl rfl rfl rfl (Vw.ag rfl) rfl (by intro v hv;simp[pD]at hv;rcases hv with rfl|rfl|rfl|rfl <;> rfl) (by simp only;omega) (by show(_+_)*32≤_;simp only;omega) (fun _=>rfl) bq ?_
  intro v1
  simp only
  rw[show mV acc++pD V.self=mV (acc++[V.self])from by simp[mV],show acc.length+1=(acc++[V.self]).length from by simp]
  refine aM 1 rfl ?_
  rintro ja jc rfl
  refine go ?_
  refine ai (ak.trans (ak.pick [2,3] rfl) (iC bv bm V _)) ?_
  refine aL hE Tryz.func89 rfl _ zr zr ah
 intro cB
 simp only at cB
 have dP:i<ss.length:=by omega
 obtain⟨x,hx⟩:∃x,ss[i]?=some x:=⟨ss[i],by simp⟩
 obtain⟨b3,o3,c3,Cy⟩:=Oc.some (ine dP)
 simp only[Value.slice.injEq,true_and]at Cy
 obtain⟨rfl,rfl⟩:=Cy
 obtain⟨y,hy⟩:∃y,y=(mE V.ks x).getD ⟨0,0,0,0⟩:=⟨_,rfl⟩
 have ht:(ss.take (i+1)).map (fun id=>(mE V.ks id).getD ⟨0,0,0,0⟩)=acc++[y]:=by
  rw[List.take_add_one,hx,Option.toList_some,List.map_append,← gP,hy];rfl
 have CD:(cF (kp V.ks) x).getD (.agg #[.int .i64 0,.int .i64 0,.int .i64 0,.int .i64 0])=Qr y:=by
  rw[wy,hy]
  all_goals(cases mE V.ks x <;> rfl)
 refine go ?_
 refine bD i zr zr zr zr zr zr zr zr dP ?_
 refine aP 3 i zr zr zr Oc rfl (jK hx) zr zr (go ?_)
 refine kX (es:=kp V.ks) (key:=x) 2 rfl lx zr zr zr zr zr zr zr zr ?_
 rw[CD]
 refine go ?_
 refine aq (cs:=pD y) zr zr zr zr zr zr zr zr zr bq ?_
 intro row
 refine go ?_
 refine aU (mm:=1) (news:=pD y) 1 0 rfl rfl rfl rfl rfl rfl rfl rfl rfl rfl rfl rfl (Vw.ag rfl) rfl (by intro v hv;simp[pD]at hv;rcases hv with rfl|rfl|rfl|rfl <;> rfl) (by simp only;omega) (by show(_+_)*32≤_;simp only;omega) (fun _=>rfl) bq ?_
 intro v1
 simp only
 rw[show mV acc++pD y=mV (acc++[y])from by simp[mV],show acc.length+1=(acc++[y]).length from by simp]
 refine aM 1 rfl ?_
 rintro ja jc rfl
 refine go ?_
 refine aK ih (i+1,acc++[y],ja,jc) rfl ⟨by simp only;omega,by simp only;rw[ht]⟩ (by simp only;omega) bO ah
end Go.Proofs.YtjpboghdolfekaaGreatDoor
