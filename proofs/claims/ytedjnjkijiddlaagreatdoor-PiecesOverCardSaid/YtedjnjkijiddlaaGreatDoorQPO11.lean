import Derived.Test.YtedjnjkijiddlaaGreatDoorQPO3
import Derived.Test.YtedjnjkijiddlaaGreatDoorQPO5
import Derived.Test.YtedjnjkijiddlaaGreatDoorQPO6
import Derived.Test.YtedjnjkijiddlaaGreatDoorQPO7
import Derived.Test.YtedjnjkijiddlaaGreatDoorQPO9
import Derived.Test.YtedjnjkijiddlaaGreatDoorQPO10
set_option linter.unusedSimpArgs false
set_option linter.unusedVariables false
set_option maxHeartbeats 1000000
namespace Go.Proofs.YtedjnjkijiddlaaGreatDoor
open Go Go.SL
attribute [local irreducible] J K aD Ends ag aB aM bN aZ aP aV bh bW aC LI vq
def fH(A:Ab)(name:ByteArray):List (List UInt8):=bY (e8 (A.read name 0 (A.size name).1).1)
def nY(A:Ab)(name:ByteArray)(e:Nat)(A':Ab)(x:JN):Prop :=
 if ¬(isName name=true∧isName (bI name)=true)then e=1∧A'=A else if A.off then e=7∧A'=A
 else ∃y:PS,zQ name (fH A name) (A,0,0,0) e y∧A'=y.1∧x=⟨y.2.1,y.2.2.1,y.2.2.2,false⟩
set_option maxRecDepth 20000 in
theorem O8(bd:Nat)(name:ByteArray)(A:Ab)(IP:name.size≤1000000000)(cF:A.aq.length≤900000000)(pQ:A.writes.length≤900000000) :
  aD Tryz.prog 76 [ptr bd,.string name] [aC bd A]
   (fun r H=>∃(e:Nat) (A':Ab) (x:JN),nY A name e A' x∧((e≠0∧r = .tuple #[.pointer none,.slice none 0 0,.int .i64 (e:Int)]∧H=[aC bd A']) ∨
    (e=0∧∃jb lv,r = .tuple #[ptr jb,lv,.int .i64 0]∧H=[aC bd A',qY jb bd name x,vq lv (fH A name)]))):=by
 refine aD.enter Tryz.func76 ak rfl Tryz.ntmps76 zr zr ?_
 intro G F R hE
 refine abC 0 rfl ?_
 intro adm
 refine go ?_
 ((refine ai zr zr zr zr (Iv name) ad ?_ bG))
 rintro _ _⟨rfl,rfl⟩
 cases h1:isName name with
 | false =>
  refine go ?_
  ((refine ae hE Tryz.func76 rfl _ rfl ⟨1,A,⟨0,0,0,false⟩,(by unfold nY;rw[if_pos (by simp[h1])];exact⟨rfl,rfl⟩),.inl ⟨ah,rfl,rfl⟩⟩ ad))
 | true =>
 refine go ?_
 refine zc zr zr zr (by show name.size+4≤_;omega) ?_
 refine az 25 (.string (bI name)) zr zr ?_
 ((refine go ?_;(refine ai zr zr zr zr (Iv (bI name)) ad ?_ bG)))
 rintro _ _⟨rfl,rfl⟩
 cases h2:isName (bI name)with
 | false =>
  refine go ?_
  ((refine ae hE Tryz.func76 rfl _ rfl ⟨1,A,⟨0,0,0,false⟩,(by unfold nY;rw[if_pos (by simp[h2])];exact⟨rfl,rfl⟩),.inl ⟨ah,rfl,rfl⟩⟩ ad))
 | true =>
 refine go ?_
 ((refine ai zr zr zr zr (O' bd A) ad ?_ bG))
 rintro _ _⟨rfl,rfl⟩
 cases h3:A.off with
 | true =>
  refine go ?_
  ((refine ae hE Tryz.func76 rfl _ rfl ⟨7,A,⟨0,0,0,false⟩,(by unfold nY;rw[if_neg (by simp[h1,h2]),if_pos h3];exact⟨rfl,rfl⟩),.inl ⟨ah,rfl,rfl⟩⟩ ad))
 | false =>
 refine go ?_
 ((refine ai zr zr zr zr (tP bd A name) ad ?_ bG))
 rintro _ _⟨rfl,rfl⟩
 refine go ?_
 ((refine ai zr zr zr zr (Co bd A name 0 (A.size name).1) ad ?_ bG))
 rintro _ _⟨rb,rfl,rfl⟩
 have D5:=Du A adm name 0 (A.size name).1
 obtain⟨B,hB⟩:∃B,B=(A.read name 0 (A.size name).1).1:=⟨_,rfl⟩
 rw[← hB]at D5 ⊢
 refine go ?_
 ((refine aJ 1 rfl ?_))
 rintro ra rc rfl
 refine gB (bs:=B) 1 rfl ?_
 intro L8
 refine aw zr zr zr bz ?_
 intro lb
 refine go ?_
 ((refine ai zr zr zr zr (K2 _ _ B L8 ah) ad ?_ bG))
 rintro fv _⟨hbf,rfl⟩
 obtain⟨fa,fc,rfl,hfc⟩:=hbf.2
 ((refine ai zr zr zr zr (Dp fa (e8 B).length fc) ad ?_ bG))
 rintro _ _⟨bx,rfl,rfl⟩
 have nJ:(e8 B).length≤1048576:=by
  unfold e8
  split
  ·simp
  ·rw[List.length_take,List.length_drop];omega
 refine go ?_
 obtain⟨rs,PN⟩:∃rs,rs=bY (e8 B):=⟨_,rfl⟩
 have CK:=pF (e8 B)
 rw[← PN]at CK
 refine iR rfl ?_
 refine aj (ao.trans (ao.pick [2] rfl) (Pd lb none _)) ?_
 refine wD (Fr:=aC bd A::F) (Pre:=fun _ _=>[ag bx (cl [.slice fa (e8 B).length fc] 22),aB 5 1 (.slice ra B.length rc) B.length (bV B),LI lb [] ]) (Post:=?Po) rfl hE.1.1 rfl ?c (fun l r=>ad) ?hG
 case c =>
  intro l r
  refine BC (aB 5 1 (.slice ra B.length rc) B.length (bV B)) l bx _ (e8 B) hbf ah _ (fun i=>LI lb ((bY (e8 B)).take i)) ?_
  intro i x hx rv
  refine bW.DG zr zr ?_
  intro G2 F2 R2 hY
  have kY:i<(bY (e8 B)).length:=(List.getElem?_eq_some_iff.1 hx).1
  have vV:=(pF (e8 B)).2.1
  have jY:(bY (e8 B)).take (i+1)=(bY (e8 B)).take i++[x]:=by rw[List.take_add_one,hx];rfl
  have tr:((bY (e8 B)).take i).length≤(e8 B).length:=by rw[List.length_take];omega
  simp only[jY]at hY
  generalize (bY (e8 B)).take i=ts at tr hY ⊢
  refine go ?_
  refine fV rfl hY ?_
  refine aj (ao.pick [1] rfl) ?_
  refine eE (Jk lb ts) ?_
  rintro⟨lv,cs,M⟩ hR
  refine aj (ao.trans (ao.pick [4,2] rfl) (ao.join _ _ _)) ?_
  refine eE (Df 5 1 x.length rv (bV x) M) ?_
  rintro M'⟨PM,er⟩
  obtain⟨xa,xc,rfl,hxc⟩:=PM.shape
  refine dv 2 rfl ?_
  intro la lc Sc
  simp only at Sc
  subst Sc
  refine go ?_
  refine al zr zr zr zr zr zr zr zr zr bz ?_
  intro row
  refine go ?_
  refine aO (mm:=1) (news:=[.slice xa x.length xc]) 3 0 zr zr zr zr zr zr zr zr zr zr zr zr (Vw.ag rfl) rfl (by simp[Value.oneCell']) ah (by show(_+1)*24≤_;omega) (fun _=>rfl) bz ?_
  intro v1
  ((refine aJ 3 rfl ?_))
  rintro va vc rfl
  refine go ?_
  refine aj (ao.trans ad (RF lb ts x _ (.slice xa x.length xc) cs M M' hR PM er _)) ?_
  refine fu hY rfl ad ⟨rfl,rfl⟩
 intro l r v H fp
 obtain⟨v',rfl⟩:=fp
 refine⟨_,_,_,rfl,by decide,?_⟩
 rw[hE.1.2,List.take_length,← PN]
 refine aj (ao.pick [2] rfl) ?_
 refine eE (Jk lb rs) ?_
 rintro⟨lv,cs,M⟩ hR
 refine dv 1 rfl ?_
 intro la lc Sc
 simp only at Sc
 subst Sc
 simp only at hR
 refine SE 1 hR rfl ?_
 intro mA
 refine go ?_
 refine bC zr zr bz ?_
 intro jb
 refine go ?_
 have q9:=Ik jb bd name 0 0 0 false A (Sep [aB 22 1 (.slice la rs.length lc) rs.length cs,aV 5 M]) (.slice la rs.length lc) rs mA ah ah IP cF pQ
 refine ai zr zr zr zr q9 (ao.trans ad (ao.cons (aC bd A) (ao.cons (jr jb bd name 0 0 0 false) (ao.bP [aB 22 1 (.slice la rs.length lc) rs.length cs,aV 5 M] _)))) ?_ bG
 rintro _ _⟨e,y,rfl,rfl,R4⟩
 have lW:fH A name=rs:=by rw[PN,hB];rfl
 have lT:nY A name e y.1 ⟨y.2.1,y.2.2.1,y.2.2.2,false⟩:=by
  unfold nY
  rw[if_neg (by simp[h1,h2]),if_neg (by rw[h3];simp),lW]
  exact⟨y,R4,rfl,rfl⟩
 rw[lW]at hE
 refine go ?_
 refine au zr zr ?_ ?_
 ·intro bT
  have fE:e≠0:=by omega
  refine go ?_
  refine qT hE Tryz.func76 rfl _ rfl ⟨e,_,_,lT,.inl ⟨fE,rfl,rfl⟩⟩ ad
 ·intro heq
  have oM:e=0:=by omega
  subst oM
  refine go ?_
  refine aF (fun w=>Sat G w ([ag lb (cl [.slice la rs.length lc] 68)])) (.st 0 (.st 1 (.st 2 (.st 3 (.st 4 .nil))))) rfl ak ak ak ei ?_
  refine go ?_
  refine aj (ao.trans (ao.pick [2] rfl) (ao.cB [aB 22 1 (.slice la rs.length lc) rs.length cs,aV 5 M] _)) ?_
  refine aj (Nv hR _) ?_
  refine qT hE Tryz.func76 rfl _ rfl ⟨0,_,_,lT,.inr ⟨rfl,jb,_,rfl,rfl⟩⟩ ad
end Go.Proofs.YtedjnjkijiddlaaGreatDoor
namespace Go.Proofs.YtedjnjkijiddlaaGreatDoor
open Go Go.SL
theorem qE{nm:ByteArray}(hn:isName nm=true)(at_:Nat)(b:List UInt8)(h:at_+b.length≤1048576):fK nm (at_:Int) b=true:=by
 unfold fK
 rw[hn]
 simp
 omega
theorem Ch{A:Ab}{nm:ByteArray}{C b:List UInt8}{n c:Int}{s:Nat}(h:HA A)(hn:isName nm=true)(hv:vw A nm=some C)(hb:b.length≤4096)(yj:s+(aR b).length≤524288)(hr:A.used+(32+s+(aR b).length)≤A.room) :
  (cT nm A ⟨n,s,c,false⟩ b).1=0∧HA (cT nm A ⟨n,s,c,false⟩ b).2.1∧vw (cT nm A ⟨n,s,c,false⟩ b).2.1=ew (vw A) nm (some (bH C (32+s) (aR b)))∧(cT nm A ⟨n,s,c,false⟩ b).2.1.room=A.room ∧
   (cT nm A ⟨n,s,c,false⟩ b).2.2=⟨n,((s+(aR b).length:Nat):Int),c,false⟩:=by
 have hw:fK nm (32+(s:Int)) (aR b)=true:=by
  have:=qE hn (32+s) (aR b) ah
  simpa using this
 have ht:(32+(s:Int)).toNat=32+s:=by omega
 obtain⟨h0,h1,h2,h3⟩:=h.uj hv (32+s) (aR b) ah (B:=(A.write true nm (32+s) (aR b)).2) (e:=(A.write true nm (32+s) (aR b)).1) rfl
 unfold cT
 simp only[Bool.false_eq_true,if_false]
 rw[if_neg ah,if_neg ah,hw,ht,if_pos h0]
 exact⟨rfl,h1,h2,h3,by simp⟩
theorem B7{A A':Ab}{nm:ByteArray}{C:List UInt8}{n c:Int}{s e:Nat}{x':JN}(h:HA A)(hn:isName nm=true)(hv:vw A nm=some C)(QW:0≤n)(R9:n<1073741824)(hr:A.used+32≤A.room)(hR:jX nm A ⟨n,s,c,false⟩ e A' x') :
  e=0∧HA A'∧(∃C',vw A'=ew (vw A) nm (some C')∧C'.length≤max C.length 32)∧A'.room=A.room∧∃n' c',x'=⟨n',s,c',false⟩∧n≤n'∧n'≤n+1:=by
 unfold jX at hR
 simp only[Bool.false_eq_true,if_false]at hR
 by_cases PK:(s:Int)=c
 ·rw[if_pos PK]at hR
  obtain⟨rfl,rfl,rfl⟩:=hR
  exact⟨rfl,h,⟨C,(Ia hv).symm,Nat.le_max_left _ _⟩,rfl,n,c,rfl,ah,ah⟩
 rw[if_neg PK,if_neg ah]at hR
 obtain⟨y,fm,rfl,rfl⟩:=hR
 obtain⟨e1,x1,⟨⟨BV,yu⟩,h1c⟩,c1⟩:=fm
 rw[hn]at BV yu
 obtain⟨g0,g1,g2,g3⟩:=h.xe hv (B:=x1.1) (e:=e1) (by rw[BV,yu])
 subst g0
 rcases c1 with⟨bT,_⟩|⟨_,e2,x2,⟨⟨KX,vC⟩,h2c⟩,c2⟩
 ·exact absurd rfl bT
 obtain⟨nx,ph⟩:∃nx,nx=n.toNat+1:=⟨_,rfl⟩
 rw[← ph]at KX vC
 have hhl:=fL nx s
 rw[show((s:Int)).toNat=s from by omega]at KX vC
 have hw:fK nm ((nx%2*16:Nat):Int) (bU nx s)=true:=qE hn _ _ ah
 rw[hw]at KX vC
 have hu:x1.1.used=A.used:=by rw[jE g1,jE h,g2];exact wW DT (g2 ▸ g1.Bq) h.Bq
 obtain⟨k0,k1,k2,k3⟩:=g1.uj (nm:=nm) (c:=C) (by rw[g2];exact hv) (nx%2*16) (bU nx s) (by rw[hu,g3];omega) (B:=x2.1) (e:=e2) (by rw[KX,vC])
 subst k0
 rcases c2 with⟨bT,_⟩|⟨_,e3,x3,⟨⟨G6,AO⟩,Yy⟩,c3⟩
 ·exact absurd rfl bT
 rw[hn]at G6 AO
 obtain⟨m0,m1,m2,m3⟩:=k1.xe (nm:=nm) (c:=bH C (nx%2*16) (bU nx s)) (by rw[k2,di]) (B:=x3.1) (e:=e3) (by rw[G6,AO])
 subst m0
 rcases c3 with⟨bT,_⟩|⟨_,e4,x4,⟨FN,Eu⟩,c4⟩
 ·exact absurd rfl bT
 subst FN
 rcases c4 with⟨bT,_⟩|⟨_,he,hy⟩
 ·exact absurd rfl bT
 subst he
 have qZ:x3.2=(n,(s:Int),c):=by rw[Yy,h2c,h1c]
 rw[hy,Eu]
 simp only
 rw[qZ]
 refine⟨trivial,m1,⟨_,by rw[m2,k2,g2],by rw[eP,hhl];omega⟩,by rw[m3,k3,g3],_,_,rfl,ah,ah⟩
theorem xK{A A':Ab}{nm:ByteArray}{e:Nat}{x:JN}(h:HA A)(hn:isName nm=true)(hf:isName (bI nm)=true)(bT:bI nm≠nm)(hv:vw A nm=none)(GP:vw A (bI nm)=none)(hl:A.names.length<200)(hr:A.used+32≤A.room)(hR:nY A nm e A' x) :
  e=0∧HA A'∧vw A'=ew (vw A) nm (some (bX []))∧A'.room=A.room∧x=⟨1,0,0,false⟩∧fH A nm=[]:=by
 have nJ:fH A nm=[]:=by
  have od:A.look nm=none:=by
   unfold vw at hv
   cases hx:A.look nm with
   | none=>rfl
   | some f=>rw[hx]at hv;cases hv
  have vz:(A.read nm 0 (A.size nm).1).1=[]:=by
   unfold Ab.read
   rw[if_neg (by rw[h.on];simp),od]
  unfold fH
  rw[vz]
  rfl
 unfold nY at hR
 rw[if_neg (by rw[hn,hf];simp),if_neg (by rw[h.on];simp),nJ]at hR
 obtain⟨y,fm,rfl,rfl⟩:=hR
 unfold zQ gn at fm
 have ir:(A.size (bI nm)).2=4:=by
  have od:A.look (bI nm)=none:=by
   unfold vw at GP
   cases hx:A.look (bI nm)with
   | none=>rfl
   | some f=>rw[hx]at GP;cases GP
  unfold Ab.size
  rw[od]
 simp only[ir]at fm
 rw[if_neg ah,List.nil_append]at fm
 have eH:(bX []).length=32:=by unfold bX;simp[fL]
 obtain⟨e1,x1,⟨⟨f,h1f,BV,yu⟩,h1c⟩,c1⟩:=fm
 rw[hf]at BV yu
 obtain⟨g0,g1,g2,g3⟩:=h.Jb GP hl h1f (B:=x1.1) (e:=e1) (by rw[BV,yu])
 subst g0
 rcases c1 with⟨fE,_⟩|⟨_,e2,x2,⟨⟨KX,vC⟩,h2c⟩,c2⟩
 ·exact absurd rfl fE
 have hw:fK (bI nm) 0 (bX [])=true:=by
  have:=qE hf 0 (bX []) ah
  simpa using this
 rw[hw]at KX vC
 obtain⟨hu,D9⟩:=h.pt g1 GP g2
 obtain⟨k0,k1,k2,k3⟩:=g1.uj (nm:=bI nm) (c:=[]) (by rw[g2,di]) 0 (bX []) (by rw[hu,g3];simp only[List.length_nil];omega) (B:=x2.1) (e:=e2) (by rw[KX,vC])
 subst k0
 rcases c2 with⟨fE,_⟩|⟨_,e3,x3,⟨⟨G6,AO⟩,Yy⟩,c3⟩
 ·exact absurd rfl fE
 rw[hf]at G6 AO
 have pQ:bH [] 0 (bX [])=bX []:=by unfold bH;simp
 rw[pQ]at k2
 obtain⟨m0,m1,m2,m3⟩:=k1.xe (nm:=bI nm) (c:=bX []) (by rw[k2,di]) (B:=x3.1) (e:=e3) (by rw[G6,AO])
 subst m0
 rcases c3 with⟨fE,_⟩|⟨_,e4,x4,⟨⟨FN,Eu⟩,h4c⟩,c4⟩
 ·exact absurd rfl fE
 have eZ:[bI nm,nm].all isName=true:=by simp[hf,hn]
 rw[eZ]at FN Eu
 obtain⟨p0,p1,p2,p3⟩:=m1.Ig (o:=bI nm) (n:=nm) (c:=bX []) bT (by rw[m2,k2,di]) (by rw[m2,k2,dz _ _ (fun e=>bT e.symm),g2,dz _ _ (fun e=>bT e.symm)];exact hv) (B:=x4.1) (e:=e4) (by rw[FN,Eu])
 subst p0
 rcases c4 with⟨fE,_⟩|⟨_,e5,x5,⟨⟨Rg,Rf⟩,h5c⟩,c5⟩
 ·exact absurd rfl fE
 obtain⟨q0,q1,q2,q3⟩:=p1.xg (B:=x5.1) (e:=e5) (by rw[Rg,Rf])
 subst q0
 rcases c5 with⟨fE,_⟩|⟨_,e6,x6,⟨Yx,Xw⟩,c6⟩
 ·exact absurd rfl fE
 subst Yx
 rcases c6 with⟨fE,_⟩|⟨_,he,hy⟩
 ·exact absurd rfl fE
 subst he
 rw[hy,Xw]
 simp only
 refine⟨trivial,q1,?_,by rw[q3,p3,m3,k3,g3],by simp,nJ⟩
 rw[q2,p2,m2,k2,g2]
 funext m
 unfold ew
 by_cases h1:m=nm
 ·simp[h1]
 ·by_cases h2:m=bI nm
  ·rw[if_neg h1,if_neg h1,if_pos h2,h2];exact GP.symm
  ·simp[h1,h2]
theorem dR:isName cS=true:=by decide +kernel
theorem jw:isName (bI cS)=true:=by decide +kernel
theorem oA:bI cS≠cS:=by decide +kernel
theorem Ot(k:List UInt8):jx k cS=none:=by
 cases h:jx k cS with
 | none=>rfl
 | some d=>exact absurd (qN.1 h).symm (gG k d)
theorem Nx(c:List UInt8):qX cS c=0:=by unfold qX;rw[Ot];rfl
abbrev SJ:=eU × JN
def ec(R:eU→Nat→eU→Prop)(x:SJ)(e:Nat)(y:SJ):Prop:=R x.1 e y.1∧y.2=x.2
def xu(b:List UInt8)(x:SJ)(e:Nat)(y:SJ):Prop:=e=(cT cS x.1.A x.2 b).1∧y=(⟨(cT cS x.1.A x.2 b).2.1,x.1.aY,x.1.brk⟩,(cT cS x.1.A x.2 b).2.2)
def C6(x:SJ)(e:Nat)(y:SJ):Prop:=∃A' x',jX cS x.1.A x.2 e A' x'∧y=(⟨A',x.1.aY,x.1.brk⟩,x')
def jK(b:List UInt8):List (SJ→Nat→SJ→Prop):=[xu b,C6]
theorem zV(c:List UInt8)(a:Nat)(b:List UInt8)(j:Nat)(h1:a≤j)(h2:j<a+b.length):(bH c a b)[j]?=b[j-a]? := by
 unfold bH
 have hl:((c++List.replicate (a+b.length-c.length) (0:UInt8)).take a).length=a:=by rw[List.length_take,List.length_append,List.length_replicate];omega
 simp only
 rw[List.append_assoc,List.getElem?_append_right (by rw[hl];exact h1),hl,List.getElem?_append_left ah]
theorem wO{c:List UInt8}{a:Nat}{b:List UInt8}{j:Nat}{v:UInt8}(hc:c[j]?=some v)(h:j<a∨a+b.length≤j):(bH c a b)[j]?=some v:=by
 unfold bH
 have hj:=(List.getElem?_eq_some_iff.1 hc).1
 have hl:((c++List.replicate (a+b.length-c.length) (0:UInt8)).take a).length=a:=by rw[List.length_take,List.length_append,List.length_replicate];omega
 simp only
 rcases h with h|h
 ·rw[List.append_assoc,List.getElem?_append_left (by rw[hl];exact h),List.getElem?_take,if_pos h,List.getElem?_append_left hj]
  exact hc
 ·rw[List.getElem?_append_right (by rw[List.length_append,hl];exact h),List.getElem?_drop,List.length_append,hl]
  rw[show a+b.length+(j-(a+b.length))=j from by omega,List.getElem?_append_left hj]
  exact hc
structure Mc(x:Bl)(w c:List UInt8)(P:Int→Prop):Prop where
 len:c.length≤w.length
 has:∀k,P k→∀a n,cP x k=some (a,n)→∀j:Nat,a≤j→(j:Int)<a+n→c[j]?=w[j]?
theorem Mc.nil(x:Bl)(w:List UInt8):Mc x w [] (fun _=>False):=⟨Nat.zero_le _,fun k h=>h.elim⟩
theorem iE{x:Bl}{k a n:Int}(h:cP x k=some (a,n)):0≤a∧1≤n∧a+n≤x.size∧0≤k∧k<bO x∧a=k*x.piece∧n=min x.piece (x.size-a)∧bo x=true:=by
 unfold cP at h
 split at h
 ·cases h
 rename_i cW
 obtain⟨hr,h0,h1⟩:=wg (x:=x) (i:=k) ah ah
 injection h with h
 injection h with ha hn
 have PN:=hr
 simp only[bo,decide_eq_true_eq]at PN
 exact⟨ah,ah,ah,ah,ah,ha.symm,by rw[← hn,← ha],hr⟩
theorem Mc.put{x:Bl}{w c:List UInt8}{P:Int→Prop}(h:Mc x w c P)(hw:(w.length:Int)=x.size){i a n:Int}(fW:cP x i=some (a,n)) :
  Mc x w (bH c a.toNat ((w.drop a.toNat).take n.toNat)) (fun k=>P k∨k=i):=by
 obtain⟨h0,h1,h2,h3,h4,h5,h6,hr⟩:=iE fW
 have iD:((w.drop a.toNat).take n.toNat).length=n.toNat:=by rw[List.length_take,List.length_drop];omega
 refine⟨by rw[eP,iD];have:=h.len;omega,fun k hk a' n' hs j pn AK=>?_⟩
 obtain⟨g0,g1,g2,g3,g4,g5,g6,_⟩:=iE hs
 by_cases pV:a≤j∧(j:Int)<a+n
 ·rw[zV _ _ _ _ ah (by rw[iD];omega),List.getElem?_take,if_pos ah,List.getElem?_drop]
  congr 1
  omega
 ·rcases hk with hk|rfl
  ·have hc:=h.has k hk a' n' hs j pn AK
   have hwj:j<w.length:=by omega
   rw[List.getElem?_eq_getElem hwj]at hc ⊢
   exact wO hc (by rw[iD];omega)
  ·rw[fW]at hs
   injection hs with hs
   injection hs with e1 e2
   omega
theorem Mc.full{x:Bl}{w c:List UInt8}{P:Int→Prop}(h:Mc x w c P)(hw:(w.length:Int)=x.size)(hr:bo x=true)(hP:∀k,0≤k→k<bO x→P k):c=w:=by
 have PN:=hr
 simp only[bo,decide_eq_true_eq]at PN
 apply List.ext_getElem?
 intro j
 rcases Nat.lt_or_ge j w.length with hj|hj
 ·obtain⟨k,hk⟩:∃k,k=(j:Int)/x.piece:=⟨_,rfl⟩
  have e1:=Int.mul_ediv_add_emod (j:Int) x.piece
  have e2:=Int.emod_nonneg (j:Int) (b:=x.piece) ah
  have e3:=Int.emod_lt_of_pos (j:Int) (b:=x.piece) ah
  rw[← hk,Int.mul_comm]at e1
  have Se:0≤k:=by rw[hk];exact Int.ediv_nonneg ah ah
  have IT:k<bO x:=by
   unfold bO
   rw[if_pos hr]
   have:=(Int.le_ediv_iff_mul_le (a:=k+1) (b:=x.size+x.piece-1) (c:=x.piece) ah).2 (by rw[Int.add_mul,Int.one_mul];omega)
   omega
  have fW:cP x k=some (k*x.piece,min x.piece (x.size-k*x.piece)):=by unfold cP;rw[if_neg ah]
  exact h.has k (hP k Se IT) _ _ fW j ah ah
 ·rw[List.getElem?_eq_none hj,List.getElem?_eq_none (by have:=h.len;omega)]
theorem sw{x:Bl}{s t:eU}{e:Nat}(h:j8 x s e t):iz 1 s t:=by
 unfold j8 at h
 split at h
 ·exact h.2 ▸ iz.refl _ _
 ·exact nM (fun sp fW A e B hh=>by
   simp only[List.mem_cons,List.not_mem_nil,or_false]at fW
   subst fW
   exact mR hh) h
def SJg(n:Nat)(x y:SJ):Prop:=y.1.A.aq.length≤x.1.A.aq.length+n∧y.1.A.writes.length≤x.1.A.writes.length+n
theorem tK(A:Ab)(nm:ByteArray)(x:JN)(b:List UInt8):(cT nm A x b).2.1.aq.length≤A.aq.length+1∧(cT nm A x b).2.1.writes.length≤A.writes.length+1:=by
 have hw:=km A (fK nm (32+x.s) (aR b)) nm (32+x.s).toNat (aR b)
 obtain⟨h1,h2⟩:=hw
 unfold cT
 split
 ·exact⟨by simp only;omega,by simp only;omega⟩
 split
 ·exact⟨by simp only;omega,by simp only;omega⟩
 split
 ·exact⟨by simp only;omega,by simp only;omega⟩
 split
 ·exact⟨h1,h2⟩
 ·exact⟨h1,h2⟩
theorem CB{A A':Ab}{nm:ByteArray}{x x':JN}{e:Nat}(h:jX nm A x e A' x'):A'.aq.length≤A.aq.length+4∧A'.writes.length≤A.writes.length+4:=by
 unfold jX at h
 split at h
 ·obtain⟨_,rfl,_⟩:=h;omega
 split at h
 ·obtain⟨_,rfl,_⟩:=h;omega
 split at h
 ·obtain⟨_,rfl,_⟩:=h;omega
 obtain⟨y,⟨e1,x1,⟨⟨BV,yu⟩,_⟩,c1⟩,rfl,_⟩:=h
 have g1:=ko A (isName nm) nm
 rw[← yu]at g1
 rcases c1 with⟨_,_,rfl⟩|⟨_,e2,x2,⟨⟨KX,vC⟩,_⟩,c2⟩
 ·obtain⟨a,b⟩:=g1;omega
 have g2:=km x1.1 (fK nm (((x.n.toNat+1)%2*16:Nat):Int) (bU (x.n.toNat+1) x.s.toNat)) nm ((x.n.toNat+1)%2*16) (bU (x.n.toNat+1) x.s.toNat)
 rw[← vC]at g2
 rcases c2 with⟨_,_,rfl⟩|⟨_,e3,x3,⟨⟨G6,AO⟩,_⟩,c3⟩
 ·obtain⟨a,b⟩:=g1;obtain⟨c,d⟩:=g2;omega
 have g3:=ko x2.1 (isName nm) nm
 rw[← AO]at g3
 obtain⟨a,b⟩:=g1
 obtain⟨c,d⟩:=g2
 obtain⟨e',f'⟩:=g3
 rcases c3 with⟨_,_,rfl⟩|⟨_,e4,x4,⟨FN,Eu⟩,c4⟩
 ·omega
 have h41:x4.1=x3.1:=by rw[Eu]
 rcases c4 with⟨_,_,rfl⟩|⟨_,_,rfl⟩
 ·rw[h41];omega
 ·rw[h41];omega
theorem Ay{b:List UInt8}{x y:SJ}{e:Nat}(h:iA (jK b) x e y):SJg 5 x y:=by
 obtain⟨e1,x1,⟨BV,yu⟩,c1⟩:=h
 have g1:=tK x.1.A cS x.2 b
 have Ri:x1.1.A=(cT cS x.1.A x.2 b).2.1:=by rw[yu]
 rw[← Ri]at g1
 obtain⟨a,b⟩:=g1
 rcases c1 with⟨_,_,rfl⟩|⟨_,e2,x2,⟨A',x',hc,h2⟩,c2⟩
 ·exact⟨ah,ah⟩
 have g2:=CB hc
 have h21:x2.1.A=A':=by rw[h2]
 rw[← h21]at g2
 obtain⟨c,d⟩:=g2
 rcases c2 with⟨_,_,rfl⟩|⟨_,_,rfl⟩ <;> exact⟨ah,ah⟩
theorem kK{l:Nms}{nm:ByteArray}{f:Nat}(h:Ab.cG l nm=some f):(nm,f)∈l:=gp (A:=⟨0,[],l,[],[],[],false⟩) h
theorem Qp{l:Nms}(hn:(l.map (·.1)).Nodup)(ho:(l.map (·.2)).Nodup){a b:ByteArray}{f:Nat}(ha:Ab.cG l a=some f)(hb:Ab.cG l b=some f):a=b :=
 HA.Qq (A:=⟨0,l.map fun x=>(x.2,[],[]),l,[],[],[],false⟩) ⟨rfl,rfl,hn,ho,by simpa[Function.comp_def]using ho,fun x hx=>by simp only[List.map_map,Function.comp_def];exact List.mem_map.2 ⟨x,hx,rfl⟩⟩ ha hb
structure Nz(k:Nat)(A:Ab)(N0:Nms):Prop where
 keys:(N0.map (·.1)).Nodup
 own:(N0.map (·.2)).Nodup
 known:∀x∈N0,x.2∈A.fs.map (·.1)
 hold:∀n f,A.look n=some f→Ab.cG N0 n=some f
 more:∀n f,Ab.cG N0 n=some f→A.look n=some f∨(∃d,n=gZ d)∧(A.now f).length≤1000
 YA:N0.length≤k
structure Cd(k:Nat)(A:Ab)(D:Nat→Prop):Prop where
 wr:∀w∈A.writes,D w.1
 cl:∀f∈A.fs.map (·.1),¬D f→(A.file f).2=(A.file f).1
 st:∃N0 rest,A.aq=N0::rest∧Nz k A N0
abbrev Cz(k:Nat)(A:Ab):Prop:=Cd k A (fun _=>False)
theorem Cd.mono{k:Nat}{A:Ab}{D E:Nat→Prop}(h:Cd k A D)(hDE:∀f,D f→E f){j:Nat}(hk:k≤j):Cd j A E :=
  ⟨fun w hw=>hDE _ (h.wr w hw),fun f hf hd=>h.cl f hf (fun x=>hd (hDE f x)),by
    obtain⟨N0,rest,h1,h2⟩:=h.st
    exact⟨N0,rest,h1,⟨h2.keys,h2.own,h2.known,h2.hold,h2.more,by have:=h2.YA;omega⟩⟩⟩
theorem Cd.one{k:Nat}{A:Ab}{D:Nat→Prop}(h:HA A)(hs:A.aq=[A.names])(hw:∀w∈A.writes,D w.1)(hc:∀f∈A.fs.map (·.1),¬D f→(A.file f).2=(A.file f).1)(hk:A.names.length≤k):Cd k A D :=
 ⟨hw,hc,A.names,[],hs,⟨h.keys,h.own,h.known,fun _ _ h=>h,fun _ _ h => .inl h,hk⟩⟩
theorem Cz.new(room:Nat):Cz 0 (Ab.new room):=Cd.one (HA.new room) rfl (fun w h=>by cases h) (fun f h=>by cases h) (Nat.zero_le _)
theorem Cd.file{k:Nat}{A:Ab}{D:Nat→Prop}(h:Cd k A D)(hA:HA A){n:ByteArray}{f:Nat}(hf:A.look n=some f):f∈A.fs.map (·.1):=hA.known _ (gp hf)
theorem Cd.write{k:Nat}{A B:Ab}{D:Nat→Prop}{n:ByteArray}{at_:Nat}{b:List UInt8}(h:Cd k A D)(hA:HA A)(hw:fz n at_ b A 0 B):∃f,A.look n=some f∧B.look n=some f∧Cd k B (fun g=>D g∨g=f):=by
 rcases u9 hw with⟨bT,_⟩|⟨_,f,hf,hn,hs,nc,pQ⟩
 ·exact absurd rfl bT
 have hfm:=h.file hA hf
 have hid:B.fs.map (·.1)=A.fs.map (·.1):=ID nc
 have od:∀m,B.look m=A.look m:=fun m=>by unfold Ab.look;rw[hn]
 obtain⟨N0,rest,h1,h2⟩:=h.st
 refine⟨f,hf,(od n).trans hf,fun w hw=>?_,fun g hg hd=>?_,N0,rest,by rw[hs];exact h1,h2.keys,h2.own,fun x hx=>by rw[hid];exact h2.known x hx,fun m g hg=>h2.hold m g (by rw[← od];exact hg),fun m g hg=>?_,h2.YA⟩
 ·rw[pQ,List.mem_append,List.mem_singleton]at hw
  rcases hw with hw|rfl
  ·exact .inl (h.wr w hw)
  ·exact .inr rfl
 ·rw[hid]at hg
  rw[yA nc hg,if_neg (fun e=>hd (.inr e))]
  exact h.cl g hg (fun x=>hd (.inl x))
 ·rw[od]
  rcases h2.more m g hg with hm|⟨hd,hl⟩
  ·exact .inl hm
  ·by_cases Ec:g=f
   ·left
    have h3:=h2.hold n f hf
    rw[← Ec]at h3 hf
    have:=Qp h2.keys h2.own hg h3
    rw[this];exact hf
   ·right
    refine⟨hd,?_⟩
    unfold Ab.now
    rw[yA nc (h2.known _ (kK hg)),if_neg Ec]
    exact hl
theorem Cd.sync{k:Nat}{A B:Ab}{D:Nat→Prop}{n:ByteArray}(h:Cd k A D)(hA:HA A)(hs:eX n A 0 B):∃f,A.look n=some f∧B.look n=some f∧Cd k B (fun g=>D g∧g≠f):=by
 rcases xd hs with⟨bT,_⟩|⟨_,f,hf,hn,cF,nc,pQ⟩
 ·exact absurd rfl bT
 have hid:B.fs.map (·.1)=A.fs.map (·.1):=D1 nc
 have od:∀m,B.look m=A.look m:=fun m=>by unfold Ab.look;rw[hn]
 obtain⟨N0,rest,h1,h2⟩:=h.st
 refine⟨f,hf,(od n).trans hf,fun w hw=>?_,fun g hg hd=>?_,N0,rest,by rw[cF];exact h1,h2.keys,h2.own,fun x hx=>by rw[hid];exact h2.known x hx,fun m g hg=>h2.hold m g (by rw[← od];exact hg),fun m g hg=>?_,h2.YA⟩
 ·rw[pQ,List.mem_filter]at hw
  exact⟨h.wr w hw.1,by simpa using hw.2⟩
 ·rw[hid]at hg
  rw[uN nc hg]
  by_cases Ec:g=f
  ·rw[if_pos Ec]
  ·rw[if_neg Ec]
   exact h.cl g hg (fun x=>hd ⟨x,Ec⟩)
 ·rw[od]
  rcases h2.more m g hg with hm|⟨hd,hl⟩
  ·exact .inl hm
  ·refine .inr ⟨hd,?_⟩
   unfold Ab.now
   rw[uN nc (h2.known _ (kK hg))]
   split <;> exact hl
theorem Cz.put{k:Nat}{A B C:Ab}{n:ByteArray}{at_:Nat}{b:List UInt8}(h:Cz k A)(hA:HA A)(hB:HA B)(hw:fz n at_ b A 0 B)(hs:eX n B 0 C):Cz k C:=by
 obtain⟨f,h1,h2,h3⟩:=h.write hA hw
 obtain⟨g,h4,h5,h6⟩:=h3.sync hB hs
 rw[h2]at h4
 injection h4 with h4
 exact h6.mono (fun x hx=>by rcases hx with⟨hx|hx,hy⟩;exact hx;exact hy (hx.trans h4)) (Nat.le_refl _)
theorem Cz.V6{k:Nat}{A B:Ab}{n:ByteArray}(h:Cz k A)(hA:HA A)(hs:eX n A 0 B):Cz k B:=by
 obtain⟨g,h4,h5,h6⟩:=h.sync hA hs
 exact h6.mono (fun x hx=>hx.1) (Nat.le_refl _)
theorem Cd.remove{k:Nat}{A B:Ab}{D:Nat→Prop}{d:Dg}{c:List UInt8}(h:Cd k A D)(hA:HA A)(hv:vw A (gZ d)=some c)(hc:c.length≤1000)(hs:iU (gZ d) A 0 B):Cd k B D:=by
 rcases BB hs with⟨bT,_⟩|⟨_,⟨f,hf⟩,hn,cF,nc,pQ,_⟩
 ·exact absurd rfl bT
 have od:∀m,B.look m=if m=gZ d then none else A.look m:=fun m=>by
  unfold Ab.look
  rw[hn,nE]
 obtain⟨N0,rest,h1,h2⟩:=h.st
 refine⟨fun w hw=>h.wr w (pQ ▸ hw),fun g hg hd=>by rw[tG nc];exact h.cl g (nc ▸ hg) hd,N0,rest++[Ab.dx A.names (gZ d)],by rw[cF,h1];rfl,h2.keys,h2.own,fun x hx=>by rw[nc];exact h2.known x hx,fun m g hg=>?_,fun m g hg=>?_,h2.YA⟩
 ·rw[od]at hg
  by_cases hm:m=gZ d
  ·rw[if_pos hm]at hg;cases hg
  ·rw[if_neg hm]at hg;exact h2.hold m g hg
 ·have iZ:B.now g=A.now g:=by unfold Ab.now;rw[tG nc]
  rw[od,iZ]
  rcases h2.more m g hg with hm|hr
  ·by_cases he:m=gZ d
   ·right
    refine⟨⟨d,he⟩,?_⟩
    unfold vw at hv
    rw[← he,hm]at hv
    injection hv with hv
    rw[hv];exact hc
   ·rw[if_neg he];exact .inl hm
  ·exact .inr hr
theorem Cz.dp{k:Nat}{A:Ab}(h:Cz k A)(hA:HA A):HA (A.dp 0 [] (-1) 0)∧Cz k (A.dp 0 [] (-1) 0)∧(A.dp 0 [] (-1) 0).room=A.room∧(A.dp 0 [] (-1) 0).names.length≤k∧(A.dp 0 [] (-1) 0).aq.length=1∧(A.dp 0 [] (-1) 0).writes=[] ∧
  (∀n c,vw A n=some c→vw (A.dp 0 [] (-1) 0) n=some c)∧∀n c,vw (A.dp 0 [] (-1) 0) n=some c→vw A n=some c∨(∃d,n=gZ d)∧c.length≤1000:=by
 obtain⟨N0,rest,h1,h2⟩:=h.st
 have ld:(A.dp 0 [] (-1) 0).names=N0:=by
  simp only[Ab.dp,h1,List.length_cons]
  rw[show(max 0 (min (0:Int) (((rest.length+1:Nat):Int)-1))).toNat=0 by omega]
  rfl
 have cF:(A.dp 0 [] (-1) 0).aq=[(A.dp 0 [] (-1) 0).names]:=rfl
 have Eb:(A.dp 0 [] (-1) 0).fs.map (·.1)=A.fs.map (·.1):=by
  simp only[Ab.dp]
  rw[wk _ _ (fun x=>by split <;> rfl),tq]
 have lW:∀n f,Ab.cG N0 n=some f→(A.dp 0 [] (-1) 0).file f=A.file f:=fun n f hf=>by
  refine(Hg 0 [] (-1) 0 (h2.known _ (kK hf)) ?_).2 ⟨h.cl f (h2.known _ (kK hf)) (fun x=>x),fun w hw=>absurd (h.wr w hw) (fun x=>x)⟩
  unfold Ab.reach
  rw[List.mem_flatMap]
  exact⟨N0,by rw[ld];simp,List.mem_map.2 ⟨_,kK hf,rfl⟩⟩
 have hB:HA (A.dp 0 [] (-1) 0):=⟨rfl,rfl,by rw[ld];exact h2.keys,by rw[ld];exact h2.own,by rw[Eb];exact hA.ids,fun x hx=>by rw[Eb];rw[ld]at hx;exact h2.known x hx⟩
 have od:∀m,(A.dp 0 [] (-1) 0).look m=Ab.cG N0 m:=fun m=>by unfold Ab.look;rw[ld]
 refine⟨hB,Cd.one hB cF (fun w hw=>by cases hw) (fun f hf _=>?_) (by rw[ld];exact h2.YA),rfl,by rw[ld];exact h2.YA,rfl,rfl,fun n c hc=>?_,fun n c hc=>?_⟩
 ·rw[Eb]at hf
  obtain⟨x,hx,hxf⟩:=yy hf
  have hl:Ab.jv [] (-1) 0 0 A.writes A.fs=A.fs:=by
   cases hw:A.writes with
   | nil=>rfl
   | cons w l=>exact absurd (h.wr w (by rw[hw];simp)) (fun x=>x)
  have hc:=h.cl f hf (fun x=>x)
  have hAf:A.file f=x.2:=by unfold Ab.file;rw[hx];rfl
  rw[hAf]at hc
  have:(A.dp 0 [] (-1) 0).file f=x.2:=by
   simp only[Ab.dp,hl]
   unfold Ab.file
   simp only
   rw[kD _ (fun x=>by split <;> rfl),hx]
   simp only[Option.map_some,Option.getD_some]
   split
   ·exact Prod.ext hc rfl
   ·rfl
  rw[this];exact hc
 ·unfold vw at hc ⊢
  rw[od]
  cases hl:A.look n with
  | none=>rw[hl]at hc;cases hc
  | some f =>
   rw[hl]at hc
   have hh:=h2.hold n f hl
   rw[hh]
   rw[← hc]
   simp only[Option.map_some]
   unfold Ab.now
   rw[lW n f hh]
 ·unfold vw at hc ⊢
  rw[od]at hc
  cases hl:Ab.cG N0 n with
  | none=>rw[hl]at hc;cases hc
  | some f =>
   rw[hl]at hc
   simp only[Option.map_some,Option.some.injEq]at hc
   have iZ:(A.dp 0 [] (-1) 0).now f=A.now f:=by unfold Ab.now;rw[lW n f hl]
   rw[iZ]at hc
   rcases h2.more n f hl with hm|⟨hd,hlen⟩
   ·left;rw[hm,← hc];rfl
   ·right;exact⟨hd,by rw[← hc];exact hlen⟩
def n7(name:ByteArray)(A:Ab)(x:JN)(ls:List (List UInt8))(e:Nat)(A':Ab)(x':JN):Prop :=
 if x.br then e=10∧A'=A∧x'=x else if ls.any (fun b=>decide (4096<b.length))then e=1∧A'=A∧x'=x else if 524288<(ls.flatMap aR).length then e=3∧A'=A∧x'=x
 else ∃y:PS,zQ name ls (A,x.n,x.s,x.c) e y∧A'=y.1∧x'=⟨y.2.1,y.2.2.1,y.2.2.2,decide (e≠0)⟩
theorem Qg{l:List (ByteArray × Nat)}{n:ByteArray}{f:Nat}(h1:(l.map (·.1)).Nodup)(h2:(l.map (·.2)).Nodup)(hf:∀x∈l,x.2≠f):((l.map fun x=>if x.1=n then(n,f)else x).map (·.2)).Nodup:=by
 unfold List.Nodup at h1 h2 ⊢
 rw[List.pairwise_map]at h1 h2
 rw[List.pairwise_map,List.pairwise_map]
 refine List.Pairwise.imp_of_mem ?_ (List.Pairwise.and h1 h2)
 intro a b ha hb mD
 by_cases ea:a.1=n
 ·rw[if_pos ea,if_neg (fun e=>mD.1 (ea.trans e.symm))]
  exact fun e=>hf b hb e.symm
 ·rw[if_neg ea]
  by_cases eb:b.1=n
  ·rw[if_pos eb];exact hf a ha
  ·rw[if_neg eb];exact mD.2
theorem MP(l:List (ByteArray × Nat))(n:ByteArray)(f:Nat):(l.map fun x=>if x.1=n then(n,f)else x).map (·.1)=l.map (·.1):=by
 rw[List.map_map]
 refine List.map_congr_left fun x _=>?_
 simp only[Function.comp]
 split
 ·rename_i h;exact h.symm
 ·rfl
theorem HA.Qh{A:Ab}(h:HA A){o n:ByteArray}{c d:List UInt8}(bT:o≠n)(hv:vw A o=some c)(IG:vw A n=some d){e:Nat}{B:Ab}(hB:(e,B)=A.rename true o n) :
    e=0∧HA B∧vw B=ew (ew (vw A) o none) n (some c)∧B.room=A.room:=by
  obtain⟨f,hf,rfl⟩:∃f,A.look o=some f∧A.now f=c:=by
    unfold vw at hv
    cases hx:A.look o with
    | none=>rw[hx]at hv;cases hv
    | some f=>rw[hx]at hv;injection hv with hv;exact⟨f,rfl,hv⟩
  obtain⟨g,hg⟩:∃g,A.look n=some g:=by
    unfold vw at IG
    cases hx:A.look n with
    | none=>rw[hx]at IG;cases IG
    | some g=>exact⟨g,rfl⟩
  have N8:Ab.cG (Ab.dx A.names o) n=some g:=by
    rw[nE,if_neg (fun e=>bT e.symm)]
    exact hg
  obtain⟨N,hN⟩:∃N,N=(Ab.dx A.names o).map (fun x=>if x.1=n then(n,f)else x):=⟨_,rfl⟩
  have gY:Ab.jH (Ab.dx A.names o) n f=N:=by
    unfold Ab.jH
    rw[N8,hN];simp
  have hc:A.rename true o n=(0,A.mV N):=by
    unfold Ab.rename
    rw[h.find,hf]
    show(0,A.mV (Ab.jH (Ab.dx A.names o) n f))=_
    rw[gY]
  rw[hc]at hB
  injection hB with h1 h2
  subst h1 h2
  have er:∀x∈Ab.dx A.names o,x∈A.names∧x.1≠o:=fun x hx=>by
    obtain⟨h1,h2⟩:=List.mem_filter.1 hx
    exact⟨h1,by simpa using h2⟩
  have zI:((Ab.dx A.names o).map (·.1)).Nodup:=(List.filter_sublist.map _).nodup h.keys
  have yf:((Ab.dx A.names o).map (·.2)).Nodup:=(List.filter_sublist.map _).nodup h.own
  have hnf:∀x∈Ab.dx A.names o,x.2≠f:=fun x hx e=>by
    have h3:=fe h.keys (er x hx).1
    rw[e]at h3
    exact(er x hx).2 (h.Qq h3 hf)
  have hkN:(N.map (·.1)).Nodup:=by rw[hN,MP];exact zI
  have fg:∀x∈N,x=(n,f)∨(x∈Ab.dx A.names o∧x.1≠n):=fun x hx=>by
    rw[hN]at hx
    obtain⟨y,hy,rfl⟩:=List.mem_map.1 hx
    split
    · exact .inl rfl
    · rename_i GN;exact .inr ⟨hy,GN⟩
  have hH:HA (A.mV N):=⟨h.ef,h.on,hkN,by show(N.map (·.2)).Nodup;rw[hN];exact Qg zI yf hnf,h.ids,fun x hx=>by
    rcases fg x hx with rfl|⟨hx,_⟩
    · exact h.known (o,f) (gp hf)
    · exact h.known x (er x hx).1⟩
  refine⟨rfl,hH,funext fun m=>?_,rfl⟩
  have aaA:(A.mV N).look m=if m=n then some f else if m=o then none else A.look m:=by
    have pV:∀x∈N,(A.mV N).look x.1=some x.2:=fun x hx=>fe (A:=A.mV N) hkN hx
    by_cases hm:m=n
    · rw[if_pos hm,hm]
      refine pV (n,f) ?_
      rw[hN]
      refine List.mem_map.2 ⟨(n,g),?_,if_pos rfl⟩
      exact gp (A:=A.mV (Ab.dx A.names o)) N8
    · rw[if_neg hm]
      have hd:Ab.cG (Ab.dx A.names o) m=if m=o then none else A.look m:=nE A.names o m
      rw[← hd]
      cases hx:Ab.cG (Ab.dx A.names o) m with
      | some k =>
        refine pV (m,k) ?_
        rw[hN]
        exact List.mem_map.2 ⟨(m,k),gp (A:=A.mV (Ab.dx A.names o)) hx,if_neg hm⟩
      | none =>
        cases hy:(A.mV N).look m with
        | none=>rfl
        | some k =>
          rcases fg _ (gp hy)with he|⟨acR,_⟩
          · injection he with he _;exact absurd he hm
          · have:=fe (A:=A.mV (Ab.dx A.names o)) zI acR
            have h2:(A.mV (Ab.dx A.names o)).look m=none:=hx
            simp only at this
            rw[h2]at this
            cases this
  unfold vw ew
  rw[aaA]
  by_cases hm:m=n
  · rw[if_pos hm,if_pos hm];rfl
  · rw[if_neg hm,if_neg hm]
    by_cases ho:m=o
    · rw[if_pos ho,if_pos ho];rfl
    · rw[if_neg ho,if_neg ho];rfl
theorem As{A:Ab}{nm:ByteArray}{ls:List (List UInt8)}{e:Nat}{n s c:Int}{y:PS}(h:HA A)(hn:isName nm=true)(hf:isName (bI nm)=true)(bT:bI nm≠nm)(GP:vw A (bI nm)=none)(hl:A.names.length<200)(AF:(bX ls).length≤1048576)(hr:A.used+(bX ls).length≤A.room)(hR:zQ nm ls (A,n,s,c) e y) :
  e=0∧HA y.1∧vw y.1=ew (vw A) nm (some (bX ls))∧y.1.room=A.room∧y.2=(1,((ls.flatMap aR).length:Int),((ls.flatMap aR).length:Int)):=by
 unfold zQ gn at hR
 have ir:(A.size (bI nm)).2=4:=by
  have od:A.look (bI nm)=none:=by
   unfold vw at GP
   cases hx:A.look (bI nm)with
   | none=>rfl
   | some f=>rw[hx]at GP;cases GP
  unfold Ab.size
  rw[od]
 simp only[ir]at hR
 rw[if_neg ah,List.nil_append]at hR
 obtain⟨e1,x1,⟨⟨f,h1f,BV,yu⟩,h1c⟩,c1⟩:=hR
 rw[hf]at BV yu
 obtain⟨g0,g1,g2,g3⟩:=h.Jb GP hl h1f (B:=x1.1) (e:=e1) (by rw[BV,yu])
 subst g0
 rcases c1 with⟨fE,_⟩|⟨_,e2,x2,⟨⟨KX,vC⟩,h2c⟩,c2⟩
 ·exact absurd rfl fE
 have hw:fK (bI nm) 0 (bX ls)=true:=by
  have:=qE hf 0 (bX ls) ah
  simpa using this
 rw[hw]at KX vC
 obtain⟨hu,D9⟩:=h.pt g1 GP g2
 obtain⟨k0,k1,k2,k3⟩:=g1.uj (nm:=bI nm) (c:=[]) (by rw[g2,di]) 0 (bX ls) (by rw[hu,g3];simp only[List.length_nil];omega) (B:=x2.1) (e:=e2) (by rw[KX,vC])
 subst k0
 rcases c2 with⟨fE,_⟩|⟨_,e3,x3,⟨⟨G6,AO⟩,Yy⟩,c3⟩
 ·exact absurd rfl fE
 rw[hf]at G6 AO
 have pQ:bH [] 0 (bX ls)=bX ls:=by unfold bH;simp
 rw[pQ]at k2
 obtain⟨m0,m1,m2,m3⟩:=k1.xe (nm:=bI nm) (c:=bX ls) (by rw[k2,di]) (B:=x3.1) (e:=e3) (by rw[G6,AO])
 subst m0
 rcases c3 with⟨fE,_⟩|⟨_,e4,x4,⟨⟨FN,Eu⟩,h4c⟩,c4⟩
 ·exact absurd rfl fE
 have eZ:[bI nm,nm].all isName=true:=by simp[hf,hn]
 rw[eZ]at FN Eu
 have hvo:vw x3.1 (bI nm)=some (bX ls):=by rw[m2,k2,di]
 have IG:vw x3.1 nm=vw A nm:=by rw[m2,k2,dz _ _ (fun e=>bT e.symm),g2,dz _ _ (fun e=>bT e.symm)]
 obtain⟨p0,p1,p2,p3⟩:e4=0∧HA x4.1∧vw x4.1=ew (ew (vw x3.1) (bI nm) none) nm (some (bX ls))∧x4.1.room=x3.1.room:=by
  cases hd:vw A nm with
  | none=>exact m1.Ig bT hvo (by rw[IG,hd]) (B:=x4.1) (e:=e4) (by rw[FN,Eu])
  | some d=>exact m1.Qh bT hvo (by rw[IG,hd]) (B:=x4.1) (e:=e4) (by rw[FN,Eu])
 subst p0
 rcases c4 with⟨fE,_⟩|⟨_,e5,x5,⟨⟨Rg,Rf⟩,h5c⟩,c5⟩
 ·exact absurd rfl fE
 obtain⟨q0,q1,q2,q3⟩:=p1.xg (B:=x5.1) (e:=e5) (by rw[Rg,Rf])
 subst q0
 rcases c5 with⟨fE,_⟩|⟨_,e6,x6,⟨Yx,Xw⟩,c6⟩
 ·exact absurd rfl fE
 subst Yx
 rcases c6 with⟨fE,_⟩|⟨_,he,hy⟩
 ·exact absurd rfl fE
 subst he
 rw[hy,Xw]
 simp only
 refine⟨trivial,q1,?_,by rw[q3,p3,m3,k3,g3],trivial⟩
 rw[q2,p2,m2,k2,g2]
 funext m
 unfold ew
 by_cases h1:m=nm
 ·simp[h1]
 ·by_cases h2:m=bI nm
  ·rw[if_neg h1,if_neg h1,if_pos h2,h2];exact GP.symm
  ·simp[h1,h2]
theorem CU{n:Nat}(h:n<128):cX [UInt8.ofNat n]=some n:=by
 have:=um (n:=n) ah
 rwa[fO h]at this
theorem F0{c:UInt8}(h:¬c.toNat<128):cX [c]=none:=by
 unfold cX dg
 simp[nT,h]
theorem Kk{x:List UInt8}(hx:x.length≤4096)(rest:List UInt8):lQ (aR x++rest)=some ((uv x.length).length,x.length):=by
 unfold lQ aR
 have hp:=FW x.length
 rw[if_pos (by simp only[List.length_append];omega)]
 by_cases h:x.length<128
 ·rw[fO h]
  simp only[List.cons_append,List.nil_append,List.take_succ_cons,List.take_zero,CU h,List.length_singleton]
 ·have h2:uv x.length=[UInt8.ofNat (x.length%128+128),UInt8.ofNat (x.length/128)]:=by rw[wR h,fO ah]
  have hu:=um (n:=x.length) ah
  rw[h2]at hu ⊢
  have e:(UInt8.ofNat (x.length%128+128)).toNat=x.length%128+128:=by simp only[UInt8.toNat_ofNat'];omega
  simp only[List.cons_append,List.nil_append,List.take_succ_cons,List.take_zero]
  rw[F0 (by rw[e];omega)]
  simp only[List.length_cons]
  rw[if_pos ah,hu]
  rfl
theorem pD:∀(ls:List (List UInt8)),(∀x∈ls,x.length≤4096)→bY (ls.flatMap aR)=ls
 | [],_=>by
  refine rp ?_
  unfold lQ
  simp
 | x::ls,h=>by
  have hx:=h x (List.mem_cons_self ..)
  have hl:=Kk hx (ls.flatMap aR)
  have W8:(aR x).length=(uv x.length).length+x.length:=by simp[aR]
  rw[List.flatMap_cons,rq hl ⟨hx,by rw[List.length_append,W8];omega⟩]
  congr 1
  ·unfold aR
   rw[List.append_assoc,List.drop_left,List.take_left]
  ·rw[← W8,List.drop_left,pD ls (fun y hy=>h y (List.mem_cons_of_mem _ hy))]
theorem tp{n m:Nat}(hn:n<4294967296)(hm:m<4294967296):oH (bU n m)=n∧oH ((bU n m).drop 4)=m:=by
 unfold bU
 rw[List.append_assoc]
 refine⟨Iy n hn _,?_⟩
 rw[show(vr n++(vr m++(vr n++vr m))).drop 4=vr m++(vr n++vr m)from rfl]
 exact Iy m hm _
theorem KN{C:List UInt8}{k last n m:Nat}(h:(C.drop (16*k)).take 16=bU n m)(hn:n<4294967296)(hm:m<4294967296):k6 C k last=decide (last<n∧n≤1073741824∧n%2=k∧m+32≤C.length):=by
 unfold k6
 rw[h]
 simp only[(tp hn hm).1,(tp hn hm).2,and_true]
theorem Ej{C:List UInt8}{k last:Nat}(h:(C.drop (16*k)).take 16=List.replicate 16 0):k6 C k last=false:=by
 unfold k6
 rw[h]
 have:oH (List.replicate 16 0)=0:=by decide
 simp only[this]
 exact decide_eq_false (fun hh=>by have:=hh.1;omega)
theorem ki{C:List UInt8}{k n m:Nat}{s:Nat × Nat}(h:(C.drop (16*k)).take 16=bU n m)(hn:n<4294967296)(hm:m<4294967296):eY C k s=if s.1<n∧n≤1073741824∧n%2=k∧m+32≤C.length then(n,m)else s:=by
 unfold eY
 rw[KN h hn hm,h,(tp hn hm).1,(tp hn hm).2]
 by_cases hc:s.1<n∧n≤1073741824∧n%2=k∧m+32≤C.length
 ·rw[if_pos hc,if_pos (decide_eq_true hc)]
 ·rw[if_neg hc,if_neg (by rw[decide_eq_false hc];simp)]
theorem vv{C:List UInt8}{k:Nat}{s:Nat × Nat}(h:(C.drop (16*k)).take 16=List.replicate 16 0):eY C k s=s:=by
 unfold eY
 rw[Ej h];simp
theorem abi(a b c:List UInt8)(ha:a.length=16)(hb:b.length=16):((a++b++c).drop (16*0)).take 16=a∧((a++b++c).drop (16*1)).take 16=b∧(a++b++c).drop 32=c:=by
 have Ss:(a++b).length=32:=by rw[List.length_append];omega
 refine⟨?_,?_,?_⟩
 ·rw[List.append_assoc,Nat.mul_zero,List.drop_zero,← ha,List.take_left]
 ·rw[List.append_assoc,show 16*1=a.length from by omega,List.drop_left,← hb,List.take_left]
 ·rw[← Ss,List.drop_left]
theorem FR(C b:List UInt8):bH C C.length b=C++b:=by
 unfold bH
 rw[show C.length+b.length-C.length=b.length from by omega]
 simp
theorem CO(a h r:List UInt8)(hl:h.length=a.length):bH (a++r) 0 h=h++r:=by
 unfold bH
 rw[show 0+h.length-(a++r).length=0 from by rw[List.length_append];omega]
 simp only[List.replicate_zero,List.append_nil,List.take_zero,List.nil_append,Nat.zero_add]
 rw[hl,List.drop_left]
def NG(m:Nat)(body:List UInt8):List UInt8:=List.replicate 16 0++bU 1 m++body
theorem Kn(m:Nat)(body:List UInt8):(NG m body).length=32+body.length:=by
 unfold NG;simp only[List.length_append,List.length_replicate,fL]
theorem FV(ls:List (List UInt8)):bX ls=NG (ls.flatMap aR).length (ls.flatMap aR):=rfl
structure Fl(A:Ab)(D:Nat→Prop):Prop where
 wr:∀w∈A.writes,D w.1
 cl:∀f∈A.fs.map (·.1),¬D f→(A.file f).2=(A.file f).1
theorem Cd.fl{k:Nat}{A:Ab}{D:Nat→Prop}(h:Cd k A D):Fl A D:=⟨h.wr,h.cl⟩
theorem Fl.none{A:Ab}{f:Nat}(h:Fl A (fun g=>(False∨g=f)∧g≠f)):Fl A (fun _=>False) :=
 ⟨fun w hw=>by rcases h.wr w hw with⟨hx|hx,hy⟩;exact hx;exact hy hx,fun g hg hd=>h.cl g hg (fun x=>by rcases x with⟨hx|hx,hy⟩;exact hx;exact hy hx)⟩
theorem Fl.create{A B:Ab}{D:Nat→Prop}{n:ByteArray}(h:Fl A D)(hs:ij n A 0 B):∃f,B.look n=some f∧Fl B D:=by
 rcases B5 hs with⟨bT,_⟩|⟨_,iZ,f,hf,hn,cF,nc,pQ⟩
 ·exact absurd rfl bT
 refine⟨f,?_,fun w hw=>h.wr w (pQ ▸ hw),fun g hg hd=>?_⟩
 ·unfold Ab.look at iZ ⊢
  rw[hn,GG,iZ]
  simp
 ·rw[OB nc]
  split
  ·rfl
  ·rename_i Ec
   rw[QG nc]at hg
   rcases List.mem_cons.1 hg with e|hg
   ·exact absurd e.symm Ec
   ·exact h.cl g hg hd
theorem Fl.write{A B:Ab}{D:Nat→Prop}{n:ByteArray}{at_:Nat}{b:List UInt8}(h:Fl A D)(hw:fz n at_ b A 0 B):∃f,A.look n=some f∧B.look n=some f∧B.names=A.names∧B.aq=A.aq∧Fl B (fun g=>D g∨g=f):=by
 rcases u9 hw with⟨bT,_⟩|⟨_,f,hf,hn,hs,nc,pQ⟩
 ·exact absurd rfl bT
 refine⟨f,hf,by unfold Ab.look at hf ⊢;rw[hn];exact hf,hn,hs,fun w hw=>?_,fun g hg hd=>?_⟩
 ·rw[pQ,List.mem_append,List.mem_singleton]at hw
  rcases hw with hw|rfl
  ·exact .inl (h.wr w hw)
  ·exact .inr rfl
 ·rw[ID nc]at hg
  rw[yA nc hg,if_neg (fun e=>hd (.inr e))]
  exact h.cl g hg (fun x=>hd (.inl x))
theorem Fl.sync{A B:Ab}{D:Nat→Prop}{n:ByteArray}(h:Fl A D)(hs:eX n A 0 B):∃f,A.look n=some f∧B.names=A.names∧B.aq=A.aq∧Fl B (fun g=>D g∧g≠f):=by
 rcases xd hs with⟨bT,_⟩|⟨_,f,hf,hn,cF,nc,pQ⟩
 ·exact absurd rfl bT
 refine⟨f,hf,hn,cF,fun w hw=>?_,fun g hg hd=>?_⟩
 ·rw[pQ,List.mem_filter]at hw
  exact⟨h.wr w hw.1,by simpa using hw.2⟩
 ·rw[D1 nc]at hg
  rw[uN nc hg]
  by_cases Ec:g=f
  ·rw[if_pos Ec]
  ·rw[if_neg Ec];exact h.cl g hg (fun x=>hd ⟨x,Ec⟩)
theorem Fl.aab{A B:Ab}{D:Nat→Prop}(h:Fl A D)(hf:B.fs=A.fs)(hw:B.writes=A.writes):Fl B D:=⟨fun w hm=>h.wr w (hw ▸ hm),fun f hm hd=>by rw[tG hf];exact h.cl f (hf ▸ hm) hd⟩
theorem Fl.rename{A B:Ab}{D:Nat→Prop}{o n:ByteArray}(h:Fl A D)(hs:kH o n A 0 B):Fl B D:=by
 rcases BA hs with⟨bT,_⟩|⟨_,f,hf,hn,cF,nc,pQ⟩
 ·exact absurd rfl bT
 ·exact h.aab nc pQ
theorem Fl.names{A B:Ab}(h:Fl A (fun _=>False))(hB:HA B)(hs:dE A 0 B){k:Nat}(hk:B.names.length≤k):Cz k B:=by
 rcases vL hs with⟨bT,_⟩|⟨_,hn,cF,nc,pQ⟩
 ·exact absurd rfl bT
 have h2:=h.aab nc pQ
 exact Cd.one hB (by rw[cF,hn]) h2.wr h2.cl hk
theorem Fl.put{A B C:Ab}{n:ByteArray}{at_:Nat}{b:List UInt8}(h:Fl A (fun _=>False))(hw:fz n at_ b A 0 B)(hs:eX n B 0 C):Fl C (fun _=>False):=by
 obtain⟨f,h1,h2,_,_,h3⟩:=h.write hw
 obtain⟨g,h4,_,_,h6⟩:=h3.sync hs
 rw[h2]at h4
 injection h4 with h4
 subst h4
 exact Fl.none h6
theorem Cz.begin{k:Nat}{q:Int}{x:Bl}{s t:eU}{e:Nat}(h:Cz k s.A)(hA:HA s.A)(hb:s.brk=false)(hn:s.A.names.length<k)(hk:k≤200)(hR:dJ q x s e t):Cz k t.A:=by
 unfold dJ at hR
 rw[if_neg (by rw[hb];simp)]at hR
 split at hR
 ·rw[hR.2];exact h
 split at hR
 ·rw[hR.2];exact h
 split at hR
 ·rw[hR.2];exact h
 split at hR
 ·rw[hR.2];exact h
 rename_i hS
 rw[mQ]at hS
 have hv:vw s.A (fS x)=none:=by
  cases hx:vw s.A (fS x)with
  | none=>rfl
  | some c=>rw[hx]at hS;exact absurd rfl hS
 obtain⟨e1,s1,⟨B,⟨e2,A2,KR,mC⟩,rfl⟩,hc⟩:=hR
 have ac7:=KR
 obtain⟨f,hf,KR⟩:=KR
 rw[gq]at KR
 obtain⟨rfl,h2,uh,rf,zt⟩:=hA.create hv ah hf KR
 obtain⟨_,_,nJ⟩:=h.fl.create ac7
 rcases mC with⟨bT,_⟩|⟨_,e3,A3,Wu,Xi⟩
 ·exact absurd rfl bT
 obtain⟨rfl,h3,hv3,KF,Yc⟩:=h2.cf Wu
 rcases Xi with⟨bT,_⟩|⟨_,rfl,rfl⟩
 ·exact absurd rfl bT
 rcases hc with⟨bT,_⟩|⟨_,rfl,rfl⟩
 ·exact absurd rfl bT
 exact nJ.names h3 Wu (by rw[KF,rf];omega)
theorem Cz.abR{k:Nat}{x:Bl}{i:Int}{b:List UInt8}{s t u:eU}{e:Nat}(h:Cz k s.A)(hA:HA s.A)(hB:HA t.A)(hR:mF x i b s 0 t)(hS:j8 x t 0 u):Cz k u.A:=by
 unfold mF at hR
 split at hR
 ·exact absurd hR.1.symm (by assumption)
 split at hR
 ·cases hR.1
 split at hR
 ·cases hR.1
 obtain⟨B,⟨e1,A1,hw,hc⟩,rfl⟩:=hR
 unfold j8 at hS
 split at hS
 ·exact absurd hS.1.symm (by assumption)
 obtain⟨C,⟨e2,A2,hs,mC⟩,rfl⟩:=hS
 rcases hc with⟨bT,h0,_⟩|⟨h0,_,rfl⟩
 ·exact absurd h0.symm bT
 rcases mC with⟨bT,h02,_⟩|⟨h02,_,rfl⟩
 ·exact absurd h02.symm bT
 subst h0 h02
 exact h.put hA hB hw hs
theorem Cz.OY{k:Nat}{x:Bl}{c:List UInt8}{s t:eU}(h:Cz k s.A)(hA:HA s.A)(hv:vw s.A (gZ x.d)=some c)(hc:c.length≤1000)(hR:gN x s 0 t):Cz k t.A:=by
 unfold gN at hR
 split at hR
 ·exact absurd hR.1.symm (by assumption)
 obtain⟨s1,⟨B,⟨e1,A1,hw,FL⟩,rfl⟩,ht⟩:=hR
 rw[if_neg (by simp)]at ht
 rcases FL with⟨bT,h0,_⟩|⟨h0,_,rfl⟩
 ·exact absurd h0.symm bT
 subst h0 ht
 exact h.remove hA hv hc hw
theorem Cz.NI{k:Nat}{x:Bl}{c:List UInt8}{s t:eU}{e:Nat}(h:Cz k s.A)(hA:HA s.A)(hb:s.brk=false)(ho:gz s.aY x.d=some x)(hv:vw s.A (gZ x.d)=some c)(hc:c.length≤1000)(iZ:vw s.A (fB x)=none)(hn:s.A.names.length<k)(hR:dI x s e t):Cz k t.A:=by
 cases hw:dP x c with
 | false =>
  have hm:iV s x=0:=by unfold iV tj;simp[hb,ho]
  unfold dI at hR
  rw[hm,if_neg (by simp),nV hA,show vw s.A (fS x)=some c from hv,if_pos (by exact hw)]at hR
  obtain⟨e1,mD,he⟩:=hR
  obtain⟨rfl,_⟩:=uf hA hb ho hv mD
  exact h.OY hA hv hc mD
 | true =>
  obtain⟨A,aY,brk⟩:=s
  simp only at h hA hb ho hv iZ hn
  subst hb
  have hm:iV ⟨A,aY,false⟩ x=0:=by unfold iV tj;simp[ho]
  unfold dI at hR
  rw[hm,if_neg (by simp),nV hA,show vw A (fS x)=some c from hv,if_neg (by show ¬dP x c=false;rw[hw];simp)]at hR
  obtain⟨s1,⟨B,⟨e1,A1,h1,FL⟩,rfl⟩,ht⟩:=hR
  have h10:=h1
  unfold eX at h1
  rw[gq]at h1
  obtain⟨rfl,g1,v1,l1,r1⟩:=hA.sync hv h1
  have z1:=h.V6 hA h10
  rcases FL with⟨bT,_⟩|⟨_,e2,A2,h2,mC⟩
  ·exact absurd rfl bT
  have h20:=h2
  unfold kH at h2
  rw[show [fS x,fB x].all isName=true from by simp[gq,AD]]at h2
  obtain⟨rfl,g2,v2,r2,f,_,l2⟩:=g1.rename (EA x x) ((v1 _).trans hv) ((v1 _).trans iZ) h2
  have z2:=z1.fl.rename h20
  rcases mC with⟨bT,_⟩|⟨_,e3,A3,h3,Xi⟩
  ·exact absurd rfl bT
  obtain⟨rfl,g3,v3,l3,r3⟩:=g2.cf h3
  rcases Xi with⟨bT,_⟩|⟨_,rfl,rfl⟩
  ·exact absurd rfl bT
  rw[if_neg (by simp)]at ht
  subst ht
  refine z2.names g3 h3 ?_
  have:(Ab.dx A1.names (fS x)).length≤A1.names.length:=List.length_filter_le _ _
  rw[l3,l2,List.length_append,List.length_singleton]
  rw[l1]at this ⊢
  omega
def JC(C:List UInt8)(n:Nat)(ls:List (List UInt8)):Prop :=
  ∃h0 h1:List UInt8,C=h0++h1++ls.flatMap aR∧h0.length=16∧h1.length=16∧1≤n ∧
    (if n%2=1 then h1=bU n (ls.flatMap aR).length∧(h0=List.replicate 16 0∨∃s,s≤(ls.flatMap aR).length∧h0=bU (n-1) s)
     else h0=bU n (ls.flatMap aR).length∧(h1=List.replicate 16 0∨∃s,s≤(ls.flatMap aR).length∧h1=bU (n-1) s))
theorem JC.len{C:List UInt8}{n:Nat}{ls:List (List UInt8)}(h:JC C n ls):C.length=32+(ls.flatMap aR).length:=by
 obtain⟨h0,h1,rfl,l0,l1,_⟩:=h
 simp only[List.length_append];omega
theorem JC.whole(ls:List (List UInt8)):JC (bX ls) 1 ls:=⟨List.replicate 16 0,bU 1 (ls.flatMap aR).length,rfl,by simp,fL _ _,ah,by rw[if_pos rfl];exact⟨rfl,.inl rfl⟩⟩
theorem JC.found{C:List UInt8}{n:Nat}{ls:List (List UInt8)}(h:JC C n ls)(hn:n≤1073741824)(hs:(ls.flatMap aR).length<4294967296):e8 C=ls.flatMap aR:=by
 have hlen:=h.len
 obtain⟨h0,h1,rfl,l0,l1,h1n,hc⟩:=h
 obtain⟨k0,k1,k2⟩:=abi h0 h1 (ls.flatMap aR) l0 l1
 unfold e8
 rw[if_neg ah,k2]
 have key:(eY (h0++h1++ls.flatMap aR) 1 (eY (h0++h1++ls.flatMap aR) 0 (0,0))).2=(ls.flatMap aR).length:=by
  by_cases hp:n%2=1
  ·rw[if_pos hp]at hc
   obtain⟨rfl,rfl|⟨s,gb,rfl⟩⟩:=hc
   ·rw[vv k0,ki k1 ah hs,if_pos ⟨by simp only;omega,hn,hp,ah⟩]
   ·rw[ki k0 ah ah]
    split
    ·rw[ki k1 ah hs,if_pos ⟨by simp only;omega,hn,hp,ah⟩]
    ·rw[ki k1 ah hs,if_pos ⟨by simp only;omega,hn,hp,ah⟩]
  ·rw[if_neg hp]at hc
   obtain⟨rfl,rfl|⟨s,gb,rfl⟩⟩:=hc
   ·rw[ki k0 ah hs,if_pos ⟨by simp only;omega,hn,ah,ah⟩,vv k1]
   ·rw[ki k0 ah hs,if_pos ⟨by simp only;omega,hn,ah,ah⟩,ki k1 ah ah,if_neg (by intro h;have:=h.1;simp only at this;omega)]
 rw[key,List.take_length]
theorem Bh(a h h' r:List UInt8)(hl:h'.length=h.length):bH (a++h++r) a.length h'=a++h'++r:=by
 unfold bH
 rw[show a.length+h'.length-(a++h++r).length=0 from by simp only[List.length_append];omega]
 simp only[List.replicate_zero,List.append_nil]
 rw[show(a++h++r).take a.length=a from by rw[List.append_assoc,List.take_left],hl,show a.length+h.length=(a++h).length from by simp,List.drop_left]
theorem JC.add{C:List UInt8}{n:Nat}{ls:List (List UInt8)}(h:JC C n ls)(b:List UInt8):JC (bH (bH C (32+(ls.flatMap aR).length) (aR b)) ((n+1)%2*16) (bU (n+1) ((ls.flatMap aR).length+(aR b).length))) (n+1) (ls++[b]):=by
 have hlen:=h.len
 rw[← hlen,FR]
 obtain⟨h0,h1,rfl,l0,l1,h1n,hc⟩:=h
 have hf:(ls++[b]).flatMap aR=ls.flatMap aR++aR b:=by simp
 have nJ:((ls++[b]).flatMap aR).length=(ls.flatMap aR).length+(aR b).length:=by rw[hf,List.length_append]
 by_cases hp:n%2=1
 ·rw[if_pos hp]at hc
  have vO:(n+1)%2=0:=by omega
  rw[vO,Nat.zero_mul,← nJ,List.append_assoc,List.append_assoc,CO h0 _ _ (by rw[fL,l0])]
  refine⟨bU (n+1) ((ls++[b]).flatMap aR).length,h1,by simp only[hf,List.append_assoc],fL _ _,l1,ah,?_⟩
  rw[if_neg ah]
  exact⟨rfl,.inr ⟨(ls.flatMap aR).length,by rw[nJ];omega,by rw[hc.1,Nat.add_sub_cancel]⟩⟩
 ·rw[if_neg hp]at hc
  have vO:(n+1)%2=1:=by omega
  rw[vO,Nat.one_mul,← nJ,List.append_assoc (h0++h1),← l0,Bh h0 h1 _ _ (by rw[fL,l1])]
  refine⟨h0,bU (n+1) ((ls++[b]).flatMap aR).length,by simp only[hf,List.append_assoc],l0,fL _ _,ah,?_⟩
  rw[if_pos vO]
  exact⟨rfl,.inr ⟨(ls.flatMap aR).length,by rw[nJ];omega,by rw[hc.1,Nat.add_sub_cancel]⟩⟩
theorem CP{A B:Ab}(h:HA A)(h':HA B){k:ByteArray}{c c':List UInt8}(hk:vw A k=some c)(hv:vw B=ew (vw A) k (some c')):B.used+c.length=A.used+c'.length:=by
 rw[jE h,jE h',hv]
 exact P7 DT h.Bq (hv ▸ h'.Bq) hk
theorem z6{A B:Ab}(h:HA A)(h':HA B)(hv:vw B=vw A):B.used=A.used:=by
 rw[jE h,jE h',hv]
 exact wW DT (hv ▸ h'.Bq) h.Bq
theorem Gw{k n:Nat}{A:Ab}{aY:List (Dg × Bl)}{brk:Bool}{C b:List UInt8}{ls:List (List UInt8)}{s:Int}{y:SJ}{e:Nat}(h:HA A)(hz:Cz k A)(hv:vw A cS=some C)(hj:JC C n ls)(hs:s=((ls.flatMap aR).length:Int))(hb:b.length≤4096)(yj:(ls.flatMap aR).length+(aR b).length≤524288)(R9:n<1073741824)(hr:A.used+(64+(ls.flatMap aR).length+(aR b).length)≤A.room)(hR:iA (jK b) (⟨A,aY,brk⟩,⟨n,s,s,false⟩) e y) :
  e=0∧HA y.1.A∧Cz k y.1.A∧(∃C',vw y.1.A=ew (vw A) cS (some C')∧JC C' (n+1) (ls++[b]))∧y.1.A.room=A.room∧y.1.aY=aY∧y.1.brk=brk∧y.2=⟨((n+1:Nat):Int),(((ls++[b]).flatMap aR).length:Int),(((ls++[b]).flatMap aR).length:Int),false⟩∧y.1.A.names.length=A.names.length∧y.1.A.used≤A.used+(32+(ls.flatMap aR).length+(aR b).length):=by
 subst hs
 have kX:0<(aR b).length:=by have:=FW b.length;simp[aR];omega
 have hlen:=hj.len
 have hf:((ls++[b]).flatMap aR).length=(ls.flatMap aR).length+(aR b).length:=by simp
 obtain⟨e1,x1,⟨BV,yu⟩,c1⟩:=hR
 have hw:fK cS (32+((ls.flatMap aR).length:Int)) (aR b)=true:=by
  have:=qE dR (32+(ls.flatMap aR).length) (aR b) ah
  simpa using this
 have ht:(32+((ls.flatMap aR).length:Int)).toNat=32+(ls.flatMap aR).length:=by omega
 obtain⟨a0,a1,a2,a3⟩:=h.uj hv (32+(ls.flatMap aR).length) (aR b) ah (B:=(A.write true cS (32+(ls.flatMap aR).length) (aR b)).2) (e:=(A.write true cS (32+(ls.flatMap aR).length) (aR b)).1) rfl
 have RV:fz cS (32+(ls.flatMap aR).length) (aR b) A 0 (A.write true cS (32+(ls.flatMap aR).length) (aR b)).2:=by
  unfold fz
  have mu:fK cS ((32+(ls.flatMap aR).length:Nat):Int) (aR b)=true:=by simpa using hw
  rw[mu,← a0]
 have Q8:cT cS A ⟨n,((ls.flatMap aR).length:Int),((ls.flatMap aR).length:Int),false⟩ b=(0,(A.write true cS (32+(ls.flatMap aR).length) (aR b)).2,⟨n,(((ls++[b]).flatMap aR).length:Int),((ls.flatMap aR).length:Int),false⟩):=by
  unfold cT
  simp only[Bool.false_eq_true,if_false]
  rw[if_neg ah,if_neg ah,hw,ht,if_pos a0,hf]
  simp
 simp only[Q8]at BV yu
 subst BV
 rcases c1 with⟨bT,_⟩|⟨_,e2,x2,⟨A',x',mC,vC⟩,c2⟩
 ·exact absurd rfl bT
 rw[yu]at mC vC
 simp only at mC vC
 obtain⟨A1,sm⟩:∃A1,A1=(A.write true cS (32+(ls.flatMap aR).length) (aR b)).2:=⟨_,rfl⟩
 rw[← sm]at a1 a2 a3 RV mC
 have RZ:=CP h a1 hv a2
 have w0:=eP C (32+(ls.flatMap aR).length) (aR b)
 unfold jX at mC
 simp only[Bool.false_eq_true,if_false]at mC
 rw[if_neg (by rw[hf];omega),if_neg ah]at mC
 obtain⟨z,fm,rfl,rfl⟩:=mC
 obtain⟨e3,x3,⟨⟨G6,AO⟩,Yy⟩,c3⟩:=fm
 simp only[dR]at G6 AO
 have PL:eX cS A1 e3 x3.1:=by unfold eX;rw[dR,G6,AO]
 obtain⟨g0,g1,g2,g3⟩:=a1.xe (nm:=cS) (c:=bH C (32+(ls.flatMap aR).length) (aR b)) (by rw[a2,di]) (B:=x3.1) (e:=e3) (by rw[G6,AO])
 subst g0
 have z3:Cz k x3.1:=hz.put h a1 RV PL
 rcases c3 with⟨bT,_⟩|⟨_,e4,x4,⟨⟨FN,Eu⟩,h4c⟩,c4⟩
 ·exact absurd rfl bT
 have ph:(n:Int).toNat+1=n+1:=by omega
 have Kv:(((ls++[b]).flatMap aR).length:Int).toNat=(ls.flatMap aR).length+(aR b).length:=by rw[hf];omega
 simp only[ph,Kv]at FN Eu
 have hhl:=fL (n+1) ((ls.flatMap aR).length+(aR b).length)
 have hw4:fK cS (((n+1)%2*16:Nat):Int) (bU (n+1) ((ls.flatMap aR).length+(aR b).length))=true:=qE dR _ _ ah
 rw[hw4]at FN Eu
 have hu3:=z6 a1 g1 g2
 obtain⟨k0,k1,k2,k3⟩:=g1.uj (nm:=cS) (c:=bH C (32+(ls.flatMap aR).length) (aR b)) (by rw[g2,a2,di]) ((n+1)%2*16) (bU (n+1) ((ls.flatMap aR).length+(aR b).length)) (by rw[hu3,g3,a3];omega) (B:=x4.1) (e:=e4) (by rw[FN,Eu])
 subst k0
 have Wx:fz cS ((n+1)%2*16) (bU (n+1) ((ls.flatMap aR).length+(aR b).length)) x3.1 0 x4.1:=by
  unfold fz
  rw[hw4,FN,Eu]
 have hu4:=CP g1 k1 (by rw[g2,a2,di]) k2
 have w1:=eP C (32+(ls.flatMap aR).length) (aR b)
 have w2:=eP (bH C (32+(ls.flatMap aR).length) (aR b)) ((n+1)%2*16) (bU (n+1) ((ls.flatMap aR).length+(aR b).length))
 rcases c4 with⟨bT,_⟩|⟨_,e5,x5,⟨⟨Rg,Rf⟩,h5c⟩,c5⟩
 ·exact absurd rfl bT
 simp only[dR]at Rg Rf
 have hs5:eX cS x4.1 e5 x5.1:=by unfold eX;rw[dR,Rg,Rf]
 obtain⟨m0,m1,m2,m3⟩:=k1.xe (nm:=cS) (c:=bH (bH C (32+(ls.flatMap aR).length) (aR b)) ((n+1)%2*16) (bU (n+1) ((ls.flatMap aR).length+(aR b).length))) (by rw[k2,di]) (B:=x5.1) (e:=e5) (by rw[Rg,Rf])
 subst m0
 have z5:Cz k x5.1:=z3.put g1 k1 Wx hs5
 have hu5:=z6 k1 m1 m2
 rcases c5 with⟨bT,_⟩|⟨_,e6,x6,⟨Yx,Xw⟩,c6⟩
 ·exact absurd rfl bT
 subst Yx
 rcases c6 with⟨bT,_⟩|⟨_,he,hy⟩
 ·exact absurd rfl bT
 subst he
 rw[hy,Xw]at vC
 simp only at vC
 rcases c2 with⟨bT,_⟩|⟨_,he,AE⟩
 ·exact absurd rfl bT
 subst he
 rw[AE,vC]
 simp only
 have oK:vw x5.1=ew (vw A) cS (some (bH (bH C (32+(ls.flatMap aR).length) (aR b)) ((n+1)%2*16) (bU (n+1) ((ls.flatMap aR).length+(aR b).length)))):=by
  rw[m2,k2,g2,a2]
  funext m
  unfold ew
  split <;> rfl
 refine⟨trivial,m1,z5,⟨_,oK,hj.add b⟩,by rw[m3,k3,g3,a3],trivial,trivial,?_,h.pN m1 (fun m=>?_),ah⟩
 ·have e5:x5.2=((n:Int),(((ls++[b]).flatMap aR).length:Int),((ls.flatMap aR).length:Int)):=by rw[h5c,h4c,Yy]
  rw[e5,ph]
  simp
 ·rw[oK]
  unfold ew
  split
  ·rename_i hm;rw[hm,hv];rfl
  ·rfl
theorem JL{A:Ab}{nm:ByteArray}(hv:vw A nm=none):(A.size nm).2=4:=by
 have od:A.look nm=none:=by
  unfold vw at hv
  cases hx:A.look nm with
  | none=>rfl
  | some f=>rw[hx]at hv;cases hv
 unfold Ab.size
 rw[od]
theorem Gn{k k':Nat}{A:Ab}{nm:ByteArray}{ls:List (List UInt8)}{n s c:Int}{y:PS}(h:Cz k A)(GP:vw A (bI nm)=none)(hB:HA y.1)(hk:y.1.names.length≤k')(hR:zQ nm ls (A,n,s,c) 0 y):Cz k' y.1:=by
 unfold zQ gn at hR
 simp only[JL GP]at hR
 rw[if_neg ah,List.nil_append]at hR
 obtain⟨e1,x1,⟨⟨f,h1f,BV,yu⟩,h1c⟩,⟨hx,hy,_⟩|⟨rfl,e2,x2,⟨⟨KX,vC⟩,h2c⟩,c2⟩⟩:=hR
 ·exact absurd hy.symm hx
 obtain⟨_,_,f1⟩:=h.fl.create (n:=bI nm) (B:=x1.1) ⟨f,h1f,Prod.ext BV yu⟩
 rcases c2 with⟨hx,hy,_⟩|⟨rfl,e3,x3,⟨⟨G6,AO⟩,Yy⟩,c3⟩
 ·exact absurd hy.symm hx
 rcases c3 with⟨hx,hy,_⟩|⟨rfl,e4,x4,⟨⟨FN,Eu⟩,h4c⟩,c4⟩
 ·exact absurd hy.symm hx
 have f3:=f1.put (n:=bI nm) (at_:=0) (b:=bX ls) (B:=x2.1) (C:=x3.1) (Prod.ext KX vC) (Prod.ext G6 AO)
 rcases c4 with⟨hx,hy,_⟩|⟨rfl,e5,x5,⟨⟨Rg,Rf⟩,h5c⟩,c5⟩
 ·exact absurd hy.symm hx
 have f4:=f3.rename (o:=bI nm) (n:=nm) (B:=x4.1) (Prod.ext FN Eu)
 rcases c5 with⟨hx,hy,_⟩|⟨rfl,e6,x6,⟨Yx,Xw⟩,c6⟩
 ·exact absurd hy.symm hx
 rcases c6 with⟨hx,hy,_⟩|⟨_,_,hy⟩
 ·exact absurd hy.symm hx
 have QH:y.1=x5.1:=by rw[hy,Xw]
 rw[QH]at hB hk ⊢
 exact f4.names hB (Prod.ext Rg Rf) hk
structure DQ(k:Nat)(A:Ab):Prop where
 ha:HA A
 cz:Cz k A
 room:A.room=16777216
 PE:A.names.length≤k
 kd:∀n c,vw A n=some c→(n=cS∧c.length≤100000)∨(∃d,n=gZ d)∧c.length≤1000∨(∃d,n=mw d∧dM c=d)∧c.length≤1000
theorem DQ.used{k:Nat}{A:Ab}(h:DQ k A):A.used≤100000+1000*k:=by
 have h0:qW DT (dU A) (vw A)≤qW (fun n _=>wE n+1000) (dU A) (vw A):=by
  refine Mo _ _ fun n hn=>?_
  obtain⟨c,hc⟩:=Option.isSome_iff_exists.1 ((mem_keys h.ha n).1 hn)
  rw[hc]
  show c.length≤wE n+1000
  rcases h.kd n c hc with⟨rfl,hl⟩|⟨_,hl⟩|⟨_,hl⟩
  ·have:wE cS=100000:=if_pos rfl
   omega
  ·omega
  ·omega
 rw[Mn]at h0
 have h1:qW (fun n _=>wE n) (dU A) (vw A)=((dU A).map wE).sum:=rfl
 have h2:=SG (dU A) h.ha.keys
 have h3:qW (fun _ _=>1000) (dU A) (vw A)=A.names.length*1000:=by rw[Bo,nG]
 have h4:=jE h.ha
 have h5:=h.PE
 omega
theorem DQ.rk{k:Nat}{A:Ab}(h:DQ k A):rk A≤1000*k:=by
 have h0:qW (fun n c=>qX n c) (dU A) (vw A)≤qW (fun _ _=>1000) (dU A) (vw A):=by
  refine Mo _ _ fun n hn=>?_
  obtain⟨c,hc⟩:=Option.isSome_iff_exists.1 ((mem_keys h.ha n).1 hn)
  rw[hc]
  show qX n c≤1000
  rcases h.kd n c hc with⟨rfl,hl⟩|⟨_,hl⟩|⟨_,hl⟩
  ·rw[Nx];omega
  ·have:qX n c≤c.length:=by unfold qX;split <;> omega
   omega
  ·have:qX n c≤c.length:=by unfold qX;split <;> omega
   omega
 have h3:qW (fun _ _=>1000) (dU A) (vw A)=A.names.length*1000:=by rw[Bo,nG]
 have h5:=z7 h.ha
 have h6:=h.PE
 rw[h5]
 have h7:qW (fun k c=>qX k c) (dU A) (vw A)=qW qX (dU A) (vw A):=rfl
 omega
theorem DQ.mono{k j:Nat}{A:Ab}(h:DQ k A)(hk:k≤j):DQ j A:=⟨h.ha,h.cz.mono (fun _ x=>x) hk,h.room,by have:=h.PE;omega,h.kd⟩
theorem DQ.dp{k:Nat}{A:Ab}(h:DQ k A):DQ k (A.dp 0 [] (-1) 0)∧(∀n c,vw A n=some c→vw (A.dp 0 [] (-1) 0) n=some c)∧(∀n,(∀d,n≠gZ d)→vw (A.dp 0 [] (-1) 0) n=vw A n):=by
 obtain⟨h1,h2,h3,h4,h5,h6,h7,h8⟩:=h.cz.dp h.ha
 refine⟨⟨h1,h2,h3.trans h.room,h4,fun n c hc=>?_⟩,h7,fun n hn=>?_⟩
 ·rcases h8 n c hc with hc|hc
  ·exact h.kd n c hc
  ·exact .inr (.inl hc)
 ·cases hx:vw A n with
  | some c=>exact h7 n c hx
  | none =>
   cases hy:vw (A.dp 0 [] (-1) 0) n with
   | none=>rfl
   | some c =>
    rcases h8 n c hy with hc|⟨⟨d,hd⟩,_⟩
    ·rw[hx]at hc;cases hc
    ·exact absurd hd (hn d)
theorem DQ.next{k j:Nat}{A B:Ab}(h:DQ k A)(hB:HA B)(hz:Cz j B)(hr:B.room=A.room)(hn:B.names.length≤j)(hv:∀n c,vw B n=some c→vw A n=some c∨(n=cS∧c.length≤100000)∨(∃d,n=gZ d)∧c.length≤1000∨(∃d,n=mw d∧dM c=d)∧c.length≤1000):DQ j B :=
  ⟨hB,hz,hr.trans h.room,hn,fun n c hc=>by
    rcases hv n c hc with hc|hc
    · exact h.kd n c hc
    · exact hc⟩
theorem DQ.open{k:Nat}{A B:Ab}{e:Nat}(h:DQ k A)(hO:qj A e B):e=0∧B=A:=by
 have hB:∀nm∈fJ A,∀d,jx kB nm=some d→jf A d=true:=fun nm ld d hd=>by
  obtain rfl:nm=mw d:=(qN.1 hd)
  obtain⟨c,hc⟩:=Option.isSome_iff_exists.1 ((xO h.ha _).1 ld)
  have hs:dM c=d:=by
   rcases h.kd _ c hc with⟨he,_⟩|⟨⟨d',he⟩,_⟩|⟨⟨d',he,hs⟩,_⟩
   ·exact absurd he (gG kB d)
   ·exact absurd he.symm (fZ _ _)
   ·rw[I1 he];exact hs
  unfold jf
  have hb:e9 A (mw d)=some c:=by rw[nV h.ha];exact hc
  simp only[show du kB d=mw d from rfl,hb]
  simp[hs]
 have iZ:∀(k:List UInt8) (nm:ByteArray) (d:Dg),nm∈fJ A→jx k nm=some d→(k=kN∨k=kI)→False:=fun k nm d ld hd hk=>by
  obtain rfl:=qN.1 hd
  obtain⟨c,hc⟩:=Option.isSome_iff_exists.1 ((xO h.ha _).1 ld)
  rcases h.kd _ c hc with⟨he,_⟩|⟨⟨d',he⟩,_⟩|⟨⟨d',he,_⟩,_⟩
  ·exact gG k d he
  ·rcases hk with rfl|rfl
   ·exact K6 _ _ he.symm
   ·exact K7 _ _ he.symm
  ·rcases hk with rfl|rfl
   ·exact K8 _ _ he.symm
   ·exact K9 _ _ he.symm
 obtain⟨e1,A1,⟨e2,A2,h2,c2⟩,hc⟩:=hO
 obtain⟨rfl,rfl⟩:=rU _ hB h2
 rcases c2 with⟨hx,_⟩|⟨_,e3,A3,h3,c3⟩
 ·exact absurd rfl hx
 obtain⟨rfl,rfl⟩:=rU _ (fun nm ld d hd=>(iZ kN nm d ld hd (.inl rfl)).elim) h3
 rcases c3 with⟨hx,_⟩|⟨_,e4,A4,h4,c4⟩
 ·exact absurd rfl hx
 obtain⟨rfl,rfl⟩:=rU _ (fun nm ld d hd=>(iZ kI nm d ld hd (.inr rfl)).elim) h4
 rcases c4 with⟨hx,_⟩|⟨_,rfl,rfl⟩
 ·exact absurd rfl hx
 rw[if_neg ah]at hc
 exact hc
attribute [local irreducible] J K aD Ends ag aB aM bN aZ aP aV bh bW
theorem KV{ws:List jS}{n j:Nat}{w:jS}(hj:j<n)(hw:ws[j/64]?=some w):decide ((((w >>> (j%64)) &&& 1#64).toNat:Int)=1)=cE ws n (j:Int):=by
 unfold cE
 rw[decide_eq_true (show 0≤(j:Int)∧(j:Int)<n by omega),Bool.true_and,Int.toNat_natCast,List.getD_eq_getElem?_getD,hw,Option.getD_some,decide_eq_decide]
 constructor
 ·intro h
  apply BitVec.eq_of_toNat_eq
  have h1:(1#64).toNat=1:=rfl
  rw[h1]
  omega
 ·intro h
  rw[h];rfl
abbrev orW(p q:jS):jS:=p ||| q
theorem abt(p:jS):IntKind.u64.wrap ((BitVec.ofInt IntKind.u64.bits (p.toNat:Int) &&& BitVec.ofInt IntKind.u64.bits 1).toNat:Int)=((p &&& 1#64).toNat:Int):=by
 rw[nD]
 exact mH (p &&& 1#64)
theorem abS(p q:jS):IntKind.u64.wrap ((BitVec.ofInt IntKind.u64.bits (p.toNat:Int) ||| BitVec.ofInt IntKind.u64.bits (q.toNat:Int)).toNat:Int)=((p ||| q).toNat:Int):=by
 rw[nD,nD]
 exact mH (p ||| q)
theorem OV(p q:jS):IntKind.u64.wrap ((BitVec.ofInt IntKind.u64.bits (p.toNat:Int) &&& ~~~ BitVec.ofInt IntKind.u64.bits (q.toNat:Int)).toNat:Int)=((p &&& ~~~q).toNat:Int):=by
 rw[nD,nD]
 exact mH (p &&& ~~~q)
theorem qNe{ws:List jS}{i:Nat}(h:i<ws.length):qV ws≠[]:=fun e=>by have:=congrArg List.length e;rw[V7]at this;rw[this]at h;simp at h
theorem n8(sb n:Nat)(wv:Value):aD Tryz.prog 43 [ptr sb] [ag sb (cl [.int .i64 (n:Int),wv] 117)] (fun r H=>r = .int .i64 (n:Int)∧H=[ag sb (cl [.int .i64 (n:Int),wv] 117)]):=by
 refine aD.enter Tryz.func43 ak rfl Tryz.ntmps43 zr zr ?_
 intro G F R hE
 refine go ?_
 ((refine ae hE Tryz.func43 rfl _ rfl ⟨rfl,rfl⟩ ad))
set_option maxRecDepth 20000 in
theorem zo(sb n:Nat)(wv:Value)(ws:List jS)(hn:n≤65536)(hw:n≤ws.length*64)(i:Int):aD Tryz.prog 19 [ptr sb,.int .i64 i] (iP sb n wv ws) (fun r H=>r = .bool (cE ws n i)∧H=iP sb n wv ws):=by
 unfold iP
 by_cases hi:0≤i∧i<(n:Int)
 case neg =>
  rw[pZ ah]
  refine aD.enter Tryz.func19 ak rfl Tryz.ntmps19 zr zr ?_
  intro G F R hE
  by_cases h0:0≤i
  ·refine go ?_
   ((refine az 7 ((.bool true)) rfl ((congrArg Value.bool (decide_eq_true ah))) ?_))
   refine go ?_
   ((refine az 15 ((.bool false)) rfl ((congrArg Value.bool (decide_eq_false ah))) ?_))
   refine go ?_
   ((refine ae hE Tryz.func19 rfl _ rfl ⟨rfl,rfl⟩ ad))
  ·refine go ?_
   ((refine az 7 ((.bool false)) rfl ((congrArg Value.bool (decide_eq_false ah))) ?_))
   refine go ?_
   ((refine ae hE Tryz.func19 rfl _ rfl ⟨rfl,rfl⟩ ad))
 obtain⟨j,rfl⟩:∃j:Nat,i=j:=⟨i.toNat,ah⟩
 have yg:j/64<ws.length:=by omega
 obtain⟨w,X9⟩:∃w,ws[j/64]?=some w:=⟨ws[j/64],by simp[yg]⟩
 have dL:=Gm X9
 refine aD.enter Tryz.func19 ak rfl Tryz.ntmps19 zr zr ?_
 intro G F R hE
 ((refine dv 1 rfl ?_))
 rintro a c rfl
 refine dB 1 rfl ?_
 intro dK
 obtain⟨b,o,gD,gb⟩:=dK.some (qNe yg)
 simp only[Value.slice.injEq]at gb
 obtain⟨rfl,_,rfl⟩:=gb
 refine go ?_
 ((refine az 7 ((.bool true)) rfl ((congrArg Value.bool (decide_eq_true ah))) ?_))
 refine go ?_
 ((refine az 15 ((.bool true)) rfl ((congrArg Value.bool (decide_eq_true ah))) ?_))
 refine go ?_
 refine nZ zr zr zr ah ah (by simp only[gg];omega) ?_
 ((refine az 21 ((.int .i64 ((j/64:Nat):Int))) rfl ((congrArg (Value.int .i64) ah)) ?_))
 refine go ?_
 refine bK (j/64) zr zr zr zr zr zr zr zr yg ?_
 refine go ?_
 refine aK ?_
 refine bg 1 (j/64) zr zr zr dK rfl dL zr zr ?_
 refine go ?_
 refine o8 zr zr zr ah ah ?_
 ((refine az 25 ((.int .i64 ((j%64:Nat):Int))) rfl ((congrArg (Value.int .i64) ah)) ?_))
 refine go ?_
 refine qp (p:=w) (j%64) zr zr zr zr ah ?_
 refine go ?_
 ((refine bB 4 ((.bool (cE ws n (j:Int)))) rfl ((congrArg Value.bool (by rw[abt];exact KV ah X9))) ?_))
 ((refine ae hE Tryz.func19 rfl _ rfl ⟨rfl,rfl⟩ ad))
set_option maxRecDepth 20000 in
theorem PA(n:Nat)(hn:n≤65536):aD Tryz.prog 95 [.int .i64 (n:Int)] [] (fun r H=>∃sb wv,r = .tuple #[ptr sb,.int .i64 0]∧H=iP sb n wv (List.replicate ((n+63)/64) 0#64)):=by
 refine aD.enter Tryz.func95 ak rfl Tryz.ntmps95 zr zr ?_
 intro G F R hE
 refine go ?_
 ((refine bB 6 ((.bool false)) rfl ((congrArg Value.bool (decide_eq_false ah))) ?_))
 refine go ?_
 ((refine bB 9 ((.bool false)) rfl ((congrArg Value.bool (decide_eq_false ah))) ?_))
 refine go ?_
 refine nZ zr zr zr ah ah (by simp only[gg];omega) ?_
 ((refine az 14 ((.int .i64 (((n+63)/64:Nat):Int))) rfl ((congrArg (Value.int .i64) ah)) ?_))
 refine go ?_
 refine mW (U:=aN) (p:=(n+63)/64) (q:=(n+63)/64) zr zr zr zr zr zr zr zr zr (Nat.le_refl _) ah (by show 8*_≤_;omega) bz ?_
 intro row
 refine go ?_
 refine bC zr zr bz ?_
 intro sb
 refine go ?_
 refine aj (H':=iP sb n (.slice (some ⟨row,0,none⟩) ((n+63)/64) ((n+63)/64)) (List.replicate ((n+63)/64) 0#64)++F) ?_ ?_
 ·have hq:qV (List.replicate ((n+63)/64) 0#64)=List.replicate ((n+63)/64) (.int .u64 0):=by simp[qV,Mm]
  unfold iP
  rw[hq,List.length_replicate]
  refine ao.trans (H2:=ag row (cl (List.replicate ((n+63)/64) (.int .u64 0)) 118)::ag sb (cl [.int .i64 (n:Int),.slice (some ⟨row,0,none⟩) ((n+63)/64) ((n+63)/64)] 117)::F) ad ?_
  refine ao.trans (H2:=ag row (cl (List.replicate ((n+63)/64) (.int .u64 0)++[]) 118)::ag sb (cl [.int .i64 (n:Int),.slice (some ⟨row,0,none⟩) ((n+63)/64) ((n+63)/64)] 117)::F) (by rw[List.append_nil];exact ao.refl _) ?_
  refine(eL 118 1 row ((n+63)/64) ((n+63)/64) (List.replicate ((n+63)/64) (.int .u64 0)) [] _ (by simp) (Nat.le_refl _) (by simp)).trans ?_
  exact ao.perm (List.Perm.swap ..)
 ·((refine ae hE Tryz.func95 rfl _ rfl ⟨_,_,rfl,rfl⟩ ad))
theorem Qi(ws:List jS)(i:Nat)(w:jS)(hw:ws[i/64]?=some w):(qV ws).set (i/64) (.int .u64 ((orW w (Cf (i%64))).toNat:Int))=qV (jI ws i true):=by
 unfold jI
 rw[if_pos rfl,List.getD_eq_getElem?_getD,hw,Option.getD_some]
 exact MS ws (i/64) _
theorem MT(ws:List jS)(i:Nat)(w:jS)(hw:ws[i/64]?=some w):(qV ws).set (i/64) (.int .u64 ((w &&& ~~~(Cf (i%64))).toNat:Int))=qV (jI ws i false):=by
 unfold jI
 rw[if_neg (by simp),List.getD_eq_getElem?_getD,hw,Option.getD_some]
 exact MS ws (i/64) _
set_option maxRecDepth 20000 in
theorem L2(sb n:Nat)(wv:Value)(ws:List jS)(hn:n≤65536)(hw:n≤ws.length*64)(i:Nat)(hi:i<n)(one:Bool):aD Tryz.prog 169 [ptr sb,.int .i64 (i:Int),.int .i64 ((i:Int)+1),.bool one] (iP sb n wv ws) (fun r H=>r = .int .i64 0∧H=iP sb n wv (jI ws i one)):=by
 have kY:i/64<ws.length:=by omega
 obtain⟨w,X9⟩:∃w,ws[i/64]?=some w:=⟨ws[i/64],by simp[kY]⟩
 have dL:=Gm X9
 unfold iP
 rw[iq]
 refine aD.enter Tryz.func169 ak rfl Tryz.ntmps169 zr zr ?_
 intro G F R hE
 ((refine dv 1 rfl ?_))
 rintro a c rfl
 refine dB 1 rfl ?_
 intro dK
 obtain⟨b,o,gD,gb⟩:=dK.some (qNe kY)
 simp only[Value.slice.injEq]at gb
 obtain⟨rfl,_,rfl⟩:=gb
 clear dK
 refine go ?_
 ((refine az 14 ((.bool false)) rfl ((congrArg Value.bool (decide_eq_false ah))) ?_))
 refine go ?_
 ((refine az 19 ((.bool false)) rfl ((congrArg Value.bool (decide_eq_false ah))) ?_))
 refine go ?_
 ((refine bB 26 ((.bool false)) rfl ((congrArg Value.bool (decide_eq_false ah))) ?_))
 refine go ?_
 refine bu (fun g:Nat=>g≤1) (fun g=>1-g) (fun g=>[(0,ptr sb),(1,.int .i64 ((i:Int)+(g:Int))),(2,.int .i64 ((i:Int)+1)),(3,.bool one)])
  (fun g=>ag sb (cl [.int .i64 (n:Int),.slice (some ⟨b,o,none⟩) ws.length c] 117)::aB 118 1 (.slice (some ⟨b,o,none⟩) ws.length c) ws.length (qV (if g=0 then ws else jI ws i one))::F) 0 ah rfl cu ad ?_
 intro g hg ih
 rcases(by omega:g=0∨g=1)with rfl|rfl
 ·rw[if_pos rfl]
  refine dB 1 rfl ?_
  intro dK
  refine go ?_
  ((refine bB 29 ((.bool true)) rfl ((congrArg Value.bool (decide_eq_true ah))) ?_))
  refine go ?_
  refine nZ zr zr zr ah ah (by simp only[gg];omega) ?_
  ((refine az 31 ((.int .i64 ((i/64:Nat):Int))) rfl ((congrArg (Value.int .i64) ah)) ?_))
  refine go ?_
  refine gT zr zr zr (by simp only[gg];omega) ?_
  refine go ?_
  ((refine az 40 ((.int .i64 63)) rfl ((congrArg (Value.int .i64) ah)) ?_))
  refine qp (p:=18446744073709551615#64) 63 rfl (congrArg (fun z:Int=>some (Value.int .u64 z)) (by decide:(18446744073709551615:Int)=((18446744073709551615#64).toNat:Int))) zr zr ah ?_
  ((refine az 41 ((.int .u64 ((1#64).toNat:Int))) rfl ((congrArg (fun w:jS=>Value.int .u64 (w.toNat:Int)) (by decide))) ?_))
  refine go ?_
  refine o8 zr zr zr ah ah ?_
  ((refine az 43 ((.int .i64 ((i%64:Nat):Int))) rfl ((congrArg (Value.int .i64) ah)) ?_))
  refine XY (p:=1#64) (i%64) zr zr zr zr ah ?_
  rw[show 1#64 <<< (i%64)=Cf (i%64)from rfl]
  cases one with
  | true =>
   refine go ?_
   refine bK (i/64) zr zr zr zr zr zr zr zr kY ?_
   refine aK ?_
   refine bg 1 (i/64) zr zr zr dK rfl dL zr zr ?_
   refine go ?_
   ((refine az 54 ((.int .u64 ((orW w (Cf (i%64))).toNat:Int))) rfl ((congrArg (Value.int .u64) (abS w _))) ?_))
   refine bK (i/64) zr zr zr zr zr zr zr zr kY ?_
   refine aT ?_
   refine sC (U:=aN) (q:=i/64) 1 gE zr zr zr zr zr zr zr kY rfl ?_
   rw[Qi ws i w X9]
   refine go ?_
   ((refine bB 1 ((.int .i64 ((i:Int)+((1:Nat):Int)))) rfl ((congrArg (Value.int .i64) ah)) ?_))
   refine aL ih 1 rfl ah ah cu ad
  | false =>
   refine go ?_
   refine bK (i/64) zr zr zr zr zr zr zr zr kY ?_
   refine aK ?_
   refine bg 1 (i/64) zr zr zr dK rfl dL zr zr ?_
   refine go ?_
   ((refine az 64 ((.int .u64 ((w &&& ~~~(Cf (i%64))).toNat:Int))) rfl ((congrArg (Value.int .u64) (OV w _))) ?_))
   refine bK (i/64) zr zr zr zr zr zr zr zr kY ?_
   refine aT ?_
   refine sC (U:=aN) (q:=i/64) 1 gE zr zr zr zr zr zr zr kY rfl ?_
   rw[MT ws i w X9]
   refine go ?_
   ((refine bB 1 ((.int .i64 ((i:Int)+((1:Nat):Int)))) rfl ((congrArg (Value.int .i64) ah)) ?_))
   refine aL ih 1 rfl ah ah cu ad
 ·rw[if_neg ah]
  refine go ?_
  ((refine bB 29 ((.bool false)) rfl ((congrArg Value.bool (decide_eq_false ah))) ?_))
  refine go ?_
  ((refine ae hE Tryz.func169 rfl _ rfl ⟨rfl,rfl⟩ ad))
theorem FB(sb n:Nat)(wv:Value)(ws:List jS)(hn:n≤65536)(hw:n≤ws.length*64)(i:Nat)(hi:i<n)(one:Bool):aD Tryz.prog 106 [ptr sb,.int .i64 (i:Int),.bool one] (iP sb n wv ws) (fun r H=>r = .int .i64 0∧H=iP sb n wv (jI ws i one)):=by
 have hf:=L2 sb n wv ws hn hw i hi one
 unfold iP at hf ⊢
 refine aD.enter Tryz.func106 ak rfl Tryz.ntmps106 zr zr ?_
 intro G F R hE
 refine go ?_
 ((refine bB 9 ((.bool false)) rfl ((congrArg Value.bool (decide_eq_false ah))) ?_))
 refine go ?_
 ((refine bB 16 ((.bool false)) rfl ((congrArg Value.bool (decide_eq_false ah))) ?_))
 refine go ?_
 ((refine ai zr zr zr zr (hf) ad ?_ bG))
 rintro _ _⟨rfl,rfl⟩
 refine go ?_
 ((refine ae hE Tryz.func106 rfl _ rfl ⟨rfl,rfl⟩ ad))
attribute [local irreducible] aC
def fR(e:Nat):Bool:=decide (e≠0∧e≠1∧e≠5∧e≠8∧e≠11)
def ig(tb bs jb:Nat)(tv:Value)(br:Bool):HP:=ag tb (cl [ptr bs,ptr jb,tv,.bool br] 88)
set_option maxRecDepth 20000 in
theorem qz{σ:Type}(I:σ→HP)(tb bs jb:Nat)(tv:Value)(V:HP)(v:Value)(kV:List Value)(hv:Vw V v kV.length kV)(hn:kV.length≤1000000000)(ss:List (σ→Nat→σ→Prop))(hlen:ss.length=kV.length)(Q:Nat→σ→Prop)(cF:∀(i:Nat) (fv:Value) (s:σ→Nat→σ→Prop),kV[i]?=some fv→ss[i]?=some s→∃g fi cap,fv = .func (.func g) fi cap∧∀x,Q i x→aD Tryz.prog g (fi.toList++cap.toList) [ig tb bs jb tv false,I x] (fun r H=>∃(e:Nat) (x':σ),r = .int .i64 (e:Int)∧H=[ig tb bs jb tv false,I x']∧s x e x'∧(e=0→Q (i+1) x')))(x0:σ)(hQ:Q 0 x0) :
  aD Tryz.prog 38 [ptr tb,v] [V,ig tb bs jb tv false,I x0] (fun r H=>∃(e:Nat) (x':σ),r = .int .i64 (e:Int)∧H=[V,ig tb bs jb tv (fR e),I x']∧iA ss x0 e x'):=by
 unfold ig at cF ⊢
 obtain⟨a,c,rfl⟩:=hv.shape
 refine aD.enter Tryz.func38 ak rfl Tryz.ntmps38 zr zr ?_
 intro G F R hE
 refine go ?_
 refine bu (fun y:Nat × σ=>y.1≤kV.length∧Q y.1 y.2∧∀e x',iA (ss.drop y.1) y.2 e x'→iA ss x0 e x') (fun y=>kV.length-y.1)
  (fun y=>[(0,ptr tb),(8,.slice a kV.length c),(9,.int .i64 (kV.length:Int)),(10,.int .i64 (y.1:Int))])
  (fun y=>V::ag tb (cl [ptr bs,ptr jb,tv,.bool false] 88)::I y.2::F) (0,x0) ⟨Nat.zero_le _,hQ,fun _ _ h=>h⟩ rfl cu ad ?_
 rintro⟨i,x⟩⟨hi,hq,hr⟩ ih
 simp only at hi hq hr
 dsimp only
 refine go ?_
 refine au zr zr ?_ ?_
 ·intro cW
  have kY:i<kV.length:=by omega
  obtain⟨fv,mB⟩:∃fv,kV[i]?=some fv:=⟨kV[i],List.getElem?_eq_getElem kY⟩
  obtain⟨s,hs⟩:∃s,ss[i]?=some s:=⟨ss[i],List.getElem?_eq_getElem ah⟩
  obtain⟨g,fi,cap,rfl,hc⟩:=cF i fv s mB hs
  have lX:ss.drop i=s::ss.drop (i+1):=by
   rw[List.drop_eq_getElem_cons ah]
   congr 1
   exact(List.getElem?_eq_some_iff.1 hs).2
  obtain⟨b0,o0,c0,pq⟩:=hv.some (by intro h;rw[h]at kY;simp at kY)
  simp only[Value.slice.injEq]at pq
  obtain⟨rfl,-,rfl⟩:=pq
  refine go ?_
  refine bK i zr zr zr zr zr zr zr zr kY ?_
  refine bg 0 i zr zr zr hv rfl mB zr zr ?_
  refine go ?_
  refine wL zr zr zr (by simp) (hc x hq) ad ?_ bG
  rintro _ _⟨e,x',rfl,rfl,Kv,PR⟩
  by_cases pq:e=0
  ·subst pq
   refine go ?_
   refine aL ih (i+1,x') rfl (⟨by simp only;omega,PR rfl,fun e2 x2 h2=>hr e2 x2 (by rw[lX];exact⟨0,x',Kv,.inr ⟨rfl,h2⟩⟩)⟩) (by simp only;omega) cu ad
  have iH:iA ss x0 e x':=hr e x' (by rw[lX];exact⟨e,x',Kv,.inl ⟨pq,rfl,rfl⟩⟩)
  clear ih
  by_cases NQ:e=1∨e=5∨e=11∨e=8
  ·have hb:fR e=false:=decide_eq_false ah
   rcases NQ with rfl|rfl|rfl|rfl
   all_goals(
    refine go ?_
    ((refine ae hE Tryz.func38 rfl _ rfl ⟨_,x',rfl,rfl,iH⟩ ad)))
  ·have hb:fR e=true:=decide_eq_true ah
   refine go ?_
   refine au zr zr ?_ ?_
   ·intro h;exfalso;omega
   intro _
   refine go ?_
   refine au zr zr ?_ ?_
   ·intro h;exfalso;omega
   intro _
   refine go ?_
   refine au zr zr ?_ ?_
   ·intro h;exfalso;omega
   intro _
   refine go ?_
   refine au zr zr ?_ ?_
   ·intro h;exfalso;omega
   intro _
   refine go ?_
   refine au zr zr ?_ ?_
   ·intro h;exfalso;omega
   intro _
   refine go ?_
   refine aj (H':=V::ag tb (cl [ptr bs,ptr jb,tv,.bool true] 88)::I x'::F) ad ?_
   rw[← hb]
   ((refine ae hE Tryz.func38 rfl _ rfl ⟨e,x',rfl,rfl,iH⟩ ad))
 ·intro fq
  have gw:i=kV.length:=by omega
  subst gw
  clear ih
  have h0:iA ss x0 0 x:=hr 0 x (by rw[List.drop_eq_nil_of_le ah];exact⟨rfl,rfl⟩)
  refine go ?_
  ((refine ae hE Tryz.func38 rfl _ rfl ⟨0,x,rfl,rfl,h0⟩ ad))
theorem Mp{ts:List Tk}{i:Nat}(h:i<ts.length):ts.map cm≠[]:=fun e=>by have:=congrArg List.length e;simp at this;rw[this]at h;simp at h
def gy(ts:List Tk)(x:Bl):Option Tk:=ts.find? fun y=>decide (y.x=x)
def P9(o:Option Tk):Value:=match o with
 | none => .pointer none
 | some y=>ptr y.yb
theorem ue(A X:HP)(v:Value)(l:List Tk)(hv:Vw A v l.length (l.map cm))(hlen:l.length≤1000000)(g:FuncId)(cap:List Value)(p:Tk→Bool)(hf:∀x∈l,aD Tryz.prog g (ptr x.yb::cap) [X] (fun v H=>v = .bool (p x)∧H=[X])) :
  aD Tryz.prog 83 [v,.func (.func g) #[] cap.toArray] [A,X] (fun r H=>r = .int .i64 (kj p l)∧H=[A,X]):=by
 obtain⟨a,c0,rfl⟩:=hv.shape
 refine aD.enter Tryz.func83 ak rfl Tryz.ntmps83 zr zr ?_
 intro G F R hR
 refine go ?_
 refine bu (fun i:Nat=>i≤l.length∧∀y∈l.take i,p y=false) (fun i=>l.length-i) (fun i=>[(0,.slice a l.length c0),(1,.func (.func g) #[] cap.toArray),(7,.int .i64 l.length),(8,.int .i64 i)]) (fun _=>[A,X]++F) 0 ⟨by simp,by simp⟩ rfl cu (ao.refl _) ?_
 rintro i⟨hi,hb⟩ ih
 refine go ?_
 refine au zr zr ?_ ?_
 ·intro cW
  refine go ?_
  have gw:i<l.length:=by omega
  obtain⟨x,hx⟩:∃x,l[i]?=some x:=⟨l[i],by simp[gw]⟩
  obtain⟨b,o,gD,gb⟩:=hv.some (Mp gw)
  simp only[Value.slice.injEq]at gb
  obtain⟨rfl,_,rfl⟩:=gb
  refine bK i zr zr zr zr zr zr zr zr gw ?_
  refine aK ?_
  refine bg 0 i zr zr zr hv rfl (qx hx) zr zr ?_
  refine cp [1] zr zr zr zr (hf x (List.mem_of_getElem? hx)) rfl bG ?_
  rintro _ _⟨rfl,rfl⟩
  refine go ?_
  refine fD zr zr ?_ ?_
  ·intro hp
   refine go ?_
   refine ae hR Tryz.func83 rfl _ rfl ⟨by rw[nH hx hp hb];rfl,rfl⟩ (ao.fin [1,0] 0 zr zr)
  ·intro hp
   refine go ?_
   refine aL ih (i+1) rfl ⟨ah,tM hb hx hp⟩ ah cu (ao.pick [1,0] rfl)
 ·intro fq
  refine go ?_
  have:i=l.length:=by omega
  subst this
  refine ae hR Tryz.func83 rfl _ rfl ⟨by rw[qK (fun x hx=>hb x (by simpa using hx))];rfl,rfl⟩ (ao.fin [0,1] 0 zr zr)
theorem v7(A X:HP)(v:Value)(l:List Tk)(hv:Vw A v l.length (l.map cm))(hlen:l.length≤1000000)(g:FuncId)(cap:List Value)(p:Tk→Bool)(hf:∀x∈l,aD Tryz.prog g (ptr x.yb::cap) [X] (fun v H=>v = .bool (p x)∧H=[X])) :
  aD Tryz.prog 32 [v,.func (.func g) #[] cap.toArray] [A,X] (fun r H=>r = .bool (l.any p)∧H=[A,X]):=by
 refine aD.enter Tryz.func32 ak rfl Tryz.ntmps32 zr zr ?_
 intro G F R hR
 refine go ?_
 refine cp [0,1] zr zr zr zr (ue A X v l hv hlen g cap p hf) rfl bG ?_
 rintro _ _⟨rfl,rfl⟩
 refine go ?_
 have hb:decide (0≤kj p l)=l.any p:=by
  rw[show decide (0≤kj p l)=decide (¬kj p l<0)from by rw[decide_eq_decide];omega]
  rw[Bool.eq_iff_iff,decide_eq_true_iff,nI (p:=p) (l:=l),Bool.not_eq_false]
 refine ae hR Tryz.func32 rfl _ rfl ⟨congrArg Value.bool hb,rfl⟩ (ao.fin [0,1] 0 zr zr)
set_option maxRecDepth 20000 in
theorem EL(ts:List Tk)(x:Bl)(bx:Nat)(y:Tk)(hy:y∈ts):aD Tryz.prog 33 [ptr y.yb,ptr bx] [Sep [aU ts,ag bx (cl (bD x) 37)] ] (fun r H=>r = .bool (decide (y.x.d=x.d))∧H=[Sep [aU ts,ag bx (cl (bD x) 37)] ]):=by
 obtain⟨i,hi⟩:=List.mem_iff_getElem?.1 hy
 refine aD.enter Tryz.func33 ak rfl Tryz.ntmps33 zr zr ?_
 intro G F R hE
 refine aj (ao.cB [_,_] _) ?_
 refine aj (lf hi _) ?_
 refine eE (gj y) ?_
 rintro z hz
 refine aj (H':=ag y.yb (cl (lz y) 93)::ag bx (cl (bD x) 37)::ag y.sb (cl [.int .i64 (y.n:Int),z.1] 117)::aB 118 1 z.1 y.ws.length (qV y.ws)::aM (Value.int .i64) y.mb z.2.1::aV 35 z.2.2::aU (ts.take i++ts.drop (i+1))::F) ad ?_
 refine go ?_
 refine aF (fun w=>Sat G w ([ag y.yb (cl (lz y) 93),ag bx (cl (bD x) 37)])) (.st 0 (.st 1 (.st 2 (.st 3 (.st 4 (.st 5 (.st 6 (.st 7 (.st 8 .nil))))))))) rfl ak ak ak ei ?_
 refine go ?_
 refine ck (U:=aN) 0 zr zr zr zr zr zr ?_
 refine go ?_
 refine ck (U:=aN) 1 zr zr zr zr zr zr ?_
 refine go ?_
 refine lx (b:=decide (y.x.d=x.d)) zr zr zr KY (fun w=>La y.x.d x.d w) ?_
 refine go ?_
 refine aj (H':=mZ y z++(aU (ts.take i++ts.drop (i+1))::ag bx (cl (bD x) 37)::F)) (by unfold mZ;exact ad) ?_
 refine aj (jh hz _) ?_
 refine aj (mI hi _) ?_
 refine aj (ao.bP [_,_] _) ?_
 ((refine ae hE Tryz.func33 rfl _ rfl ⟨rfl,rfl⟩ ad))
set_option maxRecDepth 20000 in
theorem qP(tb bs jb:Nat)(tv:Value)(br:Bool)(ts:List Tk)(x:Bl)(hl:ts.length≤1000000):aD Tryz.prog 42 [ptr tb,eg x] (dr tb bs jb tv ts br) (fun r H=>r=P9 (gy ts x)∧H=dr tb bs jb tv ts br):=by
  unfold dr eg
  refine aD.enter Tryz.func42 ak rfl Tryz.ntmps42 zr zr ?_
  intro G F R hE
  ((refine dv 1 rfl ?_))
  rintro a c rfl
  refine dB 1 rfl ?_
  intro dK
  refine aE rfl ?_
  refine bC zr zr bz ?_
  intro b3
  refine go ?_
  refine bu (fun i:Nat=>i≤ts.length∧∀y∈ts.take i,y.x≠x) (fun i=>ts.length-i) (fun i=>[(3,ptr b3),(10,.slice a ts.length c),(11,.int .i64 (ts.length:Int)),(12,.int .i64 (i:Int))])
    (fun _=>aB 90 1 (.slice a ts.length c) ts.length (ts.map cm)::aU ts::ag tb (cl [ptr bs,ptr jb,.slice a ts.length c,.bool br] 88)::ag b3 (cl (bD x) 37)::F) 0 ⟨Nat.zero_le _,by simp⟩ rfl cu ad ?_
  rintro i⟨hi,hb⟩ ih
  refine go ?_
  refine au zr zr ?_ ?_
  · intro cW
    have gw:i<ts.length:=by omega
    obtain⟨y,hx⟩:∃x,ts[i]?=some x:=⟨ts[i],by simp[gw]⟩
    obtain⟨b,o,gD,gb⟩:=dK.some (Mp gw)
    simp only[Value.slice.injEq]at gb
    obtain⟨rfl,_,rfl⟩:=gb
    refine go ?_
    refine bK i zr zr zr zr zr zr zr zr gw ?_
    refine aK ?_
    refine bg 0 i zr zr zr dK rfl (qx hx) zr zr ?_
    refine go ?_
    refine aj (H':=aU ts::aB 90 1 (.slice (some ⟨b,o,none⟩) ts.length c) ts.length (ts.map cm)::ag tb (cl [ptr bs,ptr jb,.slice (some ⟨b,o,none⟩) ts.length c,.bool br] 88)::ag b3 (cl (bD x) 37)::F) ad ?_
    refine aj (lf hx _) ?_
    refine eE (gj y) ?_
    rintro z hz
    refine aj (H':=ag y.yb (cl (lz y) 93)::ag b3 (cl (bD x) 37)::ag y.sb (cl [.int .i64 (y.n:Int),z.1] 117)::aB 118 1 z.1 y.ws.length (qV y.ws)::aM (Value.int .i64) y.mb z.2.1::aV 35 z.2.2::aU (ts.take i++ts.drop (i+1))::aB 90 1 (.slice (some ⟨b,o,none⟩) ts.length c) ts.length (ts.map cm)::ag tb (cl [ptr bs,ptr jb,.slice (some ⟨b,o,none⟩) ts.length c,.bool br] 88)::F) ad ?_
    refine aF (fun w=>Sat G w ([ag y.yb (cl (lz y) 93),ag b3 (cl (bD x) 37)])) (.st 0 (.st 1 (.st 2 (.st 3 (.st 4 (.st 5 .nil)))))) rfl ak ak ak ei ?_
    refine go ?_
    refine ck (U:=aN) (cs:=bD y.x) 0 zr zr zr zr zr zr ?_
    refine go ?_
    refine bL (U:=aN) (l:=bD x) 1 zr zr zr zr zr zr ?_
    refine go ?_
    refine lx (b:=decide (y.x=x)) zr zr zr Xy (fun w=>XC y.x x w) ?_
    by_cases CF:y.x=x
    · rw[decide_eq_true CF]
      have pW:gy ts x=some y:=by
        unfold gy
        rw[F1 hx,List.find?_append,List.find?_eq_none.2 (fun w hw=>by simpa using hb w hw)]
        simp[CF]
      rw[pW]at hE
      refine go ?_
      refine aj (H':=mZ y z++(aU (ts.take i++ts.drop (i+1))::ag tb (cl [ptr bs,ptr jb,.slice (some ⟨b,o,none⟩) ts.length c,.bool br] 88)::aB 90 1 (.slice (some ⟨b,o,none⟩) ts.length c) ts.length (ts.map cm)::F)) (by unfold mZ;exact ad) ?_
      refine aj (jh hz _) ?_
      refine aj (mI hx _) ?_
      refine aj (H':=ag tb (cl [ptr bs,ptr jb,.slice (some ⟨b,o,none⟩) ts.length c,.bool br] 88)::aB 90 1 (.slice (some ⟨b,o,none⟩) ts.length c) ts.length (ts.map cm)::aU ts::F) ad ?_
      ((refine ae hE Tryz.func42 rfl _ rfl ⟨rfl,rfl⟩ ad))
    · rw[decide_eq_false CF]
      refine go ?_
      refine aj (H':=mZ y z++(aU (ts.take i++ts.drop (i+1))::aB 90 1 (.slice (some ⟨b,o,none⟩) ts.length c) ts.length (ts.map cm)::ag tb (cl [ptr bs,ptr jb,.slice (some ⟨b,o,none⟩) ts.length c,.bool br] 88)::ag b3 (cl (bD x) 37)::F)) (by unfold mZ;exact ad) ?_
      refine aj (jh hz _) ?_
      refine aj (mI hx _) ?_
      refine aj (H':=aB 90 1 (.slice (some ⟨b,o,none⟩) ts.length c) ts.length (ts.map cm)::aU ts::ag tb (cl [ptr bs,ptr jb,.slice (some ⟨b,o,none⟩) ts.length c,.bool br] 88)::ag b3 (cl (bD x) 37)::F) ad ?_
      refine aL ih (i+1) rfl (⟨ah,fun w hw=>by
        rw[List.take_add_one,hx,Option.toList_some]at hw
        rcases List.mem_append.1 hw with h|h
        · exact hb w h
        · rw[List.mem_singleton.1 h];exact CF⟩) ah cu ad
  · intro fq
    have sH:i=ts.length:=by omega
    subst sH
    have pW:gy ts x=none:=by
      unfold gy
      exact List.find?_eq_none.2 (fun w hw=>by simpa using hb w (by simpa using hw))
    rw[pW]at hE
    clear ih
    refine go ?_
    refine aj (H':=ag tb (cl [ptr bs,ptr jb,.slice a ts.length c,.bool br] 88)::aB 90 1 (.slice a ts.length c) ts.length (ts.map cm)::aU ts::F) ad ?_
    ((refine ae hE Tryz.func42 rfl _ rfl ⟨rfl,rfl⟩ ad))
def g8(b2 b3 jb:Nat):List Value:=[.func (.func 90) #[] #[ptr b2,ptr b3],.func (.func 92) #[ptr jb] #[] ]
theorem uD(tb bs jb:Nat)(tv:Value)(a:Option Addr)(n c:Nat):aD Tryz.prog 36 [ptr tb,.slice a n c] [ig tb bs jb tv false]
  (fun r H=>∃b2 b3 row,r = .slice (some ⟨row,0,none⟩) 2 2∧H=[ag row (cl (g8 b2 b3 jb) 96),ag b2 (cl [ptr tb] 30),ag b3 (cl [.slice a n c] 22),ig tb bs jb tv false]):=by
 unfold ig
 refine aD.enter Tryz.func36 ak rfl Tryz.ntmps36 zr zr ?_
 intro G F R hE
 refine aE rfl ?_
 refine bC zr zr bz ?_
 intro b2
 refine bC zr zr bz ?_
 intro b3
 refine go ?_
 refine al (cs:=g8 b2 b3 jb) zr zr zr zr zr zr zr zr zr bz ?_
 intro row
 refine go ?_
 ((refine ae hE Tryz.func36 rfl _ rfl ⟨b2,b3,row,rfl,rfl⟩ ad))
theorem Gx(tb bs jb bd b2 b3:Nat)(tv:Value)(A:Ab)(x:JN)(Z:HP)(a:Option Addr)(c:Nat)(b:List UInt8)(hb:eJ Z (.slice a b.length c) b)(hl:b.length≤9223372036854775807)(hs:0≤x.s∧x.s≤1000000000)(eH:A.writes.length≤1000000000) :
  aD Tryz.prog 90 [ptr b2,ptr b3] [ig tb bs jb tv false,aC bd A,qY jb bd cS x,ag b2 (cl [ptr tb] 30),ag b3 (cl [.slice a b.length c] 22),Z]
  (fun r H=>r = .int .i64 ((cT cS A x b).1:Int)∧H=[ig tb bs jb tv false,aC bd (cT cS A x b).2.1,qY jb bd cS (cT cS A x b).2.2,ag b2 (cl [ptr tb] 30),ag b3 (cl [.slice a b.length c] 22),Z]):=by
 have FM:=HW jb bd cS A x Z _ b hb hl hs eH
 unfold ig
 refine aD.enter Tryz.func90 ak rfl Tryz.ntmps90 zr zr ?_
 intro G F R hE
 refine go ?_
 refine aF (fun w=>Sat G w ([ag tb (cl [ptr bs,ptr jb,tv,.bool false] 88),ag b2 (cl [ptr tb] 30),ag b3 (cl [.slice a b.length c] 22)])) (.st 0 (.st 1 (.st 2 (.st 3 (.st 4 (.act 5 (.st 6 .nil))))))) rfl ak ak ak ei ?_
 refine go ?_
 ((refine ai rfl rfl rfl rfl (FM) ad ?_ jg))
 rintro _ _⟨rfl,rfl⟩
 refine go ?_
 refine aj (H':=ag tb (cl [ptr bs,ptr jb,tv,.bool false] 88)::aC bd (cT cS A x b).2.1::qY jb bd cS (cT cS A x b).2.2::ag b2 (cl [ptr tb] 30)::ag b3 (cl [.slice a b.length c] 22)::Z::F) ad ?_
 ((refine ae hE Tryz.func90 rfl _ rfl ⟨rfl,rfl⟩ ad))
theorem EJ(tb bs jb bd b2 b3:Nat)(q:Int)(hq:0≤q∧q≤1073741824)(mb:Nat)(tv:Value)(s:eU)(x:Bl)(On:pe s.aY)(cF:s.A.aq.length≤900000000)(eH:s.A.writes.length≤900000000) :
  aD Tryz.prog 34 [ptr b2,ptr b3] (ig tb bs jb tv false::(cg bs bd q mb s++[ag b2 (cl [ptr tb] 30),ag b3 (cl (bD x) 37)]))
  (fun r H=>∃(e:Nat) (t:eU),r = .int .i64 (e:Int)∧H=ig tb bs jb tv false::(cg bs bd q mb t++[ag b2 (cl [ptr tb] 30),ag b3 (cl (bD x) 37)])∧dJ q x s e t):=by
 have sk:=Fz bs bd q hq mb s x On cF eH
 unfold eg at sk
 unfold ig
 refine aD.enter Tryz.func34 ak rfl Tryz.ntmps34 zr zr ?_
 intro G F R hE
 refine go ?_
 refine aF (fun w=>Sat G w ([ag tb (cl [ptr bs,ptr jb,tv,.bool false] 88),ag b2 (cl [ptr tb] 30),ag b3 (cl (bD x) 37)])) (.st 0 (.st 1 (.st 2 (.st 3 (.st 4 (.act 5 (.st 6 .nil))))))) rfl ak ak ak ei ?_
 refine go ?_
 refine bL (U:=aN) (l:=bD x) 2 zr zr zr zr zr zr ?_
 refine go ?_
 refine ai rfl rfl rfl rfl sk ad ?_ (fun _ _ w hp hw=>by obtain⟨_,_,rfl,rfl,_⟩:=hp;exact hw.cy ad)
 rintro _ _⟨e,t,rfl,rfl,hR⟩
 refine go ?_
 refine aj (H':=ag tb (cl [ptr bs,ptr jb,tv,.bool false] 88)::(cg bs bd q mb t++(ag b2 (cl [ptr tb] 30)::ag b3 (cl (bD x) 37)::F))) ad ?_
 ((refine ae hE Tryz.func34 rfl _ rfl ⟨e,t,rfl,rfl,hR⟩ ad))
end Go.Proofs.YtedjnjkijiddlaaGreatDoor
namespace Go.Proofs.YtedjnjkijiddlaaGreatDoor
open Go Go.SL
def my:Int→List (List UInt8)→List (Int × List UInt8)
 | _,[]=>[]
 | i,x::l=>(i,x)::my (i+1) l
def sX(k:UInt8)(d:Dg)(ls:List (List UInt8)):List (Int × List UInt8):=(1,[k])::(2,d.bs)::my 3 ls
def jA(k:UInt8)(d:Dg)(ls:List (List UInt8)):List UInt8:=ek (sX k d ls)
theorem Ds:∀(i:Int) (l:List (List UInt8)) (x:List UInt8),my i (l++[x])=my i l++[(i+l.length,x)]
 | i,[],x=>by simp[my]
 | i,y::l,x=>by
  simp only[List.cons_append,my,Ds (i+1) l x,List.length_cons,List.cons_append]
  congr 4
  omega
theorem uB:∀(i:Int) (l:List (List UInt8)) (last:Int),last<i→i+l.length≤64→fk last (my i l)=true
 | i,[],last,h,h2=>rfl
 | i,y::l,last,h,h2=>by
  simp only[my,fk,List.length_cons]at h2 ⊢
  rw[decide_eq_true h,decide_eq_true (show i≤63 by omega),uB (i+1) l i ah ah]
  rfl
theorem Kp{n:Int}{b:List UInt8}(h:b.length≤32):(lR (n,b)).length≤34:=by
 have h1:(uv b.length).length=1:=by rw[fO ah];rfl
 simp only[lR,List.length_cons,List.length_append,h1]
 omega
theorem xF:∀(i:Int) (l:List (List UInt8)) (z:Int × List UInt8),z∈my i l→z.2∈l
 | i,[],z,h=>by cases h
 | i,y::l,z,h=>by
  rcases List.mem_cons.1 h with rfl|h
  ·exact List.mem_cons_self ..
  ·exact List.mem_cons_of_mem _ (xF (i+1) l z h)
theorem sW:∀(i:Int) (l:List (List UInt8)),(my i l).length=l.length
 | i,[]=>rfl
 | i,y::l=>by simp[my,sW (i+1) l]
theorem Ih:∀(l:List (Int × List UInt8)),(∀z∈l,z.2.length≤32)→(ek l).length≤34*l.length
 | [],_=>by simp[ek]
 | z::l,h=>by
  have h1:=Ih l (fun w hw=>h w (List.mem_cons_of_mem _ hw))
  have h2:=Kp (n:=z.1) (h z (List.mem_cons_self ..))
  simp only[ek,List.flatMap_cons,List.length_append,List.length_cons]at h1 ⊢
  have h3:(lR z).length≤34:=h2
  omega
theorem gQ(k:UInt8)(d:Dg)(ls:List (List UInt8))(hl:ls.length≤20)(hx:∀x∈ls,x.length≤32):(jA k d ls).length≤748:=by
 have:=Ih (sX k d ls) (fun z hz=>by
  unfold sX at hz
  rcases List.mem_cons.1 hz with rfl|hz
  ·simp
  rcases List.mem_cons.1 hz with rfl|hz
  ·simp only;rw[d.len];omega
  ·exact hx _ (xF 3 ls z hz))
 have h2:(sX k d ls).length=2+ls.length:=by simp[sX,sW];omega
 unfold jA
 omega
theorem JY(k:UInt8)(d:Dg)(ls:List (List UInt8))(hl:ls.length≤20):fk 0 (sX k d ls)=true:=by
 simp only[sX,fk]
 rw[uB 3 ls 2 ah ah]
 rfl
attribute [local irreducible] J K aD Ends ag aB aM bN aZ aP aV bh bW aC
set_option maxRecDepth 20000 in
theorem rZ(k:UInt8)(d:Dg)(Z:HP)(mv:Value)(ls:List (List UInt8))(hv:rM Z mv ls)(hl:ls.length≤20)(abZ:∀x∈ls,x.length≤32) :
  aD Tryz.prog 93 [u8 k,dV d,mv] [Z] (fun r H=>H=[aB 5 1 r (jA k d ls).length (bV (jA k d ls)),Z]):=by
 have D5:=gQ k d ls hl abZ
 have hrr:=JY k d ls hl
 obtain⟨cs,dK,ln,⟨a2,c2,rfl,mC⟩,mO⟩:=hv
 unfold dV
 refine aD.enter Tryz.func93 ak rfl Tryz.ntmps93 zr zr ?_
 intro G F R hE
 refine aE rfl ?_
 refine bC zr zr bz ?_
 intro b4
 refine go ?_
 refine al (cs:=bV [k]) zr zr zr zr zr zr zr zr zr bz ?_
 intro r0
 refine go ?_
 refine iB (U:=aN) zr zr zr zr zr ?_
 refine go ?_
 obtain⟨vN,yh⟩:∃vN:List It,vN=[⟨1,.slice (some ⟨r0,0,none⟩) 1 1,[k]⟩,⟨2,.slice (some ⟨b4,0,none⟩) 32 32,d.bs⟩]:=⟨_,rfl⟩
 have h2l:vN.length=2:=by rw[yh];rfl
 refine al (cs:=vN.flatMap lB) zr zr zr zr zr zr zr zr (by rw[yh];rfl) bz ?_
 intro row
 refine go ?_
 obtain⟨Y,hY⟩:∃Y,Y=Sep [ag r0 (cl (bV [k]) 5),ag b4 (cl (dC d) 35),Z]:=⟨_,rfl⟩
 have hYZ:∀h,Y h→∃h',sub h' h∧Z h':=by rw[hY];exact aW (i:=2) rfl
 have hB0:∀z∈vN,eJ Y z.v z.b:=by
  intro z hz
  rw[yh]at hz
  simp only[List.mem_cons,List.not_mem_nil,or_false]at hz
  rcases hz with rfl|rfl
  ·rw[hY];exact eJ.mono (⟨Vw.ag rfl,_,_,rfl,Nat.le_refl _⟩) (aW (i:=0) rfl)
  ·rw[hY];exact(eJ.block d.len (dG d)).mono (aW (i:=1) rfl)
 have IM:vN.map It.p=(1,[k])::(2,d.bs)::my 3 (ls.take 0):=by rw[yh];rfl
 refine aj (H':=aB 207 2 (.slice (some ⟨row,0,none⟩) vN.length 2) vN.length (vN.flatMap lB)::Y::F) ?_ ?_
 ·rw[hY]
  refine ao.trans (H2:=ag r0 (cl (bV [k]) 5)::ag b4 (cl (dC d) 35)::Z::ag row (cl (vN.flatMap lB++[]) 207)::F) (by rw[List.append_nil];exact ad) ?_
  refine(ao.bP [_,_,_] _).trans ?_
  refine(ao.perm (List.Perm.swap ..)).trans ?_
  rw[h2l]
  exact eL 207 2 row 2 2 (vN.flatMap lB) [] _ (by rw[yh];rfl) (Nat.le_refl _) (by rw[yh];simp[lB])
 refine bu (fun y:Nat × List It × Option Addr × Nat=>y.1≤ls.length∧y.2.1.map It.p=(1,[k])::(2,d.bs)::my 3 (ls.take y.1)∧∀z∈y.2.1,eJ Y z.v z.b) (fun y=>ls.length-y.1)
  (fun y=>[(7,.slice y.2.2.1 y.2.1.length y.2.2.2),(18,.slice a2 ls.length c2),(19,.int .i64 (ls.length:Int)),(20,.int .i64 (y.1:Int))])
  (fun y=>aB 207 2 (.slice y.2.2.1 y.2.1.length y.2.2.2) y.2.1.length (y.2.1.flatMap lB)::Y::F) (0,vN,some ⟨row,0,none⟩,2) ⟨Nat.zero_le _,IM,hB0⟩ rfl (by rw[h2l];exact cu) ad ?_
 clear IM hB0 h2l yh
 rintro⟨i,fA,ia,ic⟩⟨hi,po,vB⟩ ih
 simp only at hi po vB
 dsimp only
 have aaM:fA.length=i+2:=by
  have:=congrArg List.length po
  simp only[List.length_map,List.length_cons,sW,List.length_take]at this
  omega
 refine go ?_
 refine au zr zr ?_ ?_
 ·intro cW
  have gw:i<ls.length:=by omega
  obtain⟨x,hx⟩:∃x,ls[i]?=some x:=⟨ls[i],by simp⟩
  obtain⟨cv,FL,vV⟩:=mO i x hx
  obtain⟨xa,xc,rfl,hxc⟩:=vV.2
  obtain⟨b,o,gD,gb⟩:=dK.some (by intro h;rw[h]at ln;simp at ln;omega)
  simp only[Value.slice.injEq]at gb
  obtain⟨rfl,_,rfl⟩:=gb
  have ab3:=dK.mono hYZ
  refine go ?_
  refine bK i zr zr zr zr zr zr zr zr gw ?_
  refine aK ?_
  refine bg 1 i zr zr zr ab3 rfl FL zr zr ?_
  refine go ?_
  refine al (cs:=lB ⟨3+(i:Int),.slice xa x.length xc,x⟩) zr zr zr zr zr zr zr zr zr bz ?_
  intro Qd
  refine go ?_
  refine aO (mm:=1) (news:=lB ⟨3+(i:Int),.slice xa x.length xc,x⟩) 1 0 rfl rfl rfl rfl rfl rfl rfl rfl rfl rfl rfl rfl (Vw.ag rfl) rfl (by intro v hv;simp[lB]at hv;rcases hv with rfl|rfl <;> rfl) ah (by show(_+_)*32≤_;omega) (fun _=>rfl) bz ?_
  intro v1
  rw[show fA.flatMap lB++lB (⟨3+(i:Int),.slice xa x.length xc,x⟩:It)=(fA++[(⟨3+(i:Int),.slice xa x.length xc,x⟩:It)]).flatMap lB from by simp,show fA.length+1=(fA++[(⟨3+(i:Int),.slice xa x.length xc,x⟩:It)]).length from by simp]
  ((refine aJ 1 rfl ?_))
  rintro ja jc rfl
  have Oe:(fA++[(⟨3+(i:Int),.slice xa x.length xc,x⟩:It)]).map It.p=(1,[k])::(2,d.bs)::my 3 (ls.take (i+1)):=by
   rw[List.map_append,po,List.take_add_one,hx,Option.toList_some,Ds,List.length_take,Nat.min_eq_left ah]
   rfl
  refine go ?_
  refine aL ih (i+1,fA++[(⟨3+(i:Int),.slice xa x.length xc,x⟩:It)],ja,jc) rfl ⟨by simp only;omega,Oe,fun z hz=>(by rcases List.mem_append.1 hz with h|h;exact vB z h;rw[List.mem_singleton.1 h];exact vV.mono hYZ)⟩ (by simp only;omega) cu ad
 ·intro fq
  have sH:i=ls.length:=by omega
  subst sH
  rw[List.take_length]at po
  have WZ:fA.map It.p=sX k d ls:=po
  clear ih
  refine dB 0 rfl ?_
  intro Wm
  have Eh:=mX (Sep [aB 207 2 (.slice ia fA.length ic) fA.length (fA.flatMap lB),Y]) (.slice ia fA.length ic) fA ⟨Wm.mono (aW (i:=0) rfl),fun z hz=>(vB z hz).mono (aW (i:=1) rfl)⟩ ah (by rw[WZ];exact hrr) (by rw[WZ];exact Nat.le_trans D5 ah)
  rw[WZ]at Eh
  refine go ?_
  refine aG (ao.bP [_,_] _) ?_
  ((refine ai zr zr zr zr (Eh) ad ?_ bG))
  rintro _ _⟨rr,rfl,rfl⟩
  refine go ?_
  refine aj (ao.cons _ (ao.cB [_,_] _)) ?_
  refine aj (H':=Y::aB 5 1 rr (jA k d ls).length (bV (jA k d ls))::F) ad ?_
  rw[hY]
  refine aj (ao.cB [_,_,_] _) ?_
  refine aj (H':=aB 5 1 rr (jA k d ls).length (bV (jA k d ls))::Z::F) ad ?_
  ((refine ae hE Tryz.func93 rfl _ zr zr ad))
def gM(x:Bl):List (List UInt8):=[uv x.size.toNat,uv x.piece.toNat,x.root.bs]
def bR(x:Bl):List UInt8:=jA 1 x.d (gM x)
theorem kq(x:Bl)(hs:x.size≤1000000000000)(hp:x.piece≤1000000000000):∀b∈gM x,b.length≤32:=fun b hb=>by
 simp only[gM,List.mem_cons,List.not_mem_nil,or_false]at hb
 rcases hb with rfl|rfl|rfl
 ·have:=pr (n:=x.size.toNat) ah;omega
 ·have:=pr (n:=x.piece.toNat) ah;omega
 ·rw[x.root.len];omega
set_option maxRecDepth 20000 in
theorem rK(x:Bl)(hs:0≤x.size∧x.size≤1000000000000)(hp:0≤x.piece∧x.piece≤1000000000000) :
  aD Tryz.prog 37 [eg x] [] (fun r H=>H=[aB 5 1 r (bR x).length (bV (bR x))]):=by
 obtain⟨sz,ir⟩:∃m:Nat,x.size=m:=⟨x.size.toNat,ah⟩
 obtain⟨pc,tt⟩:∃m:Nat,x.piece=m:=⟨x.piece.toNat,ah⟩
 have hlen:=kq x hs.2 hp.2
 unfold eg
 refine aD.enter Tryz.func37 ak rfl Tryz.ntmps37 zr zr ?_
 intro G F R hE
 refine aE rfl ?_
 refine bC zr zr bz ?_
 intro b1
 refine go ?_
 refine aF (fun w=>Sat G w ([ag b1 (cl (bD x) 37)])) (.st 0 (.st 1 (.st 2 (.st 3 (.st 4 (.st 6 (.st 7 (.st 8 (.st 10 (.st 11 (.act 5 (.act 9 (.act 12 (.act 13 (.st 14 .nil))))))))))))))) rfl ak ak ak ei ?_
 (repeat(first|refine gO ?_|refine ck (U:=aN) 0 zr zr zr zr zr zr ?_|refine iB (U:=aN) zr zr zr zr zr ?_))
 ((refine az 7 ((.int .u64 (sz:Int))) rfl ((congrArg (Value.int .u64) ir)) ?_))
 ((refine az 11 ((.int .u64 (pc:Int))) rfl ((congrArg (Value.int .u64) tt)) ?_))
 ((refine ai rfl rfl rfl rfl (l9 sz ah) ad ?_ (fun _ _ w hp hw=>by obtain rfl:=hp;exact hw.cy ad)))
 rintro r8 _ rfl
 ((refine aJ 0 rfl ?_))
 rintro a8 c8 rfl
 refine go ?_
 ((refine ai rfl rfl rfl rfl (l9 pc ah) ad ?_ (fun _ _ w hp hw=>by obtain rfl:=hp;exact hw.cy ad)))
 rintro r9 _ rfl
 ((refine aJ 0 rfl ?_))
 rintro a9 c9 rfl
 refine gB (bs:=uv pc) 0 rfl ?_
 intro Xm
 refine gB (bs:=uv sz) 1 rfl ?_
 intro IY
 refine go ?_
 obtain⟨cs,si⟩:∃cs:List Value,cs=[.slice a8 (uv sz).length c8,.slice a9 (uv pc).length c9,.slice (some ⟨b1,34,none⟩) 32 32]:=⟨_,rfl⟩
 refine al (cs:=cs) zr zr zr zr zr zr zr zr (by rw[si];rfl) (fun _ _ hw=>hw.cy ad) ?_
 intro row
 have mA:rM (Sep [ag row (cl cs 22),aB 5 1 (.slice a8 (uv sz).length c8) (uv sz).length (bV (uv sz)),aB 5 1 (.slice a9 (uv pc).length c9) (uv pc).length (bV (uv pc)),ag b1 (cl (bD x) 37)]) (.slice (some ⟨row,0,none⟩) 3 3) (gM x):=by
  refine⟨cs,(Vw.ag (by rw[si];rfl)).mono (aW (i:=0) rfl),by rw[si];rfl,⟨_,_,rfl,Nat.le_refl _⟩,fun i y hy=>?_⟩
  have acg:x.size.toNat=sz:=by omega
  have acs:x.piece.toNat=pc:=by omega
  unfold gM at hy
  rw[acg,acs]at hy
  match i,hy with
  | 0,hy=>cases hy;exact⟨_,by rw[si];rfl,IY.mono (aW (i:=1) rfl)⟩
  | 1,hy=>cases hy;exact⟨_,by rw[si];rfl,Xm.mono (aW (i:=2) rfl)⟩
  | 2,hy=>cases hy;exact⟨_,by rw[si];rfl,(eJ.V9 x.root.len (by rw[← dG];exact Rw x)).mono (aW (i:=3) rfl)⟩
  | i+3,hy=>simp at hy
 have NU:=rZ 1 x.d _ _ (gM x) mA (by simp[gM]) hlen
 unfold dV at NU
 clear mA
 clear si
 refine go ?_
 refine aG (ao.trans (H2:=ag row (cl cs 22)::aB 5 1 (.slice a8 (uv sz).length c8) (uv sz).length (bV (uv sz))::aB 5 1 (.slice a9 (uv pc).length c9) (uv pc).length (bV (uv pc))::ag b1 (cl (bD x) 37)::F) ad (ao.bP [_,_,_,_] _)) ?_
 refine ai rfl rfl rfl rfl NU ad ?_ (fun _ _ w hp hw=>by obtain rfl:=hp;exact hw.cy (ao.trans (ao.pick [1] rfl) (ao.trans (ao.cB [_,_,_,_] _) ad)))
 rintro rr _ rfl
 refine go ?_
 refine aj (H':=aB 5 1 rr (bR x).length (bV (bR x))::F) ad ?_
 ((refine ae hE Tryz.func37 rfl _ zr zr ad))
end Go.Proofs.YtedjnjkijiddlaaGreatDoor
namespace Go.Proofs.YtedjnjkijiddlaaGreatDoor
open Go Go.SL
theorem Lk(e:TypeId)(H:List HP):ao H (aV e []::H):=ao.qg H
attribute [local irreducible] J K aD Ends ag aB aM bN aZ aP aV bh bW aC
set_option maxRecDepth 20000 in
theorem AQ(x:Bl):aD Tryz.prog 39 [eg x] [] (fun r H=>∃y:Tk,r=ptr y.yb∧H=[n9 y]∧y.x=x∧(y.n:Int)=bO x∧y.ws=List.replicate ((y.n+63)/64) 0#64∧y.pf=fun _=>none):=by
 have ln:=lE x
 obtain⟨n,hn⟩:∃n:Nat,bO x=n:=⟨(bO x).toNat,ah⟩
 have hc:=u6 x
 rw[hn]at hc
 have vQ:=PA n ah
 unfold eg at hc ⊢
 unfold iP at vQ
 refine aD.enter Tryz.func39 ak rfl Tryz.ntmps39 zr zr ?_
 intro G F R hE
 refine aE rfl ?_
 refine bC zr zr bz ?_
 intro b1
 refine go ?_
 refine aH (U:=aN) (l:=bD x) 0 zr zr zr zr zr zr ?_
 ((refine ai zr zr zr zr (hc) ad ?_ bG))
 rintro _ _⟨rfl,rfl⟩
 refine go ?_
 ((refine ai zr zr zr zr (vQ) ad ?_ bG))
 rintro _ _⟨sb,wv,rfl,rfl⟩
 refine go ?_
 ((refine aG (H':=ag b1 (cl (bD x) 37)::ag sb (cl [.int .i64 (n:Int),wv] 117)::aB 118 1 wv (List.replicate ((n+63)/64) 0#64).length (qV (List.replicate ((n+63)/64) 0#64))::F) ad ?_))
 refine go ?_
 refine aH (U:=aN) (l:=bD x) 0 zr zr zr zr zr zr ?_
 refine go ?_
 refine n5 rfl bz ?_
 intro mb
 refine aG (ao.fold (B:=[_]) (A:=aM (Value.int .i64) mb []) (fun h hs=>⟨h,sub.refl h,pL (Value.int .i64) mb h (eN hs)⟩)) ?_
 refine go ?_
 refine bC zr zr bz ?_
 intro yb
 refine go ?_
 obtain⟨y,hy⟩:∃y:Tk,y=⟨yb,sb,mb,x,n,List.replicate ((n+63)/64) 0#64,fun _=>none⟩:=⟨_,rfl⟩
 have hR:Jh (wv,[],[]) y:=fun k=>by rw[hy];rfl
 refine aj (H':=mZ y (wv,[],[])++F) ?_ ?_
 ·rw[hy]
  unfold mZ
  exact ao.trans (Lk 35 _) ad
 refine aj (jh hR F) ?_
 ((refine ae hE Tryz.func39 rfl _ rfl ⟨y,by rw[hy];rfl,rfl,by rw[hy],by rw[hy];exact hn.symm,by rw[hy],by rw[hy]⟩ ad))
end Go.Proofs.YtedjnjkijiddlaaGreatDoor
