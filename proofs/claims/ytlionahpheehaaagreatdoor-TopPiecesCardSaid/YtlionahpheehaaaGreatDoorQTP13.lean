import Derived.Test.YtlionahpheehaaaGreatDoorQTP3
import Derived.Test.YtlionahpheehaaaGreatDoorQTP4
import Derived.Test.YtlionahpheehaaaGreatDoorQTP5
import Derived.Test.YtlionahpheehaaaGreatDoorQTP8
import Derived.Test.YtlionahpheehaaaGreatDoorQTP9
import Derived.Test.YtlionahpheehaaaGreatDoorQTP10
import Derived.Test.YtlionahpheehaaaGreatDoorQTP11
import Derived.Test.YtlionahpheehaaaGreatDoorQTP12
set_option linter.unusedSimpArgs false
set_option linter.unusedVariables false
set_option maxRecDepth 20000
set_option linter.defProp false
namespace Go.Proofs.YtlionahpheehaaaGreatDoor
open Go Go.SL
def Fy.afP{M:Rws}{ls:List (List UInt8)}(h:Fy M ls){A:HP}{cs:List Value}{ls2:List (List UInt8)}(hl:cs.length=ls2.length)(hx:∀(i:Nat) (x:List UInt8),ls2[i]?=some x→∃cv,cs[i]?=some cv∧eU A cv x):Fy ⟨M.cs++cs,Sep [A,M.Z]⟩ (ls++ls2):=by
 obtain⟨h1,h2⟩:=h
 refine⟨by simp[h1,hl],fun i y hy=>?_⟩
 simp only
 rw[List.getElem?_append]at hy ⊢
 rw[h1]
 split at hy
 ·rename_i dk
  rw[if_pos dk]
  obtain⟨cv',h3,h4⟩:=h2 i y hy
  exact⟨cv',h3,h4.mono (aX (i:=1) rfl)⟩
 ·rename_i fO
  rw[if_neg fO]
  obtain⟨cv',h3,h4⟩:=hx _ y hy
  exact⟨cv',h3,h4.mono (aX (i:=0) rfl)⟩
attribute [local irreducible] J K aH Ends ak aK aV bX bj aS bp bD cp aJ dj yP
set_option maxHeartbeats 4000000 in
theorem D6(X:HP)(hK:qI X)(bs bd:Nat)(q:Int)(hq:0≤q∧q≤1073741824)(mb:Nat)(s:fW)(RA:qS s.bu)(jx:s.bu.length≤900000)(cN:s.A.aF.length≤700000000)(fD:s.A.writes.length≤700000000)(pQ:(gU s.A dF).length≤900000)(Rv:∀x∈gU s.A dF,x.length≤1000000)(l8:((gU s.A dF).foldl dL []).length≤100) :
    aH Tryz.prog 9 [ptr bd,ptr bs] (cV bs bd q mb s++[X])
    (fun r H=>∃(e:Nat) (t:fW) (jn:JN) (cs:List TC),FA q s e t jn cs∧((e≠0∧r = .tuple #[.pointer none,.int .i64 (e:Int)]∧H=cV bs bd q mb t++[X])∨(e=0∧∃tb jb tv ts,gI ts=cs∧r = .tuple #[ptr tb,.int .i64 0]∧H=lN tb bs jb tv ts false++[dj bs bd jb q mb [] (t,jn),X]))):=by
  obtain⟨A,bu,brk⟩:=s
  have hop:=Sg bd dF A (by decide) (by simp only at cN;omega) (by simp only at fD;omega)
  have VJ:dF=⟨#[112,105,101,99,101,115]⟩:=rfl
  rw[VJ]at hop
  simp only at RA jx cN fD pQ l8 Rv
  refine aH.aC Tryz.func9 Tryz.ntmps9 fun G F R hE=>?_
  refine al (H':=aJ bd A::ak bs (cl (eJ bd q mb brk) 88)::aV dV mb (dJ bu)::X::F) (by unfold cV;exact ad) ?_
  refine go ?_
  refine ao hop ?_
  rintro _ _⟨e1,A1,j1,hO,⟨S4,rfl,rfl⟩|⟨rfl,jb,lv,rfl,rfl⟩⟩
  · rw[← VJ]at hO
    refine go ?_
    refine aB zr zr ?_ ?_
    case' refine_2=>(intro h;exfalso;omega)
    intro _
    refine go ?_
    refine al (H':=cV bs bd q mb ⟨A1,bu,brk⟩++(X::F)) (by unfold cV;exact ad) ?_
    ((refine ah hE Tryz.func9 zr zr ⟨e1,⟨A1,bu,brk⟩,j1,[],⟨e1,A1,j1,hO,by rw[if_pos S4];exact⟨rfl,rfl⟩⟩,.inl ⟨S4,rfl,rfl⟩⟩))
  rw[← VJ]at hO
  have hog:=vg hO
  obtain⟨ls,Dy⟩:∃ls,ls=gU A dF:=⟨_,rfl⟩
  rw[← VJ,← Dy]
  rw[← Dy]at pQ Rv l8
  refine zt ?_
  refine jw rfl ?_
  refine al (H':=yP lv ls::aJ bd A1::uY jb bd dF j1::ak bs (cl (eJ bd q mb brk) 88)::aV dV mb (dJ bu)::X::F) (by rw[VJ];exact ad) ?_
  refine dZ (JX lv ls) ?_
  rintro⟨cs,M⟩ hRR
  refine We 0 hRR rfl ?_
  intro oq
  obtain⟨Z,hZ⟩:∃Z,Z=Sep [aK 22 1 lv ls.length cs,bp 5 M]:=⟨_,rfl⟩
  refine al (aq.cg [aK 22 1 lv ls.length cs,bp 5 M] _) ?_
  rw[← hZ]at oq ⊢
  clear hZ hRR M cs
  obtain⟨cs,dH,kJ,⟨la,lc,rfl,hlc⟩,tq⟩:=oq
  refine go ?_
  refine bJ zr zr bO ?_
  intro tb
  refine go ?_
  refine al (aq.trans (bS 103 1 none _) (Lk _)) ?_
  refine bF (fun y:Nat × List Tk × Value=>y.1≤ls.length∧gI y.2.1=(ls.take y.1).foldl dL []∧y.2.1.length≤y.1) (fun y=>ls.length-y.1)
    (fun y=>[(0,ptr bd),(1,ptr bs),(6,ptr jb),(9,ptr tb),(37,.slice la ls.length lc),(38,.int .i64 (ls.length:Int)),(39,.int .i64 (y.1:Int))])
    (fun y=>Z::ak tb (cl [ptr bs,ptr jb,y.2.2,.bool false] 101)::aK 103 1 y.2.2 y.2.1.length (y.2.1.map dm)::bK y.2.1::aJ bd A1::uY jb bd dF j1::ak bs (cl (eJ bd q mb brk) 88)::aV dV mb (dJ bu)::X::F) (0,[],.slice none 0 0) ⟨Nat.zero_le _,rfl,Nat.le_refl _⟩ rfl cF ad ?_
  rintro⟨i,ts,tv⟩⟨hi,Cx,aeF⟩ ih
  simp only at hi Cx aeF
  dsimp only
  refine go ?_
  refine aB zr zr ?_ ?_
  · intro dk
    have e9:i<ls.length:=by omega
    obtain⟨x,hx⟩:∃x,ls[i]?=some x:=⟨ls[i],by simp⟩
    obtain⟨cv,qP,DF⟩:=tq i x hx
    have om:ls.take (i+1)=ls.take i++[x]:=by rw[List.take_add_one,hx];rfl
    have k8:∀y∈ts,k7 y.c:=fun y hy=>((rz (ls.take i)).1 y.c (by rw[← Cx];exact List.mem_map.2 ⟨y,hy,rfl⟩)).1
    have QY:=Pw Z tb bs jb tv false ts cv x DF (by have:=Rv x (List.mem_of_getElem? hx);omega) aj (fun y hy=>Nat.le_trans (k8 y hy).1 aj) (fun y hy=>(k8 y hy).2.1)
    unfold lN at QY
    obtain⟨bb,oo,cc,he⟩:=dH.some (by intro h;rw[h]at qP;cases qP)
    simp only[Value.slice.injEq,true_and]at he
    obtain⟨rfl,rfl⟩:=he
    obtain⟨xa,xc,rfl,_⟩:=DF.2
    refine go ?_
    refine bW i zr zr zr zr zr zr zr zr e9 ?_
    refine aY ?_
    refine aZ 0 i zr zr zr dH rfl qP zr zr (go ?_)
    refine ao QY ?_
    rintro _ _⟨rfl,eG,sJ,aft,rfl⟩
    refine go ?_
    have afs:gI eG=(ls.take (i+1)).foldl dL []:=by rw[aft,Cx,om,List.foldl_append];rfl
    have rX:eG.length≤i+1:=by
      grind [rz,tB]
    refine aQ ih (i+1,eG,sJ) rfl ⟨by simp only;omega,afs,rX⟩ (by simp only;omega) cF ad
  intro fO
  have ue:i=ls.length:=by omega
  subst ue
  rw[List.take_length]at Cx
  clear ih
  have htr:∀y∈ts,Pc y.c:=fun y hy=>(rz ls).1 y.c (by rw[← Cx];exact List.mem_map.2 ⟨y,hy,rfl⟩)
  have aeG:ts.length≤100:=by rw[← tB,Cx];exact l8
  refine al (aq.pick [2] rfl) ?_
  refine aM 0 rfl ?_
  rintro ta tc rfl
  refine eE 0 rfl ?_
  intro hvt
  refine al (H':=ak tb (cl [ptr bs,ptr jb,.slice ta ts.length tc,.bool false] 101)::aK 103 1 (.slice ta ts.length tc) ts.length (ts.map dm)::bK ts::aJ bd A1::uY jb bd dF j1::ak bs (cl (eJ bd q mb brk) 88)::aV dV mb (dJ bu)::X::F) ad (go ?_)
  have afw:∀H,aq (H) (aK 103 1 (.slice none 0 0) 0 []::bK []::aK 22 1 (.slice none 0 0) 0 []::Sep []::H):=fun H=>aq.trans (aq.cg [] H) (aq.trans (bS 22 1 none _) (aq.trans (Lk _) (bS 103 1 none _)))
  refine al (H':=cV bs bd q mb ⟨A1,bu,brk⟩++(uY jb bd dF j1::bK ts::aK 103 1 (.slice ta ts.length tc) ts.length (ts.map dm)::ak tb (cl [ptr bs,ptr jb,.slice none 0 0,.bool false] 101)::X::F)) (by unfold cV;exact ad) ?_
  refine al (BR bs bd jb q mb (⟨A1,bu,brk⟩,j1) _) ?_
  refine al (afw _) ?_
  refine bF (fun z:Nat × fW × List Tk × Value × List (List UInt8) × Rws × Option Addr × Nat=>z.1≤ts.length∧(∀e t cs rs,ux q (gI (ts.drop z.1)) z.2.1 (gI z.2.2.1) z.2.2.2.2.1 e t cs rs→ux q (gI ts) ⟨A1,bu,brk⟩ [] [] e t cs rs)∧(qS z.2.1.bu∧z.2.1.bu.length≤bu.length+z.1)∧(z.2.1.A.aF.length≤A1.aF.length+2*z.1∧z.2.1.A.writes.length≤A1.writes.length+2*z.1)∧z.2.2.1.length≤z.1∧Fy z.2.2.2.2.2.1 z.2.2.2.2.1∧(∀x∈z.2.2.2.2.1,x.length≤760)∧z.2.2.2.2.1.length≤1025*z.1) (fun z=>ts.length-z.1)
    (fun z=>[(0,ptr bd),(1,ptr bs),(6,ptr jb),(9,ptr tb),(13,.slice z.2.2.2.2.2.2.1 z.2.2.2.2.2.1.cs.length z.2.2.2.2.2.2.2),(54,.slice ta ts.length tc),(55,.int .i64 (ts.length:Int)),(56,.int .i64 (z.1:Int))])
    (fun z=>aK 103 1 z.2.2.2.1 z.2.2.1.length (z.2.2.1.map dm)::bK z.2.2.1::aK 22 1 (.slice z.2.2.2.2.2.2.1 z.2.2.2.2.2.1.cs.length z.2.2.2.2.2.2.2) z.2.2.2.2.2.1.cs.length z.2.2.2.2.2.1.cs::z.2.2.2.2.2.1.Z::dj bs bd jb q mb [] (z.2.1,j1)::bK (ts.drop z.1)::aK 103 1 (.slice ta ts.length tc) ts.length (ts.map dm)::ak tb (cl [ptr bs,ptr jb,z.2.2.2.1,.bool false] 101)::X::F) (0,⟨A1,bu,brk⟩,[],.slice none 0 0,[],⟨[],Sep []⟩,none,0) ⟨Nat.zero_le _,fun _ _ _ _ h=>h,⟨RA,by simp⟩,⟨by simp,by simp⟩,Nat.le_refl _,⟨rfl,fun i x h=>by cases h⟩,fun x h=>(by cases h),by simp⟩ rfl cF ad ?_
  rintro⟨i,s,us,uv,rs,M,oa,oc⟩⟨hi,hOL,⟨y8,afA⟩,⟨ez,aeK⟩,aeC,hM,LS,aeM⟩ ih
  simp only at hi hOL y8 afA ez aeK aeC hM LS aeM
  dsimp only
  have hMl:=hM.1
  refine go ?_
  refine aB zr zr ?_ ?_
  case' refine_2 =>
    intro fO
    have ue:i=ts.length:=by omega
    subst ue
    clear ih
    have ou:=hOL 0 s (gI us) rs (by rw[List.drop_length];exact⟨rfl,rfl,rfl,rfl⟩)
    refine al (H':=aK 22 1 (.slice oa M.cs.length oc) M.cs.length M.cs::M.Z::dj bs bd jb q mb [] (s,j1)::aK 103 1 uv us.length (us.map dm)::bK us::ak tb (cl [ptr bs,ptr jb,uv,.bool false] 101)::X::F) ad ?_
    refine sA 0 rfl ?_
    intro jE
    refine eE 0 rfl ?_
    intro QX
    have oq:xh (Sep [aK 22 1 (.slice oa M.cs.length oc) M.cs.length M.cs,M.Z]) (.slice oa M.cs.length oc) rs:=by
      rw[hMl]at QX jE ⊢
      exact xh.ofP QX jE hMl hM.2
    have hfb:=Bo rs (1025*100) LS aj
    have hcm:=IL jb bd dF (by decide) s.A j1 _ _ rs oq aj aj aj aj
    refine al (aq.cg [aK 22 1 (.slice oa M.cs.length oc) M.cs.length M.cs,M.Z] _) ?_
    refine al (H':=dj bs bd jb q mb [] (s,j1)::Sep [aK 22 1 (.slice oa M.cs.length oc) M.cs.length M.cs,M.Z]::aK 103 1 uv us.length (us.map dm)::bK us::ak tb (cl [ptr bs,ptr jb,uv,.bool false] 101)::X::F) ad ?_
    refine al (KO bs bd jb q mb (s,j1) _) ?_
    unfold cV
    refine go ?_
    refine ao hcm ?_
    rintro _ _⟨e3,A3,jn,rfl,rfl,hCR⟩
    have Uw:FA q ⟨A,bu,brk⟩ e3 ⟨A3,s.bu,s.brk⟩ jn (gI us):=⟨0,A1,j1,hO,by
      rw[if_neg aj]
      refine⟨0,s,rs,by rw[← Dy];rw[Cx]at ou;exact ou,?_⟩
      rw[if_neg aj]
      exact⟨A3,hCR,rfl⟩⟩
    by_cases he3:e3=0
    · subst he3
      refine go ?_
      refine al (H':=cV bs bd q mb ⟨A3,s.bu,s.brk⟩++(uY jb bd dF jn::ak tb (cl [ptr bs,ptr jb,uv,.bool false] 101)::aK 103 1 uv us.length (us.map dm)::bK us::X::F)) (by unfold cV;exact ad) ?_
      refine al (BR bs bd jb q mb (⟨A3,s.bu,s.brk⟩,jn) _) ?_
      refine al (H':=lN tb bs jb uv us false++([dj bs bd jb q mb [] (⟨A3,s.bu,s.brk⟩,jn),X]++F)) (by unfold lN;exact ad) ?_
      refine ah hE Tryz.func9 zr zr ⟨0,⟨A3,s.bu,s.brk⟩,jn,gI us,Uw,.inr ⟨rfl,tb,jb,uv,us,rfl,rfl,rfl⟩⟩
    · refine go ?_
      refine aB zr zr ?_ ?_
      case' refine_2=>(intro h;exfalso;omega)
      intro _
      refine go ?_
      refine al (H':=cV bs bd q mb ⟨A3,s.bu,s.brk⟩++(X::F)) (by unfold cV;exact ad) ?_
      refine ah hE Tryz.func9 zr zr ⟨e3,⟨A3,s.bu,s.brk⟩,jn,gI us,Uw,.inl ⟨he3,rfl,rfl⟩⟩
  intro dk
  have e9:i<ts.length:=by omega
  obtain⟨y,hy⟩:∃y,ts[i]?=some y:=⟨ts[i],by simp⟩
  have hyr:=htr y (List.mem_of_getElem? hy)
  have Bb:=dB (x:=y.x) hyr.2
  have ke:ts.drop i=y::ts.drop (i+1):=by
    obtain⟨h1,h2⟩:=List.getElem?_eq_some_iff.1 hy
    rw[List.drop_eq_getElem_cons h1,h2]
  have aaF:gI (ts.drop i)=y.c::gI (ts.drop (i+1)):=by rw[ke];rfl
  rw[aaF]at hOL
  have np:=Em [] (ts.drop (i+1)) y
  simp only[List.nil_append]at np
  rw[← ke]at np
  have aaI:=IT bs bd q hq mb s y.x y8 aj aj
  unfold ix at aaI
  obtain⟨R1,Qr,cc9,he9⟩:=hvt.some (Tj e9)
  simp only[Value.slice.injEq,true_and]at he9
  obtain⟨rfl,rfl⟩:=he9
  refine al (H':=bK (ts.drop i)::aK 103 1 (.slice (some ⟨R1,Qr,none⟩) ts.length tc) ts.length (ts.map dm)::dj bs bd jb q mb [] (s,j1)::aK 103 1 uv us.length (us.map dm)::bK us::aK 22 1 (.slice oa M.cs.length oc) M.cs.length M.cs::M.Z::ak tb (cl [ptr bs,ptr jb,uv,.bool false] 101)::X::F) ad ?_
  refine al (np _) ?_
  refine dZ (iF y) ?_
  rintro⟨wv,Md,N⟩ hz
  have jo:∀H,aq (ak y.yb (cl (qT y) 107)::ak y.sb (cl [.int .i64 (y.n:Int),wv] 225)::aK 159 1 wv y.ws.length (qV y.ws)::aV (Value.int .i64) y.mb Md::bp 29 N::H) (pY y::H):=fun H=>aq.trans (H2:=zx y (wv,Md,N)++H) (by unfold zx;exact ad) (ld hz _)
  refine al (H':=dj bs bd jb q mb [] (s,j1)::ak y.yb (cl (qT y) 107)::ak y.sb (cl [.int .i64 (y.n:Int),wv] 225)::aK 159 1 wv y.ws.length (qV y.ws)::aV (Value.int .i64) y.mb Md::bp 29 N::aK 103 1 (.slice (some ⟨R1,Qr,none⟩) ts.length tc) ts.length (ts.map dm)::bK (ts.drop (i+1))::aK 103 1 uv us.length (us.map dm)::bK us::aK 22 1 (.slice oa M.cs.length oc) M.cs.length M.cs::M.Z::ak tb (cl [ptr bs,ptr jb,uv,.bool false] 101)::X::F) (by unfold zx;exact ad) ?_
  refine al (KO bs bd jb q mb (s,j1) _) ?_
  refine al (H':=aK 103 1 (.slice (some ⟨R1,Qr,none⟩) ts.length tc) ts.length (ts.map dm)::ak y.yb (cl (qT y) 107)::ak y.sb (cl [.int .i64 (y.n:Int),wv] 225)::aK 159 1 wv y.ws.length (qV y.ws)::aV (Value.int .i64) y.mb Md::bp 29 N::(cV bs bd q mb s++(uY jb bd dF j1::bK (ts.drop (i+1))::aK 103 1 uv us.length (us.map dm)::bK us::aK 22 1 (.slice oa M.cs.length oc) M.cs.length M.cs::M.Z::ak tb (cl [ptr bs,ptr jb,uv,.bool false] 101)::X::F))) ad (go ?_)
  refine bW i zr zr zr zr zr zr zr zr e9 ?_
  refine aY ?_
  refine aZ 0 i zr zr zr hvt rfl (vF hy) zr zr (go ?_)
  refine ct (cs:=ck y.x) 1 zr zr zr zr zr zr (go ?_)
  refine ao aaI ?_
  rintro _ _⟨e1,s1,rfl,rfl,hBR⟩
  refine zt ?_
  refine jw rfl ?_
  have Us:=y8.begin aj hyr.2 hBR
  have hgr:=sG hBR
  refine al (aq.trans (H2:=ak y.yb (cl (qT y) 107)::ak y.sb (cl [.int .i64 (y.n:Int),wv] 225)::aK 159 1 wv y.ws.length (qV y.ws)::aV (Value.int .i64) y.mb Md::bp 29 N::aK 103 1 (.slice (some ⟨R1,Qr,none⟩) ts.length tc) ts.length (ts.map dm)::bK (ts.drop (i+1))::(cV bs bd q mb s1++(uY jb bd dF j1::aK 103 1 uv us.length (us.map dm)::bK us::aK 22 1 (.slice oa M.cs.length oc) M.cs.length M.cs::M.Z::ak tb (cl [ptr bs,ptr jb,uv,.bool false] 101)::X::F))) ad (jo _)) ?_
  by_cases LP:e1=5∨e1=11
  · have rW:∀e t cs CY,ux q (gI (ts.drop (i+1))) s1 (gI us) rs e t cs CY→ux q (gI ts) ⟨A1,bu,brk⟩ [] [] e t cs CY:=fun e t cs CY h=>hOL e t cs CY ⟨e1,s1,hBR,by rw[if_pos LP];exact h⟩
    refine al (aq.trans ad (BR bs bd jb q mb (s1,j1) (bK (ts.drop (i+1))::aK 103 1 (.slice (some ⟨R1,Qr,none⟩) ts.length tc) ts.length (ts.map dm)::aK 103 1 uv us.length (us.map dm)::bK us::aK 22 1 (.slice oa M.cs.length oc) M.cs.length M.cs::M.Z::ak tb (cl [ptr bs,ptr jb,uv,.bool false] 101)::X::F))) ?_
    rcases LP with rfl|rfl
    all_goals(
      refine go ?_
      refine aQ ih (i+1,s1,us,uv,rs,M,oa,oc) rfl ⟨by simp only;omega,rW,⟨Us.1,by simp only;have:=Us.2;omega⟩,⟨by simp only;have:=hgr.1;omega,by simp only;have:=hgr.2;omega⟩,by simp only;omega,hM,LS,by simp only;omega⟩ (by simp only;omega) cF ad)
  by_cases tT:e1=0
  case neg =>
    have adz:=hOL e1 s1 [] [] ⟨e1,s1,hBR,by rw[if_neg LP,if_pos tT];exact⟨rfl,rfl⟩⟩
    rw[Cx]at adz
    have V3:FA q ⟨A,bu,brk⟩ e1 s1 j1 []:=by
      refine⟨0,A1,j1,hO,?_⟩
      grind
    refine go ?_
    refine au 68 ((.bool false)) rfl ((congrArg Value.bool (decide_eq_false aj))) (go ?_)
    refine aE 71 ((.bool false)) rfl ((congrArg Value.bool (decide_eq_false aj))) (go ?_)
    refine aB zr zr ?_ ?_
    case' refine_2=>(intro h;exfalso;omega)
    intro _
    refine go ?_
    refine al (H':=cV bs bd q mb s1++(X::F)) ad ?_
    refine ah hE Tryz.func9 zr zr ⟨e1,s1,j1,[],V3,.inl ⟨tT,rfl,rfl⟩⟩
  subst tT
  refine ad5 5 rfl ?_
  intro aeN
  have hRd:∀nm at_ n,(s1.A.read nm at_ n).1.length≤1048576:=fun nm at_ n=>Gy s1.A aeN nm at_ n
  obtain⟨Kb,rX⟩:=NM s1 y.c hyr
  have rW:∀e t cs CY,ux q (gI (ts.drop (i+1))) s1 (gI us++[(lU s1 y.c).1]) (rs++(lU s1 y.c).2) e t cs CY→ux q (gI ts) ⟨A1,bu,brk⟩ [] [] e t cs CY:=fun e t cs CY h=>hOL e t cs CY ⟨0,s1,hBR,by rw[if_neg LP,if_neg aj];exact h⟩
  have VV:=fun tv=>Q' X hK tb bs jb bd tv false q mb (s1,j1) hRd y hyr.1 aj aj
  refine al (aq.trans ad (BR bs bd jb q mb (s1,j1) (aK 103 1 uv us.length (us.map dm)::ak tb (cl [ptr bs,ptr jb,uv,.bool false] 101)::pY y::X::aK 22 1 (.slice oa M.cs.length oc) M.cs.length M.cs::M.Z::aK 103 1 (.slice (some ⟨R1,Qr,none⟩) ts.length tc) ts.length (ts.map dm)::bK (ts.drop (i+1))::bK us::F))) ?_
  refine aM 1 rfl ?_
  rintro ua uc rfl
  refine al (H':=ak tb (cl [ptr bs,ptr jb,.slice ua us.length uc,.bool false] 101)::aK 103 1 (.slice ua us.length uc) us.length (us.map dm)::pY y::dj bs bd jb q mb [] (s1,j1)::X::aK 22 1 (.slice oa M.cs.length oc) M.cs.length M.cs::M.Z::aK 103 1 (.slice (some ⟨R1,Qr,none⟩) ts.length tc) ts.length (ts.map dm)::bK (ts.drop (i+1))::bK us::F) ad (go ?_)
  refine az (cs:=[ptr y.yb]) zr zr zr zr zr zr zr zr zr bO ?_
  intro r1
  refine go ?_
  refine bg (mm:=1) (news:=[ptr y.yb]) 2 0 rfl rfl rfl rfl rfl rfl rfl rfl rfl rfl rfl rfl (Vw.ak rfl) rfl (by intro v hv;simp at hv;rw[hv];rfl) aj (by show(_+_)*8≤_;omega) (fun _=>rfl) bO ?_
  intro v1
  refine aN 2 rfl ?_
  rintro va vc rfl
  refine go ?_
  refine ao (VV (.slice va (us.length+1) vc)) ?_
  rintro r9 _⟨y',Z2,aer,acM,adm,rfl⟩
  obtain⟨I9,rl,aaD,⟨ra,rc,rfl,LR⟩,aaA⟩:=adm
  simp only at acM rl aaD aaA LR
  have Bm:=hM.afP aaD aaA
  have gD:∀v∈I9,v.oneCell'=true:=fun v hv=>by
    obtain⟨j,hj,rfl⟩:=List.getElem_of_mem hv
    obtain⟨x,hx⟩:∃x,(lU s1 y.c).2[j]?=some x:=⟨(lU s1 y.c).2[j]' aj,by simp⟩
    obtain⟨cv,h1,h2⟩:=aaA j x hx
    obtain⟨_,_,rfl,_⟩:=h2.2
    rw[List.getElem?_eq_getElem hj]at h1
    injection h1 with h1
    rw[h1];rfl
  refine aT (H':=aK 22 1 (.slice oa M.cs.length oc) M.cs.length M.cs::Z2::ak tb (cl [ptr bs,ptr jb,.slice va (us.length+1) vc,.bool false] 101)::pY y'::dj bs bd jb q mb [] (s1,j1)::X::M.Z::aK 103 1 (.slice (some ⟨R1,Qr,none⟩) ts.length tc) ts.length (ts.map dm)::bK (ts.drop (i+1))::bK us::aK 103 1 (.slice va (us.length+1) vc) (us.length+1) (us.map dm++[ptr y.yb])::F) ad (go ?_)
  refine bg (mm:=(lU s1 y.c).2.length) (news:=I9) 0 1 zr zr zr zr zr zr zr zr zr zr zr zr rl (by show _=_*1;omega) gD aj (by show(_+_)*24≤_;omega) (fun _=>rfl) bO ?_
  intro v2
  refine aN 0 rfl ?_
  rintro wa wc rfl
  refine go ?_
  have NO:us.map dm++[ptr y.yb]=(us++[y']).map dm:=by rw[← aer];simp[dm]
  have EX:us.length+1=(us++[y']).length:=by simp
  have aaC:(M.cs++I9).length=M.cs.length+(lU s1 y.c).2.length:=by rw[List.length_append,aaD]
  have nI:=xr us [] y'
  rw[List.append_nil]at nI
  rw[NO,EX]
  refine al (H':=pY y'::bK us::Z2::M.Z::aK 22 1 (.slice wa (M.cs++I9).length wc) (M.cs++I9).length (M.cs++I9)::dj bs bd jb q mb [] (s1,j1)::X::aK 103 1 (.slice (some ⟨R1,Qr,none⟩) ts.length tc) ts.length (ts.map dm)::bK (ts.drop (i+1))::aK 103 1 (.slice va (us++[y']).length vc) (us++[y']).length ((us++[y']).map dm)::ak tb (cl [ptr bs,ptr jb,.slice va (us++[y']).length vc,.bool false] 101)::F) (by rw[aaC];exact ad) ?_
  refine al (nI _) ?_
  refine al (H':=Z2::M.Z::bK (us++[y'])::aK 22 1 (.slice wa (M.cs++I9).length wc) (M.cs++I9).length (M.cs++I9)::dj bs bd jb q mb [] (s1,j1)::X::aK 103 1 (.slice (some ⟨R1,Qr,none⟩) ts.length tc) ts.length (ts.map dm)::bK (ts.drop (i+1))::aK 103 1 (.slice va (us++[y']).length vc) (us++[y']).length ((us++[y']).map dm)::ak tb (cl [ptr bs,ptr jb,.slice va (us++[y']).length vc,.bool false] 101)::F) ad ?_
  refine al (aq.cg [Z2,M.Z] _) ?_
  have hcu:gI (us++[y'])=gI us++[(lU s1 y.c).1]:=by rw[Fg,acM]
  rw[← hcu]at rW
  refine aE 13 ((.slice wa (M.cs++I9).length wc)) rfl ((by rw[aaC])) ?_
  refine aQ ih (i+1,s1,us++[y'],.slice va (us++[y']).length vc,rs++(lU s1 y.c).2,⟨M.cs++I9,Sep [Z2,M.Z]⟩,wa,wc) rfl ⟨by simp only;omega,rW,⟨Us.1,by simp only;have:=Us.2;omega⟩,⟨by simp only;have:=hgr.1;omega,by simp only;have:=hgr.2;omega⟩,by simp only[List.length_append,List.length_singleton];omega,Bm,(fun x hx=>by
    rcases List.mem_append.1 hx with h|h
    · exact LS x h
    · exact Kb x h),by simp only[List.length_append];omega⟩ (by simp only;omega) cF ad
end Go.Proofs.YtlionahpheehaaaGreatDoor
namespace Go.Proofs.YtlionahpheehaaaGreatDoor
open Go Go.SL
def wP(q:Int)(A:Ab)(e:Nat)(t:SJ)(cs:List TC):Prop :=
 ∃e1 B,sw A e1 B∧if e1≠0 then e=e1 else ∃s jn,FA q ⟨B,[],false⟩ e s jn cs∧t=(s,jn)
attribute [local irreducible] J K aH Ends ak aK aV bX bj aS bp bD cp aJ dj yP
end Go.Proofs.YtlionahpheehaaaGreatDoor
namespace Go.Proofs.YtlionahpheehaaaGreatDoor
open Go Go.SL
theorem Eg{A:Ab}(h:A.names=[]):vw A=fun _=>none:=by
 funext n
 unfold vw Ab.look Ab.cW
 rw[h];rfl
theorem Kr{A:Ab}{nm:ByteArray}(h:HA A)(hv:vw A nm=none):gU A nm=[]:=by
 have qY:A.look nm=none:=by
  unfold vw at hv
  cases hx:A.look nm with
  | none=>rfl
  | some f=>rw[hx]at hv;cases hv
 have rV:(A.read nm 0 (A.size nm).1).1=[]:=by
  unfold Ab.read
  grind
 unfold gU
 rw[rV]
 rfl
theorem oH:(cB []).length=32:=by unfold cB;simp[gT]
theorem Ox{q:Int}{A:Ab}{e:Nat}{t:SJ}{cs:List TC}(h:HA A)(hn:A.names=[])(hr:64≤A.room)(hR:wP q A e t cs) :
  e=0∧cs=[]∧HA t.1.A∧t.1.bu=[]∧t.1.brk=false∧vw t.1.A=gl (fun _=>none) dF (some (cB []))∧t.1.A.room=A.room∧t.2=⟨1,0,0,false⟩∧t.1.A.names.length=1∧t.1.A.used=32∧t.1.A.aF.length≤A.aF.length+14∧t.1.A.writes.length≤A.writes.length+14:=by
 obtain⟨e1,B,hO,hR⟩:=hR
 obtain⟨rfl,rfl⟩:=BS hn hO
 rw[if_neg aj]at hR
 obtain⟨s,jn,⟨e2,A1,j1,hO1,hR⟩,rfl⟩:=hR
 simp only at hO1 hR
 have kX:=Eg hn
 have hu0:B.used=0:=by unfold Ab.used;rw[hn];rfl
 have I4:=vg hO1
 obtain⟨rfl,k1,k2,k3,k4,k5⟩:=AH h fC j7 qh (by rw[kX]) (by rw[kX]) (by rw[hn];simp) aj hO1
 rw[kX]at k2
 rw[if_neg aj,k5]at hR
 obtain⟨e3,s2,rs,⟨rfl,rfl,rfl,rfl⟩,hR⟩:=hR
 rw[if_neg aj]at hR
 obtain⟨A3,hC,rfl⟩:=hR
 simp only at hC
 subst k4
 unfold pO at hC
 rw[if_neg (by simp),if_neg (by simp),if_neg (by simp)]at hC
 obtain⟨y,hP,rfl,rfl⟩:=hC
 obtain⟨hu1,hn1⟩:=h.ru k1 (k:=dF) (c:=cB []) (by rw[kX]) (by rw[k2,kX])
 have O7:=yp hP
 simp only at O7
 obtain⟨rfl,m1,m2,m3,m4⟩:=C6 k1 fC j7 qh (by rw[k2,eM _ _ qh]) (by rw[hn1,hn];simp) (by rw[oH];omega) (by rw[oH,hu1,k3,hu0,oH];omega) hP
 have rk:vw y.1=gl (fun _=>none) dF (some (cB [])):=by
  rw[m2,k2]
  funext m
  grind [gl]
 obtain⟨hu2,VO⟩:=h.ru m1 (k:=dF) (c:=cB []) (by rw[kX]) (by rw[rk,kX])
 grind [oH]
def UQ{ts:List Tk}(h:gI ts=[]):ts=[]:=by
 unfold gI at h
 exact List.map_eq_nil_iff.1 h
theorem RJ{A:Ab}(h:HA A)(hn:A.names=[])(hw:A.writes.length≤700000000):∀B,sw A 0 B→B.writes.length≤700000000∧(gU B dF).length≤900000∧(∀x∈gU B dF,x.length≤1000000)∧((gU B dF).foldl dL []).length≤100:=by
 grind [BS,gU,dF,Kr,Eg]
attribute [local irreducible] J K aH Ends ak aK aV bX bj aS bp bD cp Sha.chunks Sha.chunk Sha.rounds Sha.sched fz cY GI fG aJ dj bK
end Go.Proofs.YtlionahpheehaaaGreatDoor
namespace Go.Proofs.YtlionahpheehaaaGreatDoor
open Go Go.SL
def F6:∀(l:List (Int × List UInt8)) (f:Nat),(∀x∈l,1≤x.1∧x.1≤63∧x.2.length≤100000)→(cU l).length≤f→rA f (cU l)=l
 | [],f,_,_=>by cases f <;> rfl
 | (n,b)::l,f,h,hf=>by
  obtain⟨h1,h2,h3⟩:=h (n,b) (List.mem_cons_self ..)
  simp only at h1 h2 h3
  have e:cU ((n,b)::l)=UInt8.ofNat n.toNat::(uv b.length++(b++cU l)):=by simp[cU,ig]
  have hc:=Fe (n:=b.length) aj (b++cU l)
  rw[e]at hf ⊢
  cases f with
  | zero=>simp at hf
  | succ f =>
   rw[List.length_cons,List.length_append,List.length_append]at hf
   unfold rA
   simp only
   rw[hc]
   simp only
   rw[if_pos ⟨trivial,by rw[List.length_append];omega⟩,List.take_left,List.drop_left]
   rw[F6 l f (fun x hx=>h x (List.mem_cons_of_mem _ hx)) aj]
   have:((UInt8.ofNat n.toNat).toNat:Int)=n:=by simp only[UInt8.toNat_ofNat'];omega
   rw[this]
theorem Gv:∀(i:Int) (l:List (List UInt8)) (z:Int × List UInt8),z∈nK i l→i≤z.1∧z.1<i+l.length
 | i,[],z,h=>by cases h
 | i,y::l,z,h=>by
  rw[List.length_cons]
  rcases List.mem_cons.1 h with rfl|h
  ·grind
  ·have:=Gv (i+1) l z h
   omega
theorem C3:∀(i:Int) (l:List (List UInt8)) (a:Int × List UInt8),a.1+1=i→((a::nK i l).getLast?.map (·.1))=some (i-1+l.length)
 | i,[],a,h=>by simp[nK];omega
 | i,y::l,a,h=>by
  rw[nK,List.getLast?_cons_cons,C3 (i+1) l (i,y) rfl,List.length_cons]
  grind
def Gu:∀(i:Int) (l:List (List UInt8)),(nK i l).map (·.2)=l
 | i,[]=>rfl
 | i,y::l=>by rw[nK,List.map_cons,Gu (i+1) l]
def Ma(d:Dg):wI d.bs=d:=by unfold wI;rw[dif_pos d.len]
theorem uQ(k:UInt8)(d:Dg)(ls:List (List UInt8))(hl:ls.length≤20)(hx:∀x∈ls,x.length≤32):jj (jB k d ls)=some (k,d,ls):=by
 have hlen:=jA k d ls hl hx
 have k8:∀x∈xH k d ls,1≤x.1∧x.1≤63∧x.2.length≤100000:=fun x Dr=>by
  unfold xH at Dr
  rcases List.mem_cons.1 Dr with rfl|Dr
  ·grind
  rcases List.mem_cons.1 Dr with rfl|Dr
  ·exact⟨by simp only;omega,by simp only;omega,by have:=d.len;simp only;omega⟩
  ·have h1:=Gv 3 ls x Dr
   grind [AA]
 have ht:nJ (jB k d ls)=some (xH k d ls):=by
  unfold nJ
  have h1:rA (jB k d ls).length (jB k d ls)=xH k d ls:=F6 _ _ k8 (Nat.le_refl _)
  grind [xH,fA,xG]
 unfold jj
 rw[ht]
 unfold xH
 simp only
 have hg:(((1,[k])::(2,d.bs)::nK 3 ls:List (Int × List UInt8)).getLast?.map (·.1))=some ((2+(nK 3 ls).length:Nat):Int):=by
  grind [C3,vO]
 rw[if_pos ⟨hg,rfl,d.len⟩,Ma,Gu]
 rfl
theorem EN{n:Nat}(h:n≤1048576):rN (uv n)=some n:=by
 grind [rN,sK]
def HB(d:Dg):ij d.bs=some d:=by unfold ij;rw[if_pos d.len,Ma]
def Bj:∀l:List Dg,nZ (l.map Dg.bs)=some l
 | []=>rfl
 | d::l=>by
  rw[List.map_cons]
  unfold nZ
  rw[HB,Bj l]
def Pv(cs:List TC)(d:Dg):dL cs (Og d)=Gs cs d:=F8 (uQ 3 d [] (by simp) (by simp))
theorem Ae(cs:List TC){x:Bl}(hr:bP x=true):dL cs (cm x)=Gs cs x.d++[dG x]:=by
 have hb:=dB hr
 have h1:jj (cm x)=some (1,x.d,jv x):=uQ 1 x.d (jv x) (by simp[jv]) (nC x aj aj)
 unfold jv at h1
 rw[yz h1,EN aj,EN aj,HB]
 simp only
 have:(⟨x.d,((x.size.toNat:Nat):Int),((x.piece.toNat:Nat):Int),x.root⟩:Bl)=x:=by
  cases x
  grind
 grind
def Ad(cs:List TC)(d:Dg){i:Nat}(hi:i≤1048576){p:List Dg}(hp:p.length≤10):dL cs (bQ d i p)=cs.map fun y=>if y.x.d=d∧i<y.n∧p.length=fU y.n i then y.put i p else y:=by
 have h1:jj (bQ d i p)=some (2,d,gy i p):=uQ 2 d (gy i p) (by simp[gy];omega) (nh i aj p)
 rw[yy h1]
 unfold ni
 rw[EN hi,Bj]
structure Td(c c':TC):Prop where
 x:c.x=c'.x
 n:c.n=c'.n
 w:c.n≤c.ws.length*64
 w':c'.n≤c'.ws.length*64
 b:∀i,cy c.ws c.n i=cy c'.ws c'.n i
 p:∀i,cy c.ws c.n i=true→c.pf i=c'.pf i
theorem Td.refl{c:TC}(h:c.n≤c.ws.length*64):Td c c:=⟨rfl,rfl,h,h,fun _=>rfl,fun _ _=>rfl⟩
theorem iu{ws:List ku}{n i:Nat}(hw:n≤ws.length*64)(hi:i<n)(j:Int):cy (jQ ws i true) n j=if j=(i:Int)then true else cy ws n j:=by
 by_cases nI:0≤j∧j<(n:Int)
 ·obtain⟨j',rfl⟩:∃j':Nat,j=j':=⟨j.toNat,aj⟩
  grind [RC]
 grind [wk]
theorem Td.put{c c':TC}(h:Td c c'){i:Nat}(hi:i<c.n)(l:List Dg):Td (c.put i l) (c'.put i l):=by
 have e9:i<c'.n:=h.n ▸ hi
 refine⟨h.x,h.n,by unfold TC.put;simp only[iH];exact h.w,by unfold TC.put;simp only[iH];exact h.w',fun j=>?_,fun j hj=>?_⟩
 ·unfold TC.put
  simp only
  rw[iu h.w hi,iu h.w' e9,h.b j]
 ·unfold TC.put at hj ⊢
  simp only at hj ⊢
  rw[iu h.w hi]at hj
  by_cases he:j=(i:Int)
  ·grind
  ·rw[if_neg he]at hj
   rw[if_neg he,if_neg he]
   exact h.p j hj
abbrev FO(cs k6:List TC):Prop:=fM Td cs k6
def FO.rm{cs k6:List TC}(h:FO cs k6)(d:Dg):FO (Gs cs d) (Gs k6 d):=fM.filter h fun x y EU=>by rw[EU.x]
theorem E4(x:Bl):(dG x).n≤(dG x).ws.length*64:=by
 grind [dG]
def Gr{cs:List TC}{d:Dg}(h:∀c∈cs,c.x.d≠d):Gs cs d=cs:=by
 unfold Gs
 simp_all
def FO.begin{cs k6:List TC}(h:FO cs k6){x:Bl}(kZ:∀c∈k6,c.x.d≠x.d):FO (Gs cs x.d++[dG x]) (k6++[dG x]):=by
 rw[Gr (fun c hc=>by
  obtain⟨i,hi⟩:=List.mem_iff_getElem?.1 hc
  obtain⟨y,hy,hcy⟩:=h.left hi
  rw[hcy.x]
  exact kZ y (List.mem_of_getElem? hy))]
 exact h.snoc (Td.refl (E4 x))
def FO.piece{cs k6:List TC}(h:FO cs k6)(hn:(k6.map fun c=>c.x.d).Nodup){k:Nat}{c':TC}(hk:k6[k]?=some c'){i:Nat}(hi:i<c'.n){p:List Dg}(hp:p.length=fU c'.n i) :
  FO (cs.map fun y=>if y.x.d=c'.x.d∧i<y.n∧p.length=fU y.n i then y.put i p else y) (k6.set k (c'.put i p)):=by
 refine⟨by rw[List.length_map,List.length_set];exact h.1,fun j a b ha hb=>?_⟩
 rw[List.getElem?_map]at ha
 obtain⟨a0,ha0,rfl⟩:=Option.map_eq_some_iff.1 ha
 obtain⟨b0,u4,uh⟩:=h.left ha0
 by_cases FT:k=j
 ·subst FT
  rw[hk]at u4
  injection u4 with u4
  subst u4
  rw[List.getElem?_set_self ((List.getElem?_eq_some_iff.1 hk).1)]at hb
  injection hb with hb
  subst hb
  rw[if_pos ⟨by rw[uh.x],by rw[uh.n];exact hi,by rw[uh.n];exact hp⟩]
  exact uh.put (by rw[uh.n];exact hi) p
 ·rw[List.getElem?_set_ne FT,u4]at hb
  injection hb with hb
  subst hb
  rw[if_neg (fun hc=>FT ?_)]
  ·exact uh
  ·have e1:(k6.map fun c=>c.x.d)[j]?=some b0.x.d:=by rw[List.getElem?_map,u4];rfl
   have e2:(k6.map fun c=>c.x.d)[k]?=some c'.x.d:=by rw[List.getElem?_map,hk];rfl
   exact((List.getElem?_inj ((List.getElem?_eq_some_iff.1 e2).1) hn).1 (by rw[e1,e2,← uh.x,hc.1]))
def gL(c:TC):List Nat:=(List.range c.n).filter fun i=>cy c.ws c.n (i:Int)
def qN(c:TC):List (List UInt8):=cm c.x::(gL c).map fun i=>bQ c.x.d i ((c.pf i).getD [])
theorem Hi{s:fW}{c:TC}(h:∀i:Nat,i<c.n→cy c.ws c.n (i:Int)=true→(eL s c.x i).2=0∧di c.x i (eL s c.x i).1 ((c.pf i).getD [])=true):∀k,k≤c.n →
  jl s c k=(c,cm c.x::((List.range k).filter fun i:Nat=>cy c.ws c.n (i:Int)).map fun i:Nat=>bQ c.x.d i ((c.pf i).getD []))
 | 0,_=>rfl
 | k+1,hk=>by
  rw[nq,Hi h k aj,List.range_succ,List.filter_append,List.map_append]
  unfold nX
  grind
def ng(c z:TC)(l:List Nat):TC:=l.foldl (fun z i=>z.put i ((c.pf i).getD [])) z
def Ls(c:TC):∀(l:List Nat) (z:TC),(ng c z l).x=z.x∧(ng c z l).n=z.n∧(ng c z l).ws.length=z.ws.length
 | [],z=>⟨rfl,rfl,rfl⟩
 | i::l,z=>by
  obtain⟨h1,h2,h3⟩:=Ls c l (z.put i ((c.pf i).getD []))
  exact⟨h1,h2,h3.trans (iH _ _ _)⟩
theorem C5(c:TC):∀(l:List Nat) (z:TC),z.n≤z.ws.length*64→(∀i∈l,i<z.n)→∀j:Int,cy (ng c z l).ws (ng c z l).n j=(decide (∃i∈l,j=(i:Int)) || cy z.ws z.n j)
 | [],z,_,_,j=>by simp[ng]
 | i::l,z,hw,hl,j=>by
  have hi:=hl i (List.mem_cons_self ..)
  have ih:=C5 c l (z.put i ((c.pf i).getD [])) (by unfold TC.put;simp only[iH];exact hw) (fun a ha=>hl a (List.mem_cons_of_mem _ ha)) j
  show cy (ng c (z.put i ((c.pf i).getD [])) l).ws (ng c (z.put i ((c.pf i).getD [])) l).n j=_
  rw[ih]
  unfold TC.put
  grind [iu]
theorem GA(c:TC):∀(l:List Nat) (z:TC) (j:Nat),j∈l→(ng c z l).pf j=some ((c.pf j).getD [])
 | [],z,j,h=>by cases h
 | i::l,z,j,h=>by
  by_cases I2:j∈l
  ·exact GA c l _ j I2
  ·rcases List.mem_cons.1 h with rfl|h
   ·have:∀(l:List Nat) (z:TC),j ∉ l→(ng c z l).pf j=z.pf j:=by
     intro l
     induction l with
     | nil=>intro z _;rfl
     | cons a l ih =>
      intro z hn
      rw[List.mem_cons,not_or]at hn
      show(ng c (z.put a ((c.pf a).getD [])) l).pf j=_
      rw[ih _ hn.2]
      unfold TC.put
      grind
    show(ng c (z.put j ((c.pf j).getD [])) l).pf j=_
    rw[this l _ I2]
    unfold TC.put
    simp
   grind
theorem yK{cs:List TC}{c:TC}(kZ:∀y∈cs,y.x.d≠c.x.d)(qO:∀i:Nat,i∈gL c→((c.pf i).getD []).length=fU c.n i∧((c.pf i).getD []).length≤10)(hc:c.n≤1048576):∀(l:List Nat) (z:TC),(∀i∈l,i∈gL c)→z.x=c.x→z.n=c.n →
  (l.map fun i=>bQ c.x.d i ((c.pf i).getD [])).foldl dL (cs++[z])=cs++[ng c z l]
 | [],z,_,_,_=>rfl
 | i::l,z,hl,hx,hn=>by
  have hi:=hl i (List.mem_cons_self ..)
  have nI:i<c.n:=List.mem_range.1 (List.mem_filter.1 hi).1
  obtain⟨h1,h2⟩:=qO i hi
  rw[List.map_cons,List.foldl_cons,Ad _ _ aj h2,List.map_append]
  have e1:cs.map (fun y=>if y.x.d=c.x.d∧i<y.n∧((c.pf i).getD []).length=fU y.n i then y.put i ((c.pf i).getD [])else y)=cs:=by
   conv=>rhs;rw[← List.map_id cs]
   refine List.map_congr_left fun y hy=>?_
   grind
  rw[e1,List.map_cons,List.map_nil,if_pos ⟨by rw[hx],by rw[hn];exact nI,by rw[hn];exact h1⟩]
  exact yK kZ qO hc l (z.put i ((c.pf i).getD [])) (fun a ha=>hl a (List.mem_cons_of_mem _ ha)) hx hn
theorem MY{cs:List TC}{c:TC}(kZ:∀y∈cs,y.x.d≠c.x.d)(hr:bP c.x=true)(hn:c.n=(cT c.x).toNat)(hw:c.n≤c.ws.length*64)(hc:c.n≤1048576)(hp:∀i:Nat,cy c.ws c.n (i:Int)=true→∃p,c.pf i=some p∧p.length=fU c.n i∧p.length≤10) :
  ∃c',(qN c).foldl dL cs=cs++[c']∧Td c' c:=by
 have fk:∀i:Nat,i∈gL c→i<c.n∧cy c.ws c.n (i:Int)=true:=fun i hi=>⟨List.mem_range.1 (List.mem_filter.1 hi).1,(List.mem_filter.1 hi).2⟩
 unfold qN
 rw[List.foldl_cons,Ae _ hr,Gr kZ]
 have S0:(dG c.x).n=c.n:=hn.symm
 rw[yK kZ (fun i hi=>by
  obtain⟨p,h1,h2,h3⟩:=hp i (fk i hi).2
  rw[h1]
  exact⟨h2,h3⟩) hc (gL c) (dG c.x) (fun i hi=>hi) rfl S0]
 obtain⟨e1,e2,e3⟩:=Ls c (gL c) (dG c.x)
 have u0:=C5 c (gL c) (dG c.x) (E4 c.x) (fun i hi=>by rw[S0];exact(fk i hi).1)
 have tQ:∀j,cy (dG c.x).ws (dG c.x).n j=false:=fun j=>wm _ _ _
 have hb:∀j,cy (ng c (dG c.x) (gL c)).ws (ng c (dG c.x) (gL c)).n j=cy c.ws c.n j:=fun j=>by
  rw[u0 j,tQ j,Bool.or_false]
  by_cases nI:0≤j∧j<(c.n:Int)
  ·obtain⟨j',rfl⟩:∃j':Nat,j=j':=⟨j.toNat,aj⟩
   cases hh:cy c.ws c.n (j':Int)with
   | true=>exact decide_eq_true ⟨j',List.mem_filter.2 ⟨List.mem_range.2 aj,hh⟩,rfl⟩
   | false =>
    grind
  grind [wk]
 refine⟨_,rfl,e1,e2.trans S0,by rw[e2,e3];exact E4 c.x,hw,hb,fun j hj=>?_⟩
 grind [GA,gL,dG,wk]
def xg(c:TC):Prop:=c.ws.length=(c.n+63)/64∧∀j,c.n≤j→(c.ws.getD (j/64) 0#64).getLsbD (j%64)=false
theorem xg.fresh(x:Bl):xg (dG x):=by
 grind [xg,dG]
theorem xg.put{c:TC}(h:xg c){i:Nat}(hi:i<c.n)(l:List Dg):xg (c.put i l):=by
 obtain⟨h1,h2⟩:=h
 unfold xg TC.put
 grind [iH,jQ,Fs]
theorem xg.tell{cs:List TC}(h:∀c∈cs,xg c)(b:List UInt8):∀c∈dL cs b,xg c:=by
 have hp:∀d m l,∀c∈ni cs d m l,xg c:=fun d m l c hc=>by
  grind [ni,put]
 have hr:∀d,∀c∈Gs cs d,xg c:=fun d c hc=>h c (List.mem_filter.1 hc).1
 unfold dL
 split
 ·exact h
 grind [xg.fresh]
def xg.told:∀(ls:List (List UInt8)) (cs:List TC),(∀c∈cs,xg c)→∀c∈ls.foldl dL cs,xg c
 | [],cs,h=>h
 | b::ls,cs,h=>xg.told ls _ (xg.tell h b)
def TB:∀n:Fin 65,JJ (JI (BitVec.ofNat 64 (2 ^ n.1-1)))=(n.1:Int):=by decide +kernel
theorem xg.one{c:TC}(h:xg c)(h1:1≤c.n)(Tc:c.n≤64)(p:Nat→Bool)(hp:∀i,i<c.n→cy c.ws c.n (i:Int)=p i):∃w,c.ws=[w]∧∀j,j<64→w.getLsbD j=(decide (j<c.n) && p j):=by
 obtain⟨a,b⟩:=h
 have hl:c.ws.length=1:=by omega
 obtain⟨w,hw⟩:=List.length_eq_one_iff.1 hl
 grind [Bk]
theorem xg.all{c:TC}(h:xg c)(h1:1≤c.n)(Tc:c.n≤64)(ha:∀i:Nat,i<c.n→cy c.ws c.n (i:Int)=true):re c.ws=c.n:=by
 obtain⟨w,hw,hb⟩:=h.one h1 Tc (fun _=>true) ha
 have e:w=BitVec.ofNat 64 (2 ^ c.n-1):=by
  apply BitVec.eq_of_getLsbD_eq
  intro j hj
  rw[hb j hj,BitVec.getLsbD_ofNat,Nat.testBit_two_pow_sub_one,decide_eq_true hj,Bool.and_true,Bool.true_and]
 have:=TB ⟨c.n,aj⟩
 grind [re]
def wT(ts:List Tk):Nat:=(ts.map fun y=>1+(gL y.c).length).sum
structure CS(k w u:Nat)(s:fW)(ts:List Tk):Prop where
 dq:DQ k s.A
 brk:s.brk=false
 bu:∀z∈s.bu,z.1=z.2.d∧∃y∈ts,y.x=z.2
 OX:∀y∈ts,iN s.bu y.x.d=some y.x
 keys:(s.bu.map (·.1)).Nodup
 bl:s.bu.length≤w
 ok:∀y∈ts,bP y.x=true∧y.x.size≤1000∧(y.n:Int)=cT y.x∧k7 y.c
 nd:(ts.map fun y=>y.x.d).Nodup
 has:∀y∈ts,(vw s.A (iL y.x.d)).isSome=true∧vw s.A (pS y.x.d)=none
 HU:∀y∈ts,∀i:Nat,cy y.ws y.n i=true→∃(c:List UInt8) (a n:Int) (p:List Dg),vw s.A (iL y.x.d)=some c∧dX y.x i=some (a,n)∧a+n≤c.length∧y.pf i=some p∧di y.x i ((c.drop a.toNat).take n.toNat) p=true
 wt:wT ts≤w
 lO:s.A.aF.length≤u
 ns:∀y∈ts,xg y.c
structure CJ(j:Nat)(x:SJ)(cs:List TC):Prop where
 jr:∃(C:List UInt8) (n:Nat) (ls:List (List UInt8)),vw x.1.A dF=some C∧JC C n ls∧x.2=⟨n,((ls.flatMap bB).length:Int),((ls.flatMap bB).length:Int),false⟩∧n≤1+j∧ls.length≤j∧(∀b∈ls,b.length≤900)∧FO (ls.foldl dL []) cs
def CS.mono{k w u k' w' u':Nat}{s:fW}{ts:List Tk}(h:CS k w u s ts)(hk:k≤k')(hw:w≤w')(hu:u≤u'):CS k' w' u' s ts :=
 ⟨h.dq.mono hk,h.brk,h.bu,h.OX,h.keys,by have:=h.bl;omega,h.ok,h.nd,h.has,h.HU,by have:=h.wt;omega,by have:=h.lO;omega,h.ns⟩
def CJ.mono{j j':Nat}{x:SJ}{cs:List TC}(h:CJ j x cs)(hj:j≤j'):CJ j' x cs:=by
 obtain⟨C,n,ls,h1,h2,h3,h4,h5,h6,h7⟩:=h
 exact⟨C,n,ls,h1,h2,h3,aj,aj,h6,h7⟩
theorem nu:∀(ls:List (List UInt8)),(∀b∈ls,b.length≤900)→(ls.flatMap bB).length≤910*ls.length
 | [],_=>by simp
 | b::ls,h=>by
  have h1:=nu ls fun x hx=>h x (List.mem_cons_of_mem _ hx)
  grind [sg]
theorem iz(d:Dg):iL d≠dF:=lY kS d
theorem qw(d:Dg):pS d≠dF:=lY kB d
theorem CS.other{k w u u':Nat}{s:fW}{ts:List Tk}{B:Ab}{C:List UInt8}(h:CS k w u s ts)(hB:HA B)(hz:Cz k B)(hr:B.room=s.A.room)(hn:B.names.length=s.A.names.length)(hv:vw B=gl (vw s.A) dF (some C))(hC:C.length≤100000)(hu:B.aF.length≤u'):CS k w u' ⟨B,s.bu,s.brk⟩ ts:=by
 have hS:∀d,vw B (iL d)=vw s.A (iL d):=fun d=>by rw[hv,eM _ _ (iz d)]
 have hBd:∀d,vw B (pS d)=vw s.A (pS d):=fun d=>by rw[hv,eM _ _ (qw d)]
 refine⟨h.dq.next hB hz hr (by rw[hn];exact h.dq.SO) (fun n c hc=>?_),h.brk,h.bu,h.OX,h.keys,h.bl,h.ok,h.nd,fun y hy=>?_,fun y hy i hi=>?_,h.wt,hu,h.ns⟩
 ·rw[hv]at hc
  grind [dF,eN,eM]
 ·show(vw B (iL y.x.d)).isSome=true∧vw B (pS y.x.d)=none
  rw[hS,hBd];exact h.has y hy
 ·show ∃c a n p,vw B (iL y.x.d)=some c∧_
  rw[hS];exact h.HU y hy i hi
theorem CS.note{k w u j:Nat}{x y:SJ}{ts:List Tk}{cs:List TC}{b:List UInt8}{e:Nat}(h:CS k w u x.1 ts)(hj:CJ j x cs)(hk:k≤190)(xd:j<100)(hb:b.length≤900)(hR:jG (mw b) x e y) :
  e=0∧CS k w (u+5) y.1 ts∧(∀k6,(∀ls,FO (ls.foldl dL []) cs→FO ((ls++[b]).foldl dL []) k6)→CJ (j+1) y k6)∧y.1.bu=x.1.bu∧(∀n,n≠dF→vw y.1.A n=vw x.1.A n):=by
 obtain⟨C,n,ls,h1,h2,h3,h4,h5,h6,h7⟩:=hj.jr
 have hg:=Nl hR
 obtain⟨⟨A,bu,brk⟩,jn⟩:=x
 simp only at h1 h3
 subst h3
 have hdq:DQ k A:=h.dq
 have IZ:=hdq.used
 have Q4:=hdq.room
 have pQ:=nu ls h6
 have tq:=sg b aj
 obtain⟨r1,r2,r3,⟨C',r4,r5⟩,r6,r7,r8,r9,r10,r11⟩:=JP (A:=A) hdq.ha hdq.cz h1 h2 rfl aj aj aj aj hR
 have kJ:=r5.len
 have afj:=nu (ls++[b]) (fun x hx=>by
  rcases List.mem_append.1 hx with hx|hx
  ·exact h6 x hx
  ·rw[List.mem_singleton.1 hx];exact hb)
 rw[List.length_append,List.length_singleton]at afj
 obtain⟨⟨A',agH,agG⟩,jn'⟩:=y
 simp only at r2 r3 r4 r6 r7 r8 r9 r10 r11
 subst r7 r8 r9
 have aab:=h.lO
 have I4:=hg.1
 simp only at aab I4
 refine⟨r1,h.other r2 r3 r6 r10 r4 aj aj,fun k6 pR=>⟨C',n+1,ls++[b],by show vw A' dF=_;rw[r4,eN],r5,rfl,aj,by simp;omega,fun x hx=>?_,pR ls h7⟩,rfl,fun m hm=>?_⟩
 ·grind
 ·show vw A' m=vw A m
  rw[r4,eM _ _ hm]
theorem H6{l:List (Dg × Bl)}(h:∀z∈l,z.2.size≤1000):(l.map (·.2.size)).sum≤1000*(l.length:Int):=by
 induction l with
 | nil=>simp
 | cons z l ih =>
  grind
theorem CS.lM{k w u:Nat}{s:fW}{ts:List Tk}(h:CS k w u s ts):lM s≤1000*(k:Int)+1000*(w:Int):=by
 have h1:=h.dq.vy
 have h2:=H6 (l:=s.bu) (fun z hz=>by
  obtain⟨_,y,hy,hyz⟩:=h.bu z hz
  rw[← hyz];exact(h.ok y hy).2.1)
 have h3:=h.bl
 grind [lM]
theorem CS.Mi{k w u:Nat}{s:fW}{ts:List Tk}(h:CS k w u s ts){d:Dg}(kZ:∀z∈ts,z.x.d≠d):iN s.bu d=none:=by
 cases hx:iN s.bu d with
 | none=>rfl
 | some z =>
  obtain⟨h1,y,hy,h2⟩:=h.bu _ (RZ hx)
  grind
theorem CS.aa0{k w u:Nat}{q:Int}{s t:fW}{ts:List Tk}{b:Bl}{e:Nat}(h:CS k w u s ts)(hk:k≤190)(kZ:∀z∈ts,z.x.d≠b.d)(hq:bP b=true→1000*(k:Int)+1000*(w:Int)+b.size≤q)(hR:eh q b s e t) :
    (bP b=false∧e=1∧t=s)∨(bP b=true∧(vw s.A (pS b.d)).isSome=true∧e=5∧t=s) ∨
    (bP b=true∧vw s.A (pS b.d)=none∧e=0∧HA t.A∧t.brk=false∧t.bu=s.bu++[(b.d,b)]∧(∀n,vw t.A n=if n=iL b.d then some ((vw s.A n).getD [])else vw s.A n)∧t.A.names.length≤s.A.names.length+1∧t.A.room=s.A.room∧Cz (k+1) t.A):=by
  have hn:=h.Mi kZ
  have IZ:=h.lM
  have O8:=Cz.begin (h.dq.cz.mono (fun _ x=>x) (Nat.le_succ k)) h.dq.ha h.brk (by have:=h.dq.SO;omega) aj hR
  have nr:=h.dq.SO
  cases hr:bP b with
  | false =>
    unfold eh at hR
    rw[if_neg (by rw[h.brk];simp),if_pos hr]at hR
    grind
  | true =>
  have hq:=hq hr
  right
  cases hB:vw s.A (pS b.d)with
  | some c =>
    unfold eh at hR
    rw[if_neg (by rw[h.brk];simp),if_neg (by rw[hr];simp),if_pos (.inr (by rw[mI,show vw s.A (fB b)=some c from hB];rfl))]at hR
    grind
  | none =>
  right
  cases hS:vw s.A (iL b.d)with
  | none =>
    obtain⟨r1,r2,r3,r4,r5,r6,r7⟩:=SH h.dq.ha h.brk hr hn hB aj hS aj hR
    exact⟨rfl,rfl,r1,r2,r3,r4,fun n=>by
      rw[r5 n]
      show(if n=iL b.d then _ else _)=_
      split
      · rename_i hx;rw[hx,hS];rfl
      · rfl,aj,r7,O8⟩
  | some c =>
    unfold eh at hR
    rw[if_neg (by rw[h.brk];simp),if_neg (by rw[hr];simp),if_neg (by rw[hn,mI,show vw s.A (fB b)=none from hB];simp),if_neg aj,if_pos (by rw[mI,show vw s.A (fS b)=some c from hS];rfl)]at hR
    obtain⟨rfl,rfl⟩:=hR
    exact⟨rfl,rfl,rfl,h.dq.ha,h.brk,rfl,fun n=>by
      split
      · rename_i hx;rw[hx];show vw s.A (iL b.d)=_;rw[hS];rfl
      · rfl,by simp only;omega,rfl,O8⟩
def Na{c:TC}(h:∀i,cy c.ws c.n i=false):gL c=[]:=by
 unfold gL
 simp_all
theorem Te(ts:List Tk)(y:Tk):wT (ts++[y])=wT ts+(1+(gL y.c).length):=by unfold wT;simp
def HT(ts:List Tk)(y:Tk):gI (ts++[y])=gI ts++[y.c]:=by unfold gI;simp
theorem Ih(x:Bl):k7 (dG x):=by
 have:=py x
 unfold k7 dG
 grind
theorem CS.add{k w u u':Nat}{s t:fW}{ts:List Tk}{b:Bl}{y:Tk}(h:CS k w u s ts)(kZ:∀z∈ts,z.x.d≠b.d)(hr:bP b=true)(hs:b.size≤1000)(QU:y.x=b)(Z8:(y.n:Int)=cT b)(hyo:k7 y.c)(hyz:xg y.c){c0:List UInt8}(Ci:vw s.A (iL b.d)=some c0→c0.length≤1000)(hB:vw s.A (pS b.d)=none)(h1:HA t.A)(h2:t.brk=false)(h3:t.bu=s.bu++[(b.d,b)])(h4:∀n,vw t.A n=if n=iL b.d then some ((vw s.A n).getD [])else vw s.A n)(h5:t.A.names.length≤s.A.names.length+1)(h6:t.A.room=s.A.room)(h7:Cz (k+1) t.A)(hu:t.A.aF.length≤u')(agz:∀i:Nat,cy y.ws y.n i=true→∃(c:List UInt8) (a n:Int) (p:List Dg),vw t.A (iL y.x.d)=some c∧dX y.x i=some (a,n)∧a+n≤c.length∧y.pf i=some p∧di y.x i ((c.drop a.toNat).take n.toNat) p=true)(hw:1+(gL y.c).length+wT ts≤w+1+(gL y.c).length):CS (k+1) (w+1+(gL y.c).length) u' t (ts++[y]):=by
 have hn:=h.Mi kZ
 have pg:∀d,d≠b.d→vw t.A (iL d)=vw s.A (iL d):=fun d hd=>by rw[h4,if_neg (fun e=>hd (E9 e))]
 have hkB:∀d,vw t.A (pS d)=vw s.A (pS d):=fun d=>by rw[h4,if_neg (fun e=>jU _ _ e.symm)]
 refine⟨h.dq.next h1 h7 h6 (by have:=h.dq.SO;omega) (fun n c hc=>?_),h2,fun z hz=>?_,fun z hz=>?_,?_,?_,fun z hz=>?_,?_,fun z hz=>?_,fun z hz i hi=>?_,?_,hu,fun z hz=>?_⟩
 ·rw[h4]at hc
  by_cases hx:n=iL b.d
  ·rw[if_pos hx]at hc
   injection hc with hc
   cases hv:vw s.A n with
   | some c1=>rw[hv]at hc;exact .inl (by rw[← hc];rfl)
   | none =>
    grind
  grind
 ·rw[h3]at hz
  rcases List.mem_append.1 hz with hz|hz
  ·obtain⟨g1,y',SR,g2⟩:=h.bu z hz
   grind
  grind
 ·rw[h3,H4 _ _ _ hn]
  rcases List.mem_append.1 hz with hz|hz
  ·rw[if_neg (kZ z hz)];exact h.OX z hz
  grind
 ·rw[h3,List.map_append,List.nodup_append]
  refine⟨h.keys,by simp,fun a ha c hc=>?_⟩
  grind [UZ]
 ·rw[h3,List.length_append,List.length_singleton]
  have:=h.bl;omega
 ·rcases List.mem_append.1 hz with hz|hz
  ·exact h.ok z hz
  grind
 ·rw[List.map_append,List.nodup_append]
  refine⟨h.nd,by simp,fun a ha c hc=>?_⟩
  grind
 ·rcases List.mem_append.1 hz with hz|hz
  ·rw[hkB,pg _ (kZ z hz)];exact h.has z hz
  grind
 ·rcases List.mem_append.1 hz with hz|hz
  ·rw[pg _ (kZ z hz)];exact h.HU z hz i hi
  grind
 ·grind [Te]
 ·rcases List.mem_append.1 hz with hz|hz
  ·exact h.ns z hz
  grind
theorem ve(x:Bl)(hs:x.size≤1000000000000)(hp:x.piece≤1000000000000):(cm x).length≤900:=by
 grind [jA,jv,nC,cm]
theorem RN(d:Dg):(Og d).length≤900:=by
 grind [jA,Og]
theorem AD(d:Dg)(i:Nat)(hi:i≤1000000000000)(p:List Dg)(hp:p.length≤10):(bQ d i p).length≤900:=by
 have:=jA 2 d (gy i p) (by simp[gy];omega) (nh i hi p)
 grind [bQ,gy]
def CJ.sto{j:Nat}{x:SJ}{cs:List TC}{t:fW}(h:CJ j x cs)(hv:vw t.A dF=vw x.1.A dF):CJ j (t,x.2) cs:=by
 obtain⟨C,n,ls,h1,h2,h3,h4⟩:=h
 exact⟨C,n,ls,by show vw t.A dF=_;rw[hv];exact h1,h2,h3,h4⟩
def x8(ls:List (List UInt8))(b:List UInt8):(ls++[b]).foldl dL []=dL (ls.foldl dL []) b:=by rw[List.foldl_append];rfl
theorem RS(ts:List Tk):(gI ts).map (fun c=>c.x.d)=ts.map fun y=>y.x.d:=by unfold gI;rw[List.map_map];rfl
theorem aa3{ts:List Tk}{d:Dg}(h:(ts.any fun y=>decide (y.x.d=d))=false):∀z∈ts,z.x.d≠d:=fun z hz e=>by
 grind
theorem CS.begin{k w u j:Nat}{x t:SJ}{ts eG:List Tk}{b:Bl}{jN:Bool}{e:Nat}(h:CS k w u x.1 ts)(hj:CJ j x (gI ts))(hk:k≤180)(hw:w≤150)(xd:j<100)(hs:bP b=true→b.size≤1000)(hR:SK 1048576 b ts x false e eG jN t) :
  jN=false∧CS (k+1) (w+1) (u+20) t.1 eG∧CJ (j+1) t (gI eG)∧e=(if(ts.any fun y=>decide (y.x.d=b.d))=true then 5 else if bP b=false then 1 else if(vw x.1.A (pS b.d)).isSome=true then 5 else 0) ∧
   (e≠0→eG=ts∧t=x)∧(e=0→gI eG=gI ts++[dG b]∧∀n,n≠dF→vw t.1.A n=if n=iL b.d then some ((vw x.1.A n).getD [])else vw x.1.A n):=by
 have hm:=h.mono (k':=k+1) (w':=w+1) (u':=u+20) aj aj aj
 rcases hR with⟨h1,_⟩|⟨_,mJ,rfl,rfl,rfl,rfl⟩|⟨_,mJ,rfl,hR,tp⟩
 ·cases h1
 ·exact⟨rfl,hm,hj.mono aj,by rw[if_pos mJ],fun _=>⟨rfl,rfl⟩,fun h0=>by cases h0⟩
 have kZ:=aa3 mJ
 rw[if_neg (by rw[mJ];simp)]
 obtain⟨e1,x1,⟨nN,qZ⟩,c1⟩:=hR
 have hg:=sG nN
 have hg0:=hg.1
 have cN:=h.lO
 rcases h.aa0 aj kZ (fun hr=>by have:=hs hr;omega) nN with⟨hr,rfl,hx⟩|⟨hr,hB,rfl,hx⟩|⟨hr,hB,rfl,g1,g2,g3,g4,g5,g6,g7⟩
 ·rw[if_pos hr]
  rcases c1 with⟨_,rfl,rfl⟩|⟨h0,_⟩
  ·rcases tp with⟨_,rfl⟩|⟨h0,_⟩
   ·have:t=x:=Prod.ext hx qZ
    subst this
    exact⟨rfl,hm,hj.mono aj,rfl,fun _=>⟨rfl,rfl⟩,fun h0=>by cases h0⟩
   ·cases h0
  ·cases h0
 ·rw[if_neg (by rw[hr];simp),if_pos hB]
  rcases c1 with⟨_,rfl,rfl⟩|⟨h0,_⟩
  ·rcases tp with⟨_,rfl⟩|⟨h0,_⟩
   ·have:t=x:=Prod.ext hx qZ
    subst this
    exact⟨rfl,hm,hj.mono aj,rfl,fun _=>⟨rfl,rfl⟩,fun h0=>by cases h0⟩
   ·cases h0
  ·cases h0
 ·rw[if_neg (by rw[hr];simp),if_neg (by rw[hB];simp)]
  rcases c1 with⟨dw,_⟩|⟨_,nW⟩
  ·exact absurd rfl dw
  have S7:=dB hr
  obtain⟨y,hy⟩:∃y:Tk,y.c=dG b:=⟨⟨0,0,0,b,(cT b).toNat,List.replicate (((cT b).toNat+63)/64) 0#64,fun _=>none⟩,rfl⟩
  have Bm:∀y:Tk,y.c=dG b→CS (k+1) (w+1) (u+10) x1.1 (ts++[y]):=fun y hy=>by
   have Ci:=py b
   have e1:y.x=b:=congrArg TC.x hy
   have e2:y.n=(cT b).toNat:=congrArg TC.n hy
   have e3:y.ws=List.replicate (((cT b).toNat+63)/64) 0#64:=congrArg TC.ws hy
   have adb:∀i,cy y.c.ws y.c.n i=false:=fun i=>by rw[hy];exact wm _ _ _
   have hp:gL y.c=[]:=Na adb
   have:=h.add (k:=k) (u':=u+10) (y:=y) (c0:=[]) kZ hr (hs hr) e1 (by rw[e2];omega) (by rw[hy];exact Ih b) (by rw[hy];exact xg.fresh b) (fun _=>by simp) hB g1 g2 g3 g4 g5 g6 g7 aj (fun i hi=>absurd hi (by
    have:=adb i
    show ¬cy y.c.ws y.c.n i=true
    rw[this];simp)) (by rw[hp];have:=h.wt;simp only[List.length_nil];omega)
   grind
  have adq:CJ j x1 (gI ts):=by
   have:=hj.sto (t:=x1.1) (by rw[g4,if_neg (fun e=>iz b.d e.symm)])
   grind
  obtain⟨rfl,n1,n2,n3,n4⟩:=(Bm y hy).note adq aj xd (ve b aj aj) nW
  rcases tp with⟨dw,_⟩|⟨_,y',SR,rfl⟩
  ·exact absurd rfl dw
  obtain⟨_,m1,m2,m3,m4⟩:=(Bm y' SR).note adq aj xd (ve b aj aj) nW
  refine⟨by decide,m1.mono (Nat.le_refl _) (Nat.le_refl _) aj,m2 _ (fun ls Dy=>?_),rfl,fun h0=>absurd rfl h0,fun _=>⟨by rw[HT,SR],fun n hn=>by rw[m4 n hn,g4]⟩⟩
  rw[x8,Ae _ hr,HT,SR]
  exact Dy.begin fun c hc=>by
   obtain⟨z,hz,rfl⟩:=List.mem_map.1 hc
   exact kZ z hz
theorem Gc{x:Bl}{i i' a a' n n':Int}(h:dX x i=some (a,n))(h':dX x i'=some (a',n'))(dw:i≠i'):a+n≤a'∨a'+n'≤a:=by
 obtain⟨_,_,_,_,_,g1,g2,gr⟩:=jL h
 obtain⟨_,_,_,_,_,g1',g2',_⟩:=jL h'
 have hp:=dB gr
 rcases Int.lt_or_gt_of_ne dw with hl|hl
 ·left
  have h1:(i+1)*x.piece≤i'*x.piece:=Int.mul_le_mul_of_nonneg_right aj aj
  grind
 ·right
  have h1:(i'+1)*x.piece≤i*x.piece:=Int.mul_le_mul_of_nonneg_right aj aj
  grind
theorem Ph(c:List UInt8)(a:Nat)(b:List UInt8):((bY c a b).drop a).take b.length=b:=by
 refine List.ext_getElem? fun j=>?_
 grind [CF]
theorem FY{c:List UInt8}{a:Nat}{b:List UInt8}{a' n':Nat}(hc:a'+n'≤c.length)(h:a'+n'≤a∨a+b.length≤a'):((bY c a b).drop a').take n'=(c.drop a').take n':=by
 refine List.ext_getElem? fun j=>?_
 grind [zZ]
theorem ur{α:Type}(f g:α→Bool):∀l:List α,(l.filter fun x=>f x || g x).length≤(l.filter f).length+(l.filter g).length
 | []=>by simp
 | x::l=>by
  have ih:=ur f g l
  grind
theorem range_one(i:Nat):∀n:Nat,((List.range n).filter fun j=>decide (j=i)).length≤if i<n then 1 else 0
 | 0=>by simp
 | n+1=>by
  have ih:=range_one i n
  rw[List.range_succ,List.filter_append,List.length_append]
  grind
theorem TE{c:TC}{i:Nat}(hw:c.n≤c.ws.length*64)(hi:i<c.n)(l:List Dg):(gL (c.put i l)).length≤(gL c).length+1:=by
 have e:gL (c.put i l)=(List.range c.n).filter fun j=>decide (j=i) || cy c.ws c.n (j:Int):=by
  unfold gL TC.put
  grind [iu]
 rw[e]
 have h1:=ur (fun j=>decide (j=i)) (fun j:Nat=>cy c.ws c.n (j:Int)) (List.range c.n)
 have h2:=range_one i c.n
 rw[if_pos hi]at h2
 show _≤((List.range c.n).filter fun i:Nat=>cy c.ws c.n (i:Int)).length+1
 omega
theorem Pk:∀(ts:List Tk) (k:Nat) (y z:Tk),ts[k]?=some y→wT (ts.set k z)+(1+(gL y.c).length)=wT ts+(1+(gL z.c).length)
 | [],k,y,z,h=>by cases h
 | t::ts,0,y,z,h=>by
  grind [wT]
 | t::ts,k+1,y,z,h=>by
  have ih:=Pk ts k y z (by simpa using h)
  grind [wT]
theorem oO{ts:List Tk}(hn:(ts.map fun y=>y.x.d).Nodup){k:Nat}{z z':Tk}(hk:ts[k]?=some z){w:Tk}(hw:w∈ts.set k z'):(w∈ts∧w.x.d≠z.x.d)∨w=z':=by
 obtain⟨j,hj⟩:=List.mem_iff_getElem?.1 hw
 have Kc:=(List.getElem?_eq_some_iff.1 hk).1
 by_cases FT:j=k
 ·grind
 ·rw[List.getElem?_set_ne (fun e=>FT e.symm)]at hj
  refine .inl ⟨List.mem_of_getElem? hj,fun e=>FT ?_⟩
  have d1:(ts.map fun y=>y.x.d)[j]?=some w.x.d:=by rw[List.getElem?_map,hj];rfl
  have d2:(ts.map fun y=>y.x.d)[k]?=some z.x.d:=by rw[List.getElem?_map,hk];rfl
  exact(List.getElem?_inj ((List.getElem?_eq_some_iff.1 d1).1) hn).1 (by rw[d1,d2,e])
def UO(ts:List Tk)(k:Nat)(z:Tk):gI (ts.set k z)=(gI ts).set k z.c:=by unfold gI;rw[List.map_set]
theorem CS.piece{k w u u':Nat}{s t v:fW}{ts:List Tk}{q:Nat}{z:Tk}{i:Nat}{bs:List UInt8}{p:List Dg}{a n:Int}{c:List UInt8}(h:CS k w u s ts)(hq:ts[q]?=some z)(hc:vw s.A (iL z.x.d)=some c)(hi:i<z.n)(hX:dX z.x i=some (a,n))(J7:di z.x i bs p=true)(qO:p.length≤10)(hP:nE z.x i bs s 0 t)(hY:kQ z.x t 0 v)(hu:v.A.aF.length≤u')(hk:k≤190) :
  CS k (w+1) u' v (ts.set q (z.put i p))∧v.bu=s.bu∧(∀m,m≠iL z.x.d→vw v.A m=vw s.A m)∧vw v.A (iL z.x.d)=some (bY c a.toNat bs):=by
 have hz:=List.mem_of_getElem? hq
 obtain⟨k1,k2,k3,k4⟩:=h.ok z hz
 obtain⟨g0,g1,g2,g3,g4,g5,g6,gr⟩:=jL hX
 have jx:(bs.length:Int)=n:=by
  grind [di]
 have kJ:c.length≤1000:=by
  rcases h.dq.kd _ c hc with⟨he,_⟩|⟨_,hl⟩|⟨_,hl⟩
  ·grind [iz]
  ·exact hl
  ·exact hl
 have IZ:=h.dq.used
 have Q4:=h.dq.room
 obtain⟨_,p1,p2,p3,p4,p5,p6⟩:=Sc h.dq.ha h.brk (h.OX z hz) hX jx hc aj aj hP
 have O8:=Cz.ael (e:=0) h.dq.cz h.dq.ha p1 hP hY
 have ko:vw t.A (fS z.x)=some (bY c a.toNat bs):=by rw[p4,if_pos rfl]
 have hY2:HA v.A∧vw v.A=vw t.A∧v.A.names=t.A.names∧v.A.room=t.A.room∧v.bu=t.bu∧v.brk=false:=by
  unfold kQ at hY
  split at hY
  ·grind
  obtain⟨B,⟨e1,A1,hs,qu⟩,rfl⟩:=hY
  rcases qu with⟨dw,h0,_⟩|⟨h0,_,rfl⟩
  ·grind
  subst h0
  unfold gj at hs
  rw[show isName (fS z.x)=true from ir z.x]at hs
  obtain⟨_,m1,m2,m3,m4⟩:=p1.sync ko hs
  grind
 obtain⟨y1,y2,y3,y4,y5,y6⟩:=hY2
 have rk:∀m,vw v.A m=if m=iL z.x.d then some (bY c a.toNat bs)else vw s.A m:=fun m=>by rw[y2];exact p4 m
 have fD:=iB c a.toNat bs
 have xW:vw v.A (iL z.x.d)=some (bY c a.toNat bs):=by rw[rk,if_pos rfl]
 have hkB:∀d,vw v.A (pS d)=vw s.A (pS d):=fun d=>by rw[rk,if_neg (fun e=>jU _ _ e.symm)]
 have pg:∀d,d≠z.x.d→vw v.A (iL d)=vw s.A (iL d):=fun d hd=>by rw[rk,if_neg (fun e=>hd (E9 e))]
 have O9:v.bu=s.bu:=y5.trans p3
 refine⟨⟨h.dq.next y1 O8 (y4.trans p6) (by rw[y3,p5];exact h.dq.SO) (fun m c' Cj=>?_),y6,fun b hb=>?_,fun b hb=>?_,by rw[O9];exact h.keys,by rw[O9];have:=h.bl;omega,fun b hb=>?_,?_,fun b hb=>?_,fun b hb j hj=>?_,?_,hu,fun b hb=>?_⟩,O9,fun m hm=>by rw[rk,if_neg hm],xW⟩
 ·grind
 ·rw[O9]at hb
  obtain⟨b1,y,hy,Bb⟩:=h.bu b hb
  refine⟨b1,?_⟩
  obtain⟨j,hj⟩:=List.mem_iff_getElem?.1 hy
  by_cases hjq:q=j
  ·subst hjq
   rw[hq]at hj
   injection hj with hj
   exact⟨z.put i p,List.mem_of_getElem? (List.getElem?_set_self ((List.getElem?_eq_some_iff.1 hq).1)),by rw[← Bb,← hj];rfl⟩
  ·exact⟨y,List.mem_of_getElem? (by rw[List.getElem?_set_ne hjq];exact hj),Bb⟩
 ·rw[O9]
  rcases oO h.nd hq hb with⟨hb,_⟩|rfl
  ·exact h.OX b hb
  ·exact h.OX z hz
 ·rcases oO h.nd hq hb with⟨hb,_⟩|rfl
  ·exact h.ok b hb
  ·exact⟨k1,k2,k3,k4.put i qO⟩
 ·have:(ts.set q (z.put i p)).map (fun y=>y.x.d)=ts.map fun y=>y.x.d:=by
   rw[List.map_set]
   refine List.ext_getElem? fun j=>?_
   by_cases FT:j=q
   ·subst FT
    rw[List.getElem?_set_self (by simpa using(List.getElem?_eq_some_iff.1 hq).1),List.getElem?_map,hq];rfl
   grind
  rw[this];exact h.nd
 ·rcases oO h.nd hq hb with⟨hb,hd⟩|rfl
  ·rw[pg _ hd,hkB];exact h.has b hb
  ·show(vw v.A (iL z.x.d)).isSome=true∧vw v.A (pS z.x.d)=none
   rw[xW,hkB];exact⟨rfl,(h.has z hz).2⟩
 ·rcases oO h.nd hq hb with⟨hb,hd⟩|rfl
  ·rw[pg _ hd];exact h.HU b hb j hj
  ·show ∃c' a' n' p',vw v.A (iL z.x.d)=some c'∧dX z.x j=some (a',n')∧a'+n'≤c'.length∧(if(j:Int)=(i:Int)then some p else z.pf j)=some p'∧di z.x j ((c'.drop a'.toNat).take n'.toNat) p'=true
   by_cases SY:j=i
   ·subst SY
    refine⟨_,a,n,p,xW,hX,by rw[fD];omega,if_pos rfl,?_⟩
    grind [Ph]
   ·have hold:cy z.ws z.n (j:Int)=true:=by
     have tP:cy (jQ z.ws i true) z.n (j:Int)=true:=hj
     rw[iu (show z.n≤z.ws.length*64 from k4.2.1) hi,if_neg aj]at tP
     exact tP
    obtain⟨c',a',n',p',c1,c2,c3,c4,c5⟩:=h.HU z hz j hold
    rw[hc]at c1
    injection c1 with c1
    subst c1
    obtain⟨f0,f1,f2,_⟩:=jL c2
    have HD:=Gc hX c2 aj
    refine⟨_,a',n',p',xW,c2,by rw[fD];omega,by rw[if_neg aj];exact c4,?_⟩
    grind [FY]
 ·have h1:=Pk ts q z (z.put i p) hq
  have h2:(gL (z.put i p).c).length≤(gL z.c).length+1:=TE (c:=z.c) k4.2.1 hi p
  have h3:=h.wt
  omega
 ·rcases oO h.nd hq hb with⟨hb,_⟩|rfl
  ·exact h.ns b hb
  ·exact(h.ns z hz).put hi p
def TA(ts:List Tk)(b:Bl)(i:Int)(bs:List UInt8)(p:List Dg):Nat:=match lX ts b with
 | none=>4
 | some y=>if i<0∨(y.n:Int)≤i then 1 else if cy y.ws y.n i=true then 0 else if di b i bs p=true then 0 else 8
theorem CS.put{k w u j:Nat}{x t:SJ}{ts eG:List Tk}{b:Bl}{i:Int}{bs:List UInt8}{p:List Dg}{jN:Bool}{e:Nat}(h:CS k w u x.1 ts)(hj:CJ j x (gI ts))(hk:k≤180)(xd:j<100)(hR:OA b i bs p ts x false e eG jN t) :
  jN=false∧CS k (w+1) (u+20) t.1 eG∧CJ (j+1) t (gI eG)∧e=TA ts b i bs p ∧
   ((eG=ts∧t=x)∨∃(q:Nat) (y:Tk),ts[q]?=some y∧y.x=b∧0≤i∧i<y.n∧cy y.ws y.n i=false∧di b i bs p=true∧eG=ts.set q (y.put i.toNat p)∧(∀m,m≠dF→m≠iL b.d→vw t.1.A m=vw x.1.A m)∧∃(c:List UInt8) (a n:Int),vw x.1.A (iL b.d)=some c∧dX b i=some (a,n)∧vw t.1.A (iL b.d)=some (bY c a.toNat bs)):=by
 have hm:=h.mono (k':=k) (w':=w+1) (u':=u+20) aj aj aj
 unfold TA
 rcases hR with⟨h1,_⟩|⟨_,hf,rfl,rfl,rfl,rfl⟩|⟨_,q,y,hf,hq,QU,hc⟩
 ·cases h1
 ·rw[hf];exact⟨rfl,hm,hj.mono aj,rfl,.inl ⟨rfl,rfl⟩⟩
 rw[hf]
 simp only
 rcases hc with⟨hi,rfl,rfl,rfl,rfl⟩|⟨hi,hh,rfl,rfl,rfl,rfl⟩|⟨hi,hh,hp,rfl,rfl,rfl,rfl⟩|⟨hi,hh,hp,rfl,hR,tp⟩
 ·rw[if_pos hi];exact⟨rfl,hm,hj.mono aj,rfl,.inl ⟨rfl,rfl⟩⟩
 ·rw[if_neg aj,if_pos hh];exact⟨rfl,hm,hj.mono aj,rfl,.inl ⟨rfl,rfl⟩⟩
 ·rw[if_neg aj,if_neg (by rw[hh];simp),if_neg (by rw[hp];simp)];exact⟨rfl,hm,hj.mono aj,rfl,.inl ⟨rfl,rfl⟩⟩
 rw[if_neg aj,if_neg (by rw[hh];simp),if_pos hp]
 subst QU
 obtain⟨i,rfl⟩:∃i':Nat,i=i':=⟨i.toNat,aj⟩
 have hy:=List.mem_of_getElem? hq
 obtain⟨k1,k2,k3,k4⟩:=h.ok y hy
 have qO:=uT hp
 have hX:∃a n,dX y.x i=some (a,n):=by
  grind [di,dX]
 obtain⟨a,n,hX⟩:=hX
 obtain⟨g0,g1,g2,g3,g4,g5,g6,gr⟩:=jL hX
 have jx:(bs.length:Int)=n:=by
  grind [di]
 have afn:p.length=fU y.n i:=by
  grind [di,kP]
 have Re:y.n≤1024:=k4.1
 obtain⟨c,hc⟩:=Option.isSome_iff_exists.1 (h.has y hy).1
 have kJ:c.length≤1000:=by
  rcases h.dq.kd _ c hc with⟨he,_⟩|⟨_,hl⟩|⟨_,hl⟩
  ·grind [iz]
  ·exact hl
  ·exact hl
 have IZ:=h.dq.used
 have Q4:=h.dq.room
 obtain⟨e1,x1,⟨T9,agk⟩,c1⟩:=hR
 have I4:=tF T9
 obtain⟨rfl,p1,p2,p3,p4,p5,p6⟩:=Sc h.dq.ha h.brk (h.OX y hy) hX jx hc aj aj T9
 rcases c1 with⟨dw,_⟩|⟨_,e2,x2,⟨I0,agj⟩,c2⟩
 ·exact absurd rfl dw
 have O7:=BQ I0
 have Hu:e2=0:=by
  unfold kQ at I0
  have yZ:jD x1.1 y.x=0:=by unfold jD yL;rw[p2,p3];simp[h.OX y hy]
  rw[yZ,if_neg (by simp)]at I0
  obtain⟨B,⟨e3,A1,hs,qu⟩,_⟩:=I0
  unfold gj at hs
  rw[show isName (fS y.x)=true from ir y.x]at hs
  obtain⟨h0,_⟩:=p1.sync (c:=bY c a.toNat bs) (by rw[p4,if_pos rfl]) hs
  rcases qu with⟨dw,h1,_⟩|⟨_,h1,_⟩
  ·grind
  ·exact h1
 subst Hu
 rcases c2 with⟨dw,_⟩|⟨_,nW⟩
 ·exact absurd rfl dw
 have aab:=h.lO
 have agx:=I4.1
 have agw:=O7.1
 obtain⟨n1,n2,n3,n4⟩:=h.piece (u':=u+10) hq hc aj hX hp qO T9 I0 aj aj
 have O5:CJ j x2 (gI ts):=by
  have:=hj.sto (t:=x2.1) (n3 dF (fun e=>iz _ e.symm))
  grind
 obtain⟨rfl,m1,m2,m3,m4⟩:=n1.note O5 aj xd (AD _ _ aj p qO) nW
 rcases tp with⟨dw,_⟩|⟨_,rfl⟩
 ·exact absurd rfl dw
 have e2:((i:Int)).toNat=i:=by omega
 rw[e2]at m2 ⊢
 refine⟨by decide,m1.mono (Nat.le_refl _) (Nat.le_refl _) aj,m2 _ (fun ls Dy=>?_),rfl,.inr ⟨q,y,hq,rfl,aj,aj,hh,hp,rfl,fun m hm1 hm2=>by rw[m4 m hm1,n3 m hm2],c,a,n,hc,hX,by rw[m4 _ (iz _),n4]⟩⟩
 rw[x8,Ad _ _ (by have:=k4.1;omega) qO,UO]
 have hcq:(gI ts)[q]?=some y.c:=by unfold gI;rw[List.getElem?_map,hq];rfl
 exact Dy.piece (by rw[RS];exact h.nd) hcq (i:=i) (show i<y.n by omega) afn
theorem CL(p:Tk→Bool):∀ts:List Tk,wT (ts.filter p)≤wT ts
 | []=>Nat.le_refl _
 | t::ts=>by
  have ih:=CL p ts
  grind [wT]
theorem sT{ts:List Tk}{d:Dg}{w:Tk}(h:w∈vr ts d):w∈ts∧w.x.d≠d:=by
 obtain⟨h1,h2⟩:=List.mem_filter.1 h
 grind
theorem CS.gone{k k' w u u':Nat}{s t:fW}{ts:List Tk}{z:Tk}(h:CS k w u s ts)(hk:k≤k')(hz:z∈ts)(h1:HA t.A)(h2:t.brk=false)(h3:t.bu=nO s.bu z.x.d)(hz1:Cz k' t.A)(hr:t.A.room=s.A.room)(hn:t.A.names.length≤k')(hu:t.A.aF.length≤u')(hS:∀d,d≠z.x.d→vw t.A (iL d)=vw s.A (iL d))(hB:∀d,d≠z.x.d→vw t.A (pS d)=vw s.A (pS d))(hkd:∀n c,vw t.A n=some c→vw s.A n=some c∨(∃d,n=pS d∧fz c=d)∧c.length≤1000):CS k' w u' t (vr ts z.x.d):=by
 have kZ:∀b∈s.bu,b∈nO s.bu z.x.d→b.1≠z.x.d:=fun b _ hb=>by
  have:=(List.mem_filter.1 hb).2
  grind
 refine⟨h.dq.next h1 hz1 hr hn (fun n c hc=>?_),h2,fun b hb=>?_,fun y hy=>?_,?_,?_,fun y hy=>h.ok y (sT hy).1,(List.filter_sublist.map _).nodup h.nd,fun y hy=>?_,fun y hy i hi=>?_,?_,hu,fun y hy=>h.ns y (sT hy).1⟩
 ·grind
 ·rw[h3]at hb
  have u4:=RQ hb
  obtain⟨b1,y,hy,Bb⟩:=h.bu b u4
  refine⟨b1,y,List.mem_filter.2 ⟨hy,?_⟩,Bb⟩
  grind
 ·rw[h3,Ol,if_neg (sT hy).2]
  exact h.OX y (sT hy).1
 ·rw[h3]
  exact(List.filter_sublist.map _).nodup h.keys
 ·rw[h3]
  have:=List.length_filter_le (fun x:Dg × Bl => !decide (x.1=z.x.d)) s.bu
  have:=h.bl
  unfold nO
  omega
 ·obtain⟨Vu,J1⟩:=sT hy
  rw[hS _ J1,hB _ J1]
  exact h.has y Vu
 ·obtain⟨Vu,J1⟩:=sT hy
  rw[hS _ J1]
  exact h.HU y Vu i hi
 ·have:=CL (fun y => !decide (y.x.d=z.x.d)) ts
  have:=h.wt
  unfold vr
  omega
def oQ(v:ByteArray→Option (List UInt8))(x:Bl)(inst:Bool)(n:ByteArray):Option (List UInt8) :=
 if inst=true∧n=pS x.d then v (iL x.d)else if n=iL x.d then none else v n
theorem GN(v:ByteArray→Option (List UInt8))(x:Bl)(n:ByteArray):oQ v x false n=if n=iL x.d then none else v n:=by
 grind [oQ]
theorem Nc(v:ByteArray→Option (List UInt8))(x:Bl)(n:ByteArray):oQ v x true n=if n=pS x.d then v (iL x.d)else if n=iL x.d then none else v n:=by
 grind [oQ,pS]
theorem CS.over{k w u j:Nat}{x x1 y:SJ}{ts:List Tk}{z:Tk}{c:List UInt8}{e e':Nat}(h:CS k w u x.1 ts)(hj:CJ j x (gI ts))(hk:k≤180)(xd:j<100)(hz:z∈ts)(hc:vw x.1.A (iL z.x.d)=some c){inst:Bool}(h1:(inst=true∧dS z.x x.1 e x1.1)∨(inst=false∧iS z.x x.1 e x1.1))(Km:x1.2=x.2)(nW:jG (mw (Og z.x.d)) x1 e' y) :
  e=(if inst=true∧eo z.x c=false then 8 else 0)∧e'=0∧CS (k+1) w (u+20) y.1 (vr ts z.x.d)∧CJ (j+1) y (gI (vr ts z.x.d))∧∀n,n≠dF→vw y.1.A n=oQ (vw x.1.A) z.x (inst && eo z.x c) n:=by
 have hb:=h.OX z hz
 have kJ:c.length≤1000:=by
  rcases h.dq.kd _ c hc with⟨he,_⟩|⟨_,hl⟩|⟨_,hl⟩
  ·grind [iz]
  ·exact hl
  ·exact hl
 have O8:=h.dq.cz.mono (fun _ x=>x) (Nat.le_succ k)
 have nr:=h.dq.SO
 have aab:=h.lO
 have g8:e=(if inst=true∧eo z.x c=false then 8 else 0)∧HA x1.1.A∧x1.1.brk=false∧x1.1.bu=nO x.1.bu z.x.d∧x1.1.A.room=x.1.A.room∧x1.1.A.names.length≤k+1∧Cz (k+1) x1.1.A∧x1.1.A.aF.length≤u+10∧∀n,vw x1.1.A n=oQ (vw x.1.A) z.x (inst && eo z.x c) n:=by
  have uh:∀ {e:Nat} {t:fW},iS z.x x.1 e t→e=0∧HA t.A∧t.brk=false∧t.bu=nO x.1.bu z.x.d∧t.A.room=x.1.A.room∧t.A.names.length≤k+1∧Cz (k+1) t.A∧∀n,vw t.A n=oQ (vw x.1.A) z.x false n:=fun {e t} hA=>by
   obtain⟨rfl,a1,a2,a3,a4,a5,a6⟩:=Cg h.dq.ha h.brk hb hc hA
   refine⟨rfl,a1,a2,a3,a6,?_,Cz.R7 O8 h.dq.ha hc kJ hA,fun n=>?_⟩
   ·rw[a5]
    have:=List.length_filter_le (fun q:ByteArray × Nat => !decide (q.1=fS z.x)) x.1.A.names
    unfold Ab.dW
    omega
   ·rw[a4,GN]
    rfl
  rcases h1 with⟨rfl,h1⟩|⟨rfl,h1⟩
  ·have hg:=(uz h1).1
   have hz2:=Cz.QT O8 h.dq.ha h.brk hb hc kJ (h.has z hz).2 aj h1
   cases hw:eo z.x c with
   | false =>
    obtain⟨rfl,a1,a2,a3,a4,a5,a6⟩:=zi h.dq.ha h.brk hb hc hw h1
    refine⟨by simp,a1,a2,a3,a6,?_,hz2,aj,fun n=>?_⟩
    ·rw[a5]
     have:=List.length_filter_le (fun q:ByteArray × Nat => !decide (q.1=fS z.x)) x.1.A.names
     unfold Ab.dW
     omega
    ·rw[a4,Bool.true_and,GN]
     rfl
   | true =>
    obtain⟨rfl,a1,a2,a3,a4,a5,f,a6⟩:=B7 h.dq.ha h.brk hb hc (h.has z hz).2 hw h1
    refine⟨by simp,a1,a2,a3,a5,?_,hz2,aj,fun n=>?_⟩
    ·rw[a6,List.length_append,List.length_singleton]
     have:=List.length_filter_le (fun q:ByteArray × Nat => !decide (q.1=fS z.x)) x.1.A.names
     unfold Ab.dW
     omega
    ·rw[a4,Bool.true_and,Nc,hc]
     rfl
  ·have hg:=(zl h1).1
   grind
 obtain⟨q0,q1,q2,q3,q4,q5,q6,q7,q8⟩:=g8
 have hS:∀d,d≠z.x.d→vw x1.1.A (iL d)=vw x.1.A (iL d):=fun d hd=>by
  grind [oQ,jU,E9]
 have hB:∀d,d≠z.x.d→vw x1.1.A (pS d)=vw x.1.A (pS d):=fun d hd=>by
  grind [oQ,L9,jU]
 have hP:vw x1.1.A dF=vw x.1.A dF:=by
  grind [oQ,qw,iz]
 have I4:=h.gone (k':=k+1) (u':=u+10) aj hz q1 q2 q3 q6 q4 q5 q7 hS hB (fun n c' Cj=>by
  rw[q8]at Cj
  unfold oQ at Cj
  split at Cj
  ·rename_i hi
   rw[hc]at Cj
   injection Cj with Cj
   subst Cj
   have hw:eo z.x c=true:=by
    grind
   exact .inr ⟨⟨z.x.d,hi.2,(Jb hw).2⟩,kJ⟩
  ·split at Cj
   ·cases Cj
   ·exact .inl Cj)
 have O5:CJ j x1 (gI ts):=by
  have:=hj.sto (t:=x1.1) hP
  grind
 obtain⟨rfl,m1,m2,m3,m4⟩:=I4.note O5 aj xd (RN _) nW
 refine⟨q0,rfl,m1.mono (Nat.le_refl _) (Nat.le_refl _) aj,m2 _ (fun ls Dy=>?_),fun n hn=>by rw[m4 n hn,q8]⟩
 rw[x8,Pv,Ff]
 exact Dy.rm _
def uo(k:List UInt8)(d:Dg):cX k d≠bU dF:=fun h=>by
 have h1:=congrArg (fun s:ByteArray=>s.data.toList.length) h
 simp only[cX,dF,strOf,bU,List.length_append,jX]at h1
 simp at h1
theorem DQ.fresh{k:Nat}{A:Ab}(h:DQ k A):vw A (bU dF)=none:=by
 cases hx:vw A (bU dF)with
 | none=>rfl
 | some c =>
  rcases h.kd _ c hx with⟨he,_⟩|⟨⟨d,he⟩,_⟩|⟨⟨d,he,_⟩,_⟩
  ·exact absurd he qh
  ·exact absurd he.symm (uo kS d)
  ·exact absurd he.symm (uo kB d)
theorem EB{A:Ab}(h:HA A){nm:ByteArray}{c:List UInt8}(hv:vw A nm=some c){a n:Int}(h1:0≤a)(h2:0≤n)(h3:a+n≤c.length):A.read nm a n=((c.drop a.toNat).take n.toNat,0):=by
 unfold vw at hv
 cases qY:A.look nm with
 | none=>rw[qY]at hv;cases hv
 | some f =>
  rw[qY]at hv
  simp only[Option.map_some,Option.some.injEq]at hv
  unfold Ab.read
  rw[if_neg (by rw[h.on];simp),qY]
  grind
theorem HL{A:Ab}(h:HA A){nm:ByteArray}{C:List UInt8}(hv:vw A nm=some C):gU A nm=cC (fE C):=by
 have hs:(A.size nm).1=C.length:=by
  unfold vw at hv
  cases qY:A.look nm with
  | none=>rw[qY]at hv;cases hv
  | some f =>
   rw[qY]at hv
   simp only[Option.map_some,Option.some.injEq]at hv
   unfold Ab.size
   grind
 unfold gU
 rw[hs,EB h hv aj aj aj]
 simp
structure GB(A:Ab)(c:TC):Prop where
 r:bP c.x=true
 s:c.x.size≤1000
 n:(c.n:Int)=cT c.x
 ok:k7 c
 has:(vw A (iL c.x.d)).isSome=true∧vw A (pS c.x.d)=none
 HU:∀i:Nat,cy c.ws c.n i=true→∃(b:List UInt8) (a n:Int) (p:List Dg),vw A (iL c.x.d)=some b∧dX c.x i=some (a,n)∧a+n≤b.length∧c.pf i=some p∧di c.x i ((b.drop a.toNat).take n.toNat) p=true
def GB.of{A:Ab}{c c':TC}(h:GB A c')(e:Td c c')(k8:k7 c):GB A c :=
  ⟨by rw[e.x];exact h.r,by rw[e.x];exact h.s,by rw[e.n,e.x];exact h.n,k8,by rw[e.x];exact h.has,fun i hi=>by
    rw[e.x,e.p i hi]
    exact h.HU i (by rw[← e.b i];exact hi)⟩
theorem GB.vw{A B:Ab}{c:TC}(h:GB A c)(h1:∀b,Proofs.YtlionahpheehaaaGreatDoor.vw A (iL c.x.d)=some b→Proofs.YtlionahpheehaaaGreatDoor.vw B (iL c.x.d)=some b)(h2:Proofs.YtlionahpheehaaaGreatDoor.vw B (pS c.x.d)=Proofs.YtlionahpheehaaaGreatDoor.vw A (pS c.x.d)):GB B c:=by
 refine⟨h.r,h.s,h.n,h.ok,⟨?_,by rw[h2];exact h.has.2⟩,fun i hi=>?_⟩
 ·obtain⟨b,hb⟩:=Option.isSome_iff_exists.1 h.has.1
  grind
 ·obtain⟨b,a,n,p,c1,c2⟩:=h.HU i hi
  grind
theorem JK{x:Bl}{i:Nat}{bs:List UInt8}{p:List Dg}{n:Nat}(h:di x i bs p=true)(hn:(n:Int)=cT x):p.length=fU n i:=by
 grind [di,kP]
def rf(l:List TC):List (Dg × Bl):=l.map fun c=>(c.x.d,c.x)
theorem Om{l:List TC}{d:Dg}(h:∀c∈l,c.x.d≠d):iN (rf l) d=none:=by
 grind [iN,rf]
theorem DV:∀ {l:List TC} {c:TC},(l.map fun c=>c.x.d).Nodup→c∈l→iN (rf l) c.x.d=some c.x
 | [],c,_,h=>by cases h
 | y::l,c,hn,h=>by
  rw[List.map_cons,List.nodup_cons]at hn
  rcases List.mem_cons.1 h with rfl|h
  ·unfold iN rf
   simp
  ·have dw:y.x.d≠c.x.d:=fun e=>hn.1 (List.mem_map.2 ⟨c,h,e.symm⟩)
   have ih:=DV hn.2 h
   grind [iN,rf]
theorem zf{k:Nat}{q:Int}{A:Ab}(hA:DQ k A):∀(l done:List TC) (s:fW) (rs:List (List UInt8)) (e:Nat) (t:fW) (k6:List TC) (CY:List (List UInt8)),s=⟨A,rf done,false⟩→(∀c∈l,GB A c)→(∀c∈done,c.x.size≤1000)→((done++l).map fun c=>c.x.d).Nodup →
  1000*(k:Int)+1000*((done.length+l.length:Nat):Int)≤q→ux q l s done rs e t k6 CY→e=0∧k6=done++l∧CY=rs++l.flatMap qN∧t=⟨A,rf (done++l),false⟩
 | [],done,s,rs,e,t,k6,CY,hs,_,_,_,_,h=>by
  obtain⟨rfl,rfl,rfl,rfl⟩:=h
  grind
 | c::l,done,s,rs,e,t,k6,CY,hs,hg,hd,hn,hq,h=>by
  subst hs
  have hc:=hg c (List.mem_cons_self ..)
  obtain⟨e1,s1,hb,nW⟩:=h
  have kZ:∀y∈done,y.x.d≠c.x.d:=fun y hy=>by
   grind
  have IZ:lM ⟨A,rf done,false⟩≤1000*(k:Int)+1000*(done.length:Int):=by
   have h1:=hA.vy
   have h2:=H6 (l:=rf done) (fun z hz=>by
    obtain⟨y,hy,rfl⟩:=List.mem_map.1 hz
    exact hd y hy)
   grind [rf,lM]
  have kr:=hc.s
  have afB:=Om kZ
  unfold eh at hb
  rw[if_neg (by simp),if_neg (by rw[hc.r];simp),if_neg (by
   rw[mI,show vw A (fB c.x)=none from hc.has.2]
   simp only
   rw[afB];simp),if_neg (by
   rw[List.length_cons]at hq
   omega),if_pos (by rw[mI];exact hc.has.1)]at hb
  obtain⟨rfl,rfl⟩:=hb
  rw[if_neg aj,if_neg aj]at nW
  have nN:rf done++[(c.x.d,c.x)]=rf (done++[c]):=by simp[rf]
  have iK:rM (rf (done++[c])) c.x=true:=by
   grind [rM,H4]
  have hh:lU ⟨A,rf done++[(c.x.d,c.x)],false⟩ c=(c,qN c):=by
   rw[nN]
   refine Hi (fun i hi hh=>?_) c.n (Nat.le_refl _)
   obtain⟨b,a,n,p,c1,c2,c3,c4,c5⟩:=hc.HU i hh
   obtain⟨f0,f1,f2,_⟩:=jL c2
   have cN:eL ⟨A,rf (done++[c]),false⟩ c.x (i:Int)=((b.drop a.toNat).take n.toNat,0):=by
    unfold eL
    rw[if_pos iK,c2]
    exact EB hA.ha c1 aj aj aj
   grind
  simp only[hh]at nW
  have:=zf hA l (done++[c]) _ _ e t k6 CY (by rw[nN]) (fun y hy=>hg y (List.mem_cons_of_mem _ hy)) (fun y hy=>by
   rcases List.mem_append.1 hy with hy|hy
   ·exact hd y hy
   ·rw[List.mem_singleton.1 hy];exact hc.s) (by rw[List.append_assoc];exact hn) (by rw[List.length_append,List.length_singleton];rw[List.length_cons]at hq;omega) nW
  grind
def GB.acF{A:Ab}{c:TC}(h:GB A c){i:Nat}(hi:cy c.ws c.n (i:Int)=true):∃p,c.pf i=some p∧p.length=fU c.n i∧p.length≤10:=by
 obtain⟨b,a,n,p,c1,c2,c3,c4,c5⟩:=h.HU i hi
 exact⟨p,c4,JK c5 h.n,uT c5⟩
theorem Gt{A:Ab}:∀(l Md cs1:List TC),FO Md cs1→(∀c∈l,GB A c)→((cs1++l).map fun c=>c.x.d).Nodup→FO ((l.flatMap qN).foldl dL Md) (cs1++l)
 | [],Md,cs1,h,_,_=>by simpa using h
 | c::l,Md,cs1,h,hg,hn=>by
  have hc:=hg c (List.mem_cons_self ..)
  have kZ:∀y∈Md,y.x.d≠c.x.d:=fun y hy=>by
   obtain⟨i,hi⟩:=List.mem_iff_getElem?.1 hy
   obtain⟨z,hz,hyz⟩:=h.left hi
   rw[hyz.x]
   grind
  have h1:=hc.n
  have h2:=hc.ok
  obtain⟨c',e1,e2⟩:=MY kZ hc.r aj h2.2.1 (by have:=h2.1;omega) (fun i hi=>hc.acF hi)
  rw[List.flatMap_cons,List.foldl_append,e1]
  have:=Gt l (Md++[c']) (cs1++[c]) (h.snoc e2) (fun y hy=>hg y (List.mem_cons_of_mem _ hy)) (by rw[List.append_assoc];exact hn)
  grind
theorem P1{A:Ab}{c:TC}(h:GB A c):∀b∈qN c,b.length≤900:=fun b hb=>by
 have hr:=dB h.r
 have hn:=h.ok.1
 unfold qN at hb
 rcases List.mem_cons.1 hb with rfl|hb
 ·grind [ve]
 ·obtain⟨i,hi,rfl⟩:=List.mem_map.1 hb
  have h1:=List.mem_filter.1 hi
  have h2:=List.mem_range.1 h1.1
  obtain⟨p,e1,_,e3⟩:=h.acF h1.2
  grind [AD]
def wC(cs:List TC):Nat:=(cs.map fun c=>1+(gL c).length).sum
theorem abf(ts:List Tk):wC (gI ts)=wT ts:=by unfold wC wT gI;rw[List.map_map];rfl
theorem Az:∀l:List TC,(l.flatMap qN).length=wC l
 | []=>rfl
 | c::l=>by
  have ih:=Az l
  grind [wC,qN]
theorem ZV{c c':TC}(h:Td c c'):gL c=gL c':=by
 unfold gL
 rw[h.n]
 refine List.filter_congr fun i _=>?_
 have:=h.b i
 rw[h.n]at this
 exact this
theorem abe:∀ {cs k6:List TC},FO cs k6→wC cs=wC k6:=fun {cs k6} h=>by
 unfold wC
 congr 1
 refine List.ext_getElem? fun i=>?_
 rw[List.getElem?_map,List.getElem?_map]
 cases hx:cs[i]? with
 | none =>
  rw[List.getElem?_eq_none (by rw[← h.1];exact List.getElem?_eq_none_iff.1 hx)]
 | some c =>
  obtain⟨c',Cj,e⟩:=h.left hx
  grind [ZV]
def FO.nodup{cs k6:List TC}(h:FO cs k6):cs.map (fun c=>c.x.d)=k6.map fun c=>c.x.d:=by
 refine List.ext_getElem? fun i=>?_
 rw[List.getElem?_map,List.getElem?_map]
 cases hx:cs[i]? with
 | none =>
  rw[List.getElem?_eq_none (by rw[← h.1];exact List.getElem?_eq_none_iff.1 hx)]
 | some c =>
  obtain⟨c',Cj,e⟩:=h.left hx
  rw[Cj,Option.map_some,Option.map_some,e.x]
def CS.x7{k w u:Nat}{s:fW}{ts:List Tk}(h:CS k w u s ts){y:Tk}(hy:y∈ts):GB s.A y.c:=by
 obtain⟨h1,h2,h3,h4⟩:=h.ok y hy
 exact⟨h1,h2,h3,h4,h.has y hy,h.HU y hy⟩
theorem QL(ts:List Tk):ts.length≤wT ts:=by
 induction ts with
 | nil=>exact Nat.zero_le _
 | cons t ts ih =>
  grind [wT]
def MC(ls:List (List UInt8)):(cB ls).length=32+(ls.flatMap bB).length:=by
 rw[Jc,Nx]
theorem DQ.put{k:Nat}{A:Ab}{ls:List (List UInt8)}{C:List UInt8}{n s c:Int}{e:Nat}{y:PS}(h:DQ k A)(hv:vw A dF=some C)(hk:k≤180)(hl:(ls.flatMap bB).length≤95000)(hR:CB dF ls (A,n,s,c) e y) :
  e=0∧DQ k y.1∧vw y.1=gl (vw A) dF (some (cB ls))∧y.2=(1,((ls.flatMap bB).length:Int),((ls.flatMap bB).length:Int)):=by
 have fD:=MC ls
 have IZ:=h.used
 have Q4:=h.room
 have nr:=h.SO
 obtain⟨rfl,r1,r2,r3,r4⟩:=C6 h.ha fC j7 qh h.fresh aj aj aj hR
 have hn:y.1.names.length=A.names.length:=h.ha.G6 r1 (fun m=>by
  rw[r2]
  unfold gl
  split
  ·rename_i hm;rw[hm,hv];rfl
  ·rfl)
 refine⟨rfl,h.next r1 (JG h.cz h.fresh r1 aj hR) r3 aj (fun m c' Cj=>?_),r2,r4⟩
 rw[r2]at Cj
 grind [dF,eN,eM]
theorem CS.open{k w u j:Nat}{s:fW}{jn:JN}{ts:List Tk}{A':Ab}{e:Nat}{t:SJ}{cs:List TC}(h:CS k w u s ts)(hj:CJ j (s,jn) (gI ts))(hq:DQ k A')(pg:∀n c,vw s.A n=some c→vw A' n=some c)(aah:∀n,(∀d,n≠iL d)→vw A' n=vw s.A n)(hk:k≤180)(hw:w≤100)(xd:j≤100)(hO:wP 1048576 A' e t cs) :
  e=0∧FO cs (gI ts)∧(∀n,n≠dF→vw t.1.A n=vw A' n)∧∀eG,gI eG=cs→CS k w (A'.aF.length+20) t.1 eG∧CJ w t (gI eG):=by
 obtain⟨C,n,ls,h1,h2,h3,h4,h5,h6,h7⟩:=hj.jr
 have hpv:vw A' dF=some C:=pg _ _ h1
 have pQ:=nu ls h6
 have hlen:=h2.len
 have ph:gU A' dF=ls:=by
  rw[HL hq.ha hpv,h2.found aj aj]
  grind [rF]
 obtain⟨e1,B,ho,hO⟩:=hO
 obtain⟨rfl,rfl⟩:=hq.open ho
 rw[if_neg aj]at hO
 obtain⟨s',jn',hT,rfl⟩:=hO
 obtain⟨e2,A1,j1,hR,hT⟩:=hT
 simp only at hR hT
 have I4:=vg hR
 rw[ph]at hT
 unfold mD at hR
 rw[if_neg (by rw[fC,j7];simp),if_neg (by rw[hq.ha.on];simp),ph]at hR
 obtain⟨y1,hR,rfl,rfl⟩:=hR
 obtain⟨rfl,d1,v1,j1e⟩:=hq.put hpv hk aj hR
 rw[if_neg aj]at hT
 obtain⟨e3,s2,rs,hL,hT⟩:=hT
 obtain⟨C0,hC0⟩:∃C0,C0=ls.foldl dL []:=⟨_,rfl⟩
 rw[← hC0]at hL h7
 have aeH:∀c∈C0,Pc c:=fun c hc=>(rz ls).1 c (hC0 ▸ hc)
 have nY:∀c∈C0,GB y1.1 c:=fun c hc=>by
  obtain⟨i,hi⟩:=List.mem_iff_getElem?.1 hc
  obtain⟨c',Cj,he⟩:=h7.left hi
  obtain⟨y,hy,rfl⟩:=List.mem_map.1 (List.mem_of_getElem? Cj)
  have hb:=(h.x7 hy).of he (aeH c hc).1
  refine hb.vw (fun b hb=>?_) ?_
  ·rw[v1,eM _ _ (iz _)];exact pg _ _ hb
  ·rw[v1,eM _ _ (qw _)];exact aah _ fun d e=>jU _ _ e.symm
 have lq:(C0.map fun c=>c.x.d).Nodup:=by rw[h7.nodup,RS];exact h.nd
 have hlC:C0.length≤w:=by
  have e1:=h7.1
  rw[tB]at e1
  have:=QL ts
  have:=h.wt
  omega
 obtain⟨rfl,rfl,rfl,rfl⟩:=zf (q:=1048576) d1 C0 [] _ [] e3 s2 _ rs rfl nY (fun c hc=>by cases hc) (by simpa using lq) (by simp only[List.length_nil];omega) hL
 rw[if_neg aj]at hT
 obtain⟨A3,hC,rfl⟩:=hT
 simp only[List.nil_append]at hC ⊢
 have hwC:wC cs=wT ts:=by rw[abe h7,abf]
 have hwt:=h.wt
 have w9:∀b∈cs.flatMap qN,b.length≤900:=fun b hb=>by
  grind [P1]
 have LR:=Az cs
 have tQ:=nu _ w9
 have T9:vw y1.1 dF=some (cB ls):=by rw[v1,eN]
 unfold pO at hC
 simp only[j1e]at hC
 rw[if_neg (by simp),if_neg (by
  rw[Bool.not_eq_true,List.any_eq_false]
  intro b hb
  have:=w9 b hb
  simp;omega),if_neg aj]at hC
 obtain⟨y3,hR3,rfl,rfl⟩:=hC
 have hg3:=yp hR3
 obtain⟨rfl,d3,v3,j3e⟩:=d1.put T9 hk aj hR3
 have hv3:∀m,m≠dF→vw y3.1 m=vw B m:=fun m hm=>by rw[v3,eM _ _ hm,v1,eM _ _ hm]
 refine⟨rfl,h7,hv3,fun eG tp=>?_⟩
 have hgB:∀c∈cs,GB y3.1 c:=fun c hc=>(nY c hc).vw (fun b hb=>by rw[v3,eM _ _ (iz _)];exact hb) (by rw[v3,eM _ _ (qw _)])
 have fk:∀y∈eG,GB y3.1 y.c:=fun y hy=>hgB _ (by rw[← tp];exact List.mem_map.2 ⟨y,hy,rfl⟩)
 have O4:∀y∈eG,xg y.c:=fun y hy=>xg.told ls [] (fun c h=>by cases h) _ (by rw[← hC0,← tp];exact List.mem_map.2 ⟨y,hy,rfl⟩)
 have aff:=I4.1
 have afe:=hg3.1
 simp only at aff afe
 refine⟨⟨d3,rfl,fun z hz=>?_,fun y hy=>?_,?_,?_,fun y hy=>?_,?_,fun y hy=>(fk y hy).has,fun y hy i hi=>(fk y hy).HU i hi,?_,by simp only;omega,fun y hy=>O4 y hy⟩,⟨cB (cs.flatMap qN),1,cs.flatMap qN,?_,JC.whole _,?_,aj,aj,w9,?_⟩⟩
 ·obtain⟨c,hc,rfl⟩:=List.mem_map.1 hz
  rw[← tp]at hc
  obtain⟨y,hy,rfl⟩:=List.mem_map.1 hc
  exact⟨rfl,y,hy,rfl⟩
 ·exact DV (c:=y.c) lq (by rw[← tp];exact List.mem_map.2 ⟨y,hy,rfl⟩)
 ·grind [rf]
 ·grind [rf]
 ·exact⟨(fk y hy).r,(fk y hy).s,(fk y hy).n,(fk y hy).ok⟩
 ·grind [RS]
 ·grind [abf]
 ·show vw y3.1 dF=_
  rw[v3,eN]
 ·grind
 ·rw[tp]
  have:=Gt (A:=y3.1) cs [] [] fM.nil hgB (by simpa using lq)
  grind
structure rj(k w u j:Nat)(x:SJ)(ts:List Tk):Prop where
 cs:CS k w u x.1 ts
 cj:CJ j x (gI ts)
theorem rj.first{e:Nat}{t:SJ}{cs:List TC}(hR:wP 1048576 (Ab.new 16777216) e t cs):e=0∧cs=[]∧(∀n,n≠dF→vw t.1.A n=none)∧rj 1 0 100 0 t []:=by
 have hR0:=hR
 obtain⟨rfl,rfl,a1,a2,a3,a4,a5,a6,a7,a8,a9,a10⟩:=Ox (HA.new _) rfl (by show 64≤16777216;omega) hR0
 have O8:Cz 1 t.1.A:=by
  obtain⟨e1,B,hO,hR⟩:=hR
  obtain⟨rfl,rfl⟩:=BS rfl hO
  rw[if_neg aj]at hR
  obtain⟨s,jn,⟨e2,A1,j1,hO1,hR⟩,rfl⟩:=hR
  simp only at hO1 hR
  have kX:=Eg (A:=Ab.new 16777216) rfl
  have hu0:(Ab.new 16777216).used=0:=rfl
  have hO2:=hO1
  obtain⟨rfl,k1,k2,k3,k4,k5⟩:=AH (HA.new 16777216) fC j7 qh (by rw[kX]) (by rw[kX]) (by show 0<200;omega) (by rw[hu0];show 0+32≤16777216;omega) hO1
  rw[kX]at k2
  obtain⟨hu1,hn1⟩:=(HA.new 16777216).ru k1 (k:=dF) (c:=cB []) (by rw[kX]) (by rw[k2,kX])
  have ago:A1.names.length=1:=hn1
  have z1:Cz 1 A1:=by
   unfold mD at hO2
   rw[if_neg (by rw[fC,j7];simp),if_neg (by show ¬false=true;simp)]at hO2
   obtain⟨y1,hP1,rfl,_⟩:=hO2
   exact JG (Cz.new 16777216) (by rw[kX]) k1 aj hP1
  rw[if_neg aj,k5]at hR
  obtain⟨e3,s2,rs,⟨rfl,rfl,-,rfl⟩,hR⟩:=hR
  rw[if_neg aj]at hR
  obtain⟨A3,hC,rfl⟩:=hR
  simp only at hC a1 a7 ⊢
  subst k4
  unfold pO at hC
  rw[if_neg (by simp),if_neg (by simp),if_neg (by simp)]at hC
  obtain⟨y,hP,rfl,rfl⟩:=hC
  exact JG z1 (by rw[k2,eM _ _ qh]) a1 aj hP
 obtain⟨⟨A,bu,brk⟩,jn⟩:=t
 simp only at a1 a2 a3 a4 a5 a6 a7 a8 a9 a10 O8
 subst a2 a3 a6
 have zI:(Ab.new 16777216).aF.length=1:=rfl
 refine⟨rfl,rfl,fun n hn=>by show vw A n=none;rw[a4,eM _ _ hn],⟨⟨⟨a1,O8,a5,by simp only;omega,fun n c hc=>?_⟩,rfl,fun z hz=>(by cases hz),fun y hy=>(by cases hy),List.nodup_nil,Nat.le_refl _,fun y hy=>(by cases hy),List.nodup_nil,fun y hy=>(by cases hy),fun y hy=>(by cases hy),Nat.le_refl _,by simp only;omega,fun y hy=>(by cases hy)⟩,⟨cB [],1,[],?_,JC.whole _,rfl,aj,Nat.le_refl _,fun b hb=>(by cases hb),fM.nil⟩⟩⟩
 ·have qu:vw A n=some c:=hc
  rw[a4]at qu
  grind [dF,eN,oH,eM]
 ·show vw A dF=_
  rw[a4,eN]
theorem rj.bnd{k w u j:Nat}{x:SJ}{ts:List Tk}(h:rj k w u j x ts)(hw:w≤150)(hu:u≤9000):ts.length≤150∧(∀y∈ts,y.n≤65536)∧(∀y∈ts,y.n≤y.ws.length*64)∧(∀y∈ts,y.ws.length≤65536)∧(∀y∈ts,∀k l,y.pf k=some l→l.length≤1000000)∧qS x.1.bu∧x.1.A.aF.length≤9000∧x.1.A.writes.length≤9000:=by
 have h1:=QL ts
 have h2:=h.cs.wt
 have h3:=h.cs.lO
 have h4:=h.cs.bl
 have k8:∀y∈ts,k7 y.c:=fun y hy=>(h.cs.ok y hy).2.2.2
 have hw0:x.1.A.writes=[]:=by
  cases hx:x.1.A.writes with
  | nil=>rfl
  | cons z l=>exact(h.cs.dq.cz.wr z (by rw[hx];simp)).elim
 refine⟨aj,fun y hy=>?_,fun y hy=>(k8 y hy).2.1,fun y hy=>(k8 y hy).2.2.1,fun y hy k l hk=>?_,⟨fun z hz=>?_,aj⟩,aj,by rw[hw0];simp⟩
 ·have:y.n≤1024:=(k8 y hy).1
  omega
 ·have:l.length≤10:=(k8 y hy).2.2.2 k l hk
  omega
 ·obtain⟨_,y,hy,hyz⟩:=h.cs.bu z hz
  obtain⟨g1,g2,_⟩:=h.cs.ok y hy
  have:=dB g1
  grind
theorem rj.sq{k w u j:Nat}{x v:SJ}{ts:List Tk}(h:rj k w u j x ts)(hj:j≤150)(hu:u≤9000)(hv:v.2=x.2)(hg:iO 5 x.1 v.1):SQ 10000 0 v:=by
 obtain⟨C,n,ls,h1,h2,h3,h4,h5,h6,h7⟩:=h.cj.jr
 have pQ:=nu ls h6
 have h8:=h.cs.lO
 have hw0:x.1.A.writes=[]:=by
  cases hx:x.1.A.writes with
  | nil=>rfl
  | cons z l=>exact(h.cs.dq.cz.wr z (by rw[hx];simp)).elim
 have I4:=hg.1
 have O7:=hg.2
 rw[hw0,List.length_nil]at O7
 refine⟨?_,?_,aj,aj⟩
 ·grind
 grind
def rj.begin{k w u j:Nat}{x t:SJ}{ts eG:List Tk}{b:Bl}{jN:Bool}{e:Nat}(h:rj k w u j x ts)(hk:k≤180)(hw:w≤150)(xd:j<100)(hs:bP b=true→b.size≤1000)(hR:SK 1048576 b ts x false e eG jN t) :
  jN=false∧rj (k+1) (w+1) (u+20) (j+1) t eG∧e=(if(ts.any fun y=>decide (y.x.d=b.d))=true then 5 else if bP b=false then 1 else if(vw x.1.A (pS b.d)).isSome=true then 5 else 0) ∧
   (e≠0→eG=ts∧t=x)∧(e=0→gI eG=gI ts++[dG b]∧∀n,n≠dF→vw t.1.A n=if n=iL b.d then some ((vw x.1.A n).getD [])else vw x.1.A n):=by
 obtain⟨h1,h2,h3,h4⟩:=h.cs.begin h.cj hk hw xd hs hR
 exact⟨h1,⟨h2,h3⟩,h4⟩
theorem rj.put{k w u j:Nat}{x t:SJ}{ts eG:List Tk}{b:Bl}{i:Int}{bs:List UInt8}{p:List Dg}{jN:Bool}{e:Nat}(h:rj k w u j x ts)(hk:k≤180)(xd:j<100)(hR:OA b i bs p ts x false e eG jN t) :
  jN=false∧rj k (w+1) (u+20) (j+1) t eG∧e=TA ts b i bs p ∧
   ((eG=ts∧t=x)∨∃(q:Nat) (y:Tk),ts[q]?=some y∧y.x=b∧0≤i∧i<y.n∧cy y.ws y.n i=false∧di b i bs p=true∧eG=ts.set q (y.put i.toNat p)∧(∀m,m≠dF→m≠iL b.d→vw t.1.A m=vw x.1.A m)∧∃(c:List UInt8) (a n:Int),vw x.1.A (iL b.d)=some c∧dX b i=some (a,n)∧vw t.1.A (iL b.d)=some (bY c a.toNat bs)):=by
 obtain⟨h1,h2,h3,h4⟩:=h.cs.put h.cj hk xd hR
 exact⟨h1,⟨h2,h3⟩,h4⟩
def rj.fin{k w u j:Nat}{x t:SJ}{ts eG:List Tk}{b:Bl}{jN:Bool}{r:Int}(h:rj k w u j x ts)(hk:k≤180)(xd:j<100)(hR:abc b ts x false r eG jN t) :
  jN=false∧rj (k+1) w (u+20) (j+1) t eG∧((lX ts b=none∧r=4∧eG=ts∧t=x)∨∃y∈ts,y.x=b∧((re y.ws<y.n∧r=9∧eG=ts∧t=x) ∨
   (¬re y.ws<y.n∧eG=vr ts b.d∧∃c,vw x.1.A (iL b.d)=some c∧r=(if eo b c=false then 8 else 0)∧∀n,n≠dF→vw t.1.A n=oQ (vw x.1.A) b (eo b c) n))):=by
 have hm:rj (k+1) w (u+20) (j+1) x ts:=⟨h.cs.mono aj (Nat.le_refl _) aj,h.cj.mono aj⟩
 rcases hR with⟨h1,_⟩|⟨_,hf,rfl,rfl,rfl,rfl⟩|⟨_,y,hf,hc⟩
 ·cases h1
 ·exact⟨rfl,hm,.inl ⟨hf,rfl,rfl,rfl⟩⟩
 obtain⟨q,hq,rfl⟩:=yd hf
 have hy:=List.mem_of_getElem? hq
 rcases hc with⟨h1,rfl,rfl,rfl,rfl⟩|⟨h1,e,v,⟨hI,hI2⟩,hc⟩
 ·exact⟨rfl,hm,.inr ⟨y,hy,rfl,.inl ⟨h1,rfl,rfl,rfl⟩⟩⟩
 obtain⟨c,qP⟩:=Option.isSome_iff_exists.1 (h.cs.has y hy).1
 have he:e=0∨e=8:=by
  cases hw:eo y.x c with
  | false=>exact .inr (zi h.cs.dq.ha h.cs.brk (h.cs.OX y hy) qP hw hI).1
  | true=>exact .inl (B7 h.cs.dq.ha h.cs.brk (h.cs.OX y hy) qP (h.cs.has y hy).2 hw hI).1
 rcases hc with⟨h0,h8,_⟩|⟨_,e',hr,tp,rfl,nW⟩
 ·omega
 obtain⟨r0,rfl,r2,r3,r4⟩:=h.cs.over h.cj hk xd hy qP (inst:=true) (.inl ⟨rfl,hI⟩) hI2 nW
 rw[if_pos rfl]at hr tp
 subst tp
 refine⟨by decide,⟨r2,r3⟩,.inr ⟨y,hy,rfl,.inr ⟨h1,rfl,c,qP,?_,fun n hn=>by rw[r4 n hn,Bool.true_and]⟩⟩⟩
 rw[hr,r0]
 cases eo y.x c <;> rfl
def rj.back{k w u j:Nat}{x t:SJ}{ts:List Tk}{e:Nat}{cs:List TC}(h:rj k w u j x ts)(hk:k≤180)(hw:w≤100)(xd:j≤100)(hO:wP 1048576 (x.1.A.dx 0 [] (-1) 0) e t cs) :
  e=0∧FO cs (gI ts)∧(∀n c,vw x.1.A n=some c→n≠dF→vw t.1.A n=some c)∧(∀n,(∀d,n≠iL d)→n≠dF→vw t.1.A n=vw x.1.A n)∧∀eG,gI eG=cs→rj k w 21 w t eG:=by
 obtain⟨d1,d2,d3⟩:=h.cs.dq.dx
 obtain⟨r1,r2,r3,r4⟩:=h.cs.open (jn:=x.2) h.cj d1 d2 d3 hk hw xd hO
 refine⟨r1,r2,fun n c hc hn=>by rw[r3 n hn];exact d2 n c hc,fun n hn hp=>by rw[r3 n hp,d3 n hn],fun eG tp=>?_⟩
 obtain⟨q1,q2⟩:=r4 eG tp
 exact⟨q1,q2⟩
def RT{b:Bl}(hr:bP b=true)(hs:b.size≤1000):1≤cT b∧cT b≤64:=by
 have h:=dB hr
 unfold cT
 rw[if_pos hr]
 constructor
 ·exact Int.le_ediv_of_mul_le aj aj
 ·exact Int.le_of_lt_add_one (Int.ediv_lt_of_lt_mul aj aj)
def MK{b:Bl}{i:Int}(h0:0≤i)(h1:i<cT b):∃a n,dX b i=some (a,n):=by
 unfold dX
 simp_all
structure oC(a:List UInt8)(b:Bl)(x:SJ)(y:Tk):Prop where
 xb:y.x=b
 HU:∃c,vw x.1.A (iL b.d)=some c∧Pe b a c (fun i=>cy y.ws y.n i=true)
def Pe.sub{x:Bl}{w c:List UInt8}{P Q:Int→Prop}(h:Pe x w c P)(hq:∀k,Q k→P k):Pe x w c Q:=⟨h.len,fun k hk=>h.has k (hq k hk)⟩
def oC.mem{a:List UInt8}{b:Bl}{k w u j:Nat}{x:SJ}{y:Tk}(h:rj k w u j x [y])(h1:oC a b x y):bP b=true∧b.size≤1000∧(y.n:Int)=cT b∧k7 y.c∧xg y.c∧1≤y.n∧y.n≤64:=by
 obtain⟨g1,g2,g3,g4⟩:=h.cs.ok y (by simp)
 rw[h1.xb]at g1 g2 g3
 have:=RT g1 g2
 exact⟨g1,g2,g3,g4,h.cs.ns y (by simp),aj,aj⟩
def oC.find{b:Bl}{y:Tk}(h:y.x=b):lX [y] b=some y:=by
 unfold lX
 simp[h]
theorem oC.begin{a:List UInt8}{b:Bl}{x t:SJ}{y:Tk}(hy:y.c=dG b)(hv:vw t.1.A (iL b.d)=some []):oC a b t y:=by
 refine⟨congrArg TC.x hy,[],hv,(Pe.nil b a).sub fun k hk=>?_⟩
 have h2:cy y.c.ws y.c.n k=false:=by rw[hy];exact wm _ _ _
 have h3:cy y.ws y.n k=false:=h2
 grind
theorem oC.put{a:List UInt8}{b:Bl}{k w u j:Nat}{x t:SJ}{y:Tk}{eG:List Tk}{i:Int}{bs:List UInt8}{p:List Dg}{jN:Bool}{e:Nat}(h:rj k w u j x [y])(h1:oC a b x y)(uh:(a.length:Int)=b.size)(hk:k≤180)(xd:j<100)(N1:di b i bs p=true→∀at_ n,dX b i=some (at_,n)→bs=(a.drop at_.toNat).take n.toNat)(hR:OA b i bs p [y] x false e eG jN t) :
  jN=false∧rj k (w+1) (u+20) (j+1) t eG∧e=(if i<0∨(y.n:Int)≤i then 1 else if cy y.ws y.n i=true then 0 else if di b i bs p=true then 0 else 8) ∧
   ∃y',eG=[y']∧y'.n=y.n∧oC a b t y'∧∀l:Int,cy y'.ws y'.n l=(cy y.ws y.n l || (decide (e=0) && decide (l=i))):=by
 obtain⟨m1,m2,m3,m4,m5,m6,m7⟩:=h1.mem h
 obtain⟨r1,r2,r3,r4⟩:=h.put hk xd hR
 have he:e=(if i<0∨(y.n:Int)≤i then 1 else if cy y.ws y.n i=true then 0 else if di b i bs p=true then 0 else 8):=by
  rw[r3];unfold TA;rw[oC.find h1.xb]
 refine⟨r1,r2,he,?_⟩
 rcases r4 with⟨rfl,rfl⟩|⟨q,y0,hq,QU,DC,VU,hh,hp,rfl,hv,c,at_,n,hc,hX,xW⟩
 ·refine⟨y,rfl,rfl,h1,fun l=>?_⟩
  by_cases hl:l=i
  ·subst hl
   rw[decide_eq_true rfl,Bool.and_true]
   cases hx:cy y.ws y.n l with
   | true=>rfl
   | false =>
    rw[Bool.false_or]
    symm
    refine decide_eq_false fun h0=>?_
    rw[h0]at he
    by_cases hr:l<0∨(y.n:Int)≤l
    ·rw[if_pos hr]at he;cases he
    ·rw[if_neg hr,hx,if_neg (by simp)]at he
     by_cases hp:di b l bs p=true
     ·-- it would have been put
      exact absurd hR (by
       intro hR
       rcases hR with⟨hb,_⟩|⟨_,hf,_⟩|⟨_,q,z,hf,hq,hzx,hc⟩
       ·cases hb
       ·rw[oC.find h1.xb]at hf;cases hf
       ·rw[oC.find h1.xb]at hf
        injection hf with hf
        subst hf
        rcases hc with⟨hi,_⟩|⟨_,hh,_⟩|⟨_,_,I0,_⟩|⟨_,_,_,_,_,tp⟩
        ·exact hr hi
        ·rw[hx]at hh;cases hh
        ·rw[hp]at I0;cases I0
        ·rcases tp with⟨dw,_⟩|⟨_,tp⟩
         ·exact dw h0
         ·have T5:q=0:=by
           cases q with
           | zero=>rfl
           | succ q=>simp at hq
          subst T5
          simp only[List.set_cons_zero,List.cons.injEq,and_true]at tp
          have h9:=congrArg (fun z:Tk=>cy z.ws z.n l) tp
          replace h9:cy y.ws y.n l=cy (y.put l.toNat p).ws (y.put l.toNat p).n l:=h9
          rw[hx]at h9
          have mg:cy (y.put l.toNat p).ws (y.put l.toNat p).n l=true:=by
           show cy (jQ y.ws l.toNat true) y.n l=true
           rw[iu (show y.n≤y.ws.length*64 from m4.2.1) (show l.toNat<y.n by omega),if_pos aj]
          rw[mg]at h9
          cases h9)
     ·rw[if_neg hp]at he;cases he
  ·rw[decide_eq_false hl,Bool.and_false,Bool.or_false]
 ·have T5:q=0:=by
   cases q with
   | zero=>rfl
   | succ q=>simp at hq
  subst T5
  simp only[List.getElem?_cons_zero,Option.some.injEq]at hq
  subst hq
  have tT:e=0:=by rw[he,if_neg aj,hh,if_neg (by simp),if_pos hp]
  obtain⟨c0,Ci,qP⟩:=h1.HU
  rw[hc]at Ci
  injection Ci with Ci
  subst Ci
  have hb:=N1 hp at_ n hX
  refine⟨y.put i.toNat p,rfl,rfl,⟨h1.xb,_,xW,?_⟩,fun l=>?_⟩
  ·rw[hb]
   refine(qP.put uh hX).sub fun l hl=>?_
   have EZ:cy (jQ y.ws i.toNat true) y.n l=true:=hl
   rw[iu (show y.n≤y.ws.length*64 from m4.2.1) (show i.toNat<y.n by omega)]at EZ
   by_cases he:l=i
   ·exact .inr he
   ·rw[if_neg aj]at EZ
    exact .inl EZ
  ·show cy (jQ y.ws i.toNat true) y.n l=_
   rw[iu (show y.n≤y.ws.length*64 from m4.2.1) (show i.toNat<y.n by omega),tT]
   by_cases hl:l=i
   ·rw[if_pos aj];simp[hl]
   ·rw[if_neg aj];simp[hl]
def oC.back{a:List UInt8}{b:Bl}{k w u j:Nat}{x t:SJ}{y:Tk}{e:Nat}{cs:List TC}(h:rj k w u j x [y])(h1:oC a b x y)(hk:k≤180)(hw:w≤100)(xd:j≤100)(hO:wP 1048576 (x.1.A.dx 0 [] (-1) 0) e t cs) :
  e=0∧∀eG,gI eG=cs→rj k w 21 w t eG∧∃y',eG=[y']∧y'.n=y.n∧oC a b t y'∧∀l:Int,cy y'.ws y'.n l=cy y.ws y.n l:=by
 obtain⟨r1,r2,r3,r4,r5⟩:=h.back hk hw xd hO
 refine⟨r1,fun eG tp=>⟨r5 eG tp,?_⟩⟩
 subst tp
 have hl:eG.length=1:=by have:=r2.1;rw[tB,tB]at this;exact this
 obtain⟨y',rfl⟩:=List.length_eq_one_iff.1 hl
 have he:=r2.2 0 y'.c y.c zr zr
 obtain⟨c,hc,qP⟩:=h1.HU
 have hx:y'.x=y.x:=he.x
 have hb:∀l:Int,cy y'.ws y'.n l=cy y.ws y.n l:=he.b
 exact⟨y',rfl,he.n,⟨hx.trans h1.xb,c,r3 _ c hc (iz _),qP.sub fun l hl=>by rw[← hb];exact hl⟩,hb⟩
theorem oC.done{a:List UInt8}{b:Bl}{k w u j:Nat}{x t:SJ}{y:Tk}{eG:List Tk}{jN:Bool}{r:Int}(h:rj k w u j x [y])(h1:oC a b x y)(uh:(a.length:Int)=b.size)(hwb:eo b a=true)(hk:k≤180)(xd:j<100)(fH:∀i:Nat,i<y.n→cy y.ws y.n (i:Int)=true)(hR:abc b [y] x false r eG jN t) :
  r=0∧jN=false∧rj (k+1) w (u+20) (j+1) t []∧eG=[]∧vw t.1.A (pS b.d)=some a:=by
 obtain⟨m1,m2,m3,m4,m5,m6,m7⟩:=h1.mem h
 obtain⟨r1,r2,r3⟩:=h.fin hk xd hR
 have Rz:=m5.all m6 m7 fH
 have afZ:re y.ws=y.n:=Rz
 rcases r3 with⟨hf,_⟩|⟨z,hz,hzx,⟨dk,_⟩|⟨_,rfl,c,hc,hr,hv⟩⟩
 ·rw[oC.find h1.xb]at hf;cases hf
 ·grind
 obtain⟨c0,Ci,qP⟩:=h1.HU
 rw[hc]at Ci
 injection Ci with Ci
 subst Ci
 have hca:c=a:=qP.full uh m1 fun i h0 h2=>by
  obtain⟨i',rfl⟩:∃i':Nat,i=i':=⟨i.toNat,aj⟩
  grind
 grind [vr,qw,oQ]
theorem qy{a:List UInt8}{m:Int}{x:Bl}{l:List Dg}(hx:jF a m=some x)(hl:er a m=some l):cT x=l.length∧x.size=a.length∧x.piece=m∧bP x=true:=by
 grind [Fp,bP,er,rK,cT]
section
variable{P:Program}{U:Tr}[hU:gF P U]{f:FuncId}{n:Nat}{R:Ending→World→Prop}{G:cL}{k:List Item}{L:gh}{H H':List HP}{S:World→Prop}{all:Array Oper}{rest:Pl}{ty:TypeId}{pos:String}{af:Array Edge}{gd:Option (Nat × Bool)}{m:Bool}{d:Tmp}
end
attribute [local irreducible] J K aH Ends ak aK aV bX bj aS bp bD cp Sha.chunks Sha.chunk Sha.rounds Sha.sched fz cY fG kE jF er dg
end Go.Proofs.YtlionahpheehaaaGreatDoor
namespace Go.Proofs.YtlionahpheehaaaGreatDoor
open Go Go.SL
def Ij(bs bd jb:Nat)(q:Int)(mb:Nat)(x:SJ)(F:List HP):aq (dj bs bd jb q mb [] x::F) (aJ bd x.1.A::F):=by
 unfold dj cV
 refine(aq.cR _ _).trans ?_
 simp only[List.cons_append,List.nil_append]
 exact ad
def Ml(bs bd jb:Nat)(q:Int)(mb:Nat)(x:SJ)(F:List HP):aq (dj bs bd jb q mb [] x::F) (ak bs (cl (eJ bd q mb x.1.brk) 88)::aJ bd x.1.A::F):=by
 unfold dj cV
 refine(aq.cR _ _).trans ?_
 simp only[List.cons_append,List.nil_append]
 exact ad
def DQ.wr{k:Nat}{A:Ab}(h:DQ k A):A.writes=[]:=by
 cases hx:A.writes with
 | nil=>rfl
 | cons z l=>exact(h.cz.wr z (by rw[hx];simp)).elim
theorem rj.adL{k w u j:Nat}{x:SJ}{ts:List Tk}(h:rj k w u j x ts)(hj:j≤100){A':Ab}(hq:DQ k A')(hv:vw A' dF=vw x.1.A dF):∀B,sw A' 0 B→B.writes.length≤700000000∧(gU B dF).length≤900000∧(∀y∈gU B dF,y.length≤1000000)∧((gU B dF).foldl dL []).length≤100:=by
 intro B hB
 obtain⟨_,rfl⟩:=hq.open hB
 obtain⟨C,n,ls,h1,h2,h3,h4,h5,h6,h7⟩:=h.cj.jr
 have pQ:=nu ls h6
 have hf:gU B dF=ls:=by
  rw[HL hq.ha (hv.trans h1),h2.found aj aj]
  grind [rF]
 have ht:=(rz ls).2
 rw[hf,hq.wr]
 grind
def rj.adK{k w u j:Nat}{x:SJ}{ts:List Tk}(h:rj k w u j x ts)(hj:j≤100):∀B,sw (x.1.A.dx 0 [] (-1) 0) 0 B→B.writes.length≤700000000∧(gU B dF).length≤900000∧(∀y∈gU B dF,y.length≤1000000)∧((gU B dF).foldl dL []).length≤100:=by
 obtain⟨d1,d2,d3⟩:=h.cs.dq.dx
 exact h.adL hj d1 (d3 dF fun d e=>iz d e.symm)
theorem Py{α:Type}(l:List α){k s:Nat}(h:s=min k l.length):l.take k=l.take s:=by
 grind
theorem TU{a:List UInt8}{m:Int}{x:Bl}{l:List Dg}(hx:jF a m=some x)(hl:er a m=some l){i:Nat}{at_ sz:Int}(hX:dX x i=some (at_,sz)):l[i]?=some (fG ((a.drop at_.toNat).take sz.toNat)):=by
 obtain⟨c1,c2,c3,c4⟩:=qy hx hl
 obtain⟨g0,g1,g2,g3,g4,g5,g6,gr⟩:=jL hX
 grind [dB,er,lQ,Py]
theorem UP{ts:List Tk}{c:TC}(h:gI ts=[c]):∃y,ts=[y]∧y.c=c:=by
 have hl:ts.length=1:=by rw[← tB,h];rfl
 obtain⟨y,rfl⟩:=List.length_eq_one_iff.1 hl
 grind [gI]
theorem ad0{a:List UInt8}{b:Bl}{x t:SJ}{eG:List Tk}{jN:Bool}{e:Nat}(hr:bP b=true)(hs:b.size≤1000)(h:rj 1 0 100 0 x [])(hv:∀n,n≠dF→vw x.1.A n=none)(hR:SK 1048576 b [] x false e eG jN t) :
  jN=false∧e=0∧∃y,eG=[y]∧rj 2 1 120 1 t [y]∧oC a b t y∧(∀l:Int,cy y.ws y.n l=false)∧vw t.1.A (pS b.d)=none:=by
 obtain⟨r1,r2,r3,r4,r5⟩:=h.begin aj aj aj (fun _=>hs) hR
 rw[if_neg (by simp),if_neg (by rw[hr];simp),if_neg (by rw[hv _ (qw _)];simp)]at r3
 obtain⟨c1,c2⟩:=r5 r3
 obtain⟨y,rfl,hy⟩:=UP (show gI eG=[dG b]from c1)
 refine⟨r1,r3,y,rfl,r2,oC.begin (x:=t) hy (by rw[c2 _ (iz _),if_pos rfl,hv _ (iz _)];rfl),fun l=>?_,?_⟩
 ·have h2:cy y.c.ws y.c.n l=false:=by rw[hy];exact wm _ _ _
  exact h2
 grind [qw,jU]
structure Mem where
 id:Int
 inc:Int
 st:Int
 since:Int
deriving DecidableEq
instance:Inhabited Mem:=⟨⟨0,0,0,0⟩⟩
def No(x:Mem):List Value:=[.int .i64 x.id,.int .i64 x.inc,.int .i64 x.st,.int .i64 x.since]
def sY(x:Mem):(No x).length=4:=rfl
structure ef where
 kind:Int
 hash:Dg
 piece:Int
 ids:List Int
 bytes:List UInt8
 proof:List Dg
 dz:List Mem
 jq:Bool
def ef.zero:ef:=⟨0,Dg.zero,0,[],[],[],[],false⟩
def da(k:Int):List Int :=
 if k=1∨k=10 then [1,2,5]else if k=2∨k=3∨k=5 then [1,2,3]else if k=4 then [1,2,3,5,6]else if k=6 then [1,2,8]else if k=7 then [1,2,4]else if k=8 then [1,7]
 else if k=9∨k=11 then [1,2]else []
def vU(k:Int):Int:=if k=1 then 128 else if k=4 then 16384 else if k=10 then 4096 else 0
def tL(n lo hi:Int):Bool:=decide (lo≤n) && decide (n≤hi)
def mG{n lo hi:Int}:tL n lo hi=true↔lo≤n∧n≤hi:=by simp[tL]
def H7(m:ef)(i:Int):Bool :=
 if i=1 then false else if i=2 then decide (m.hash=Dg.zero)else if i=3 then decide (m.piece=0)else if i=4 then decide ((m.ids.length:Int)=0)else if i=5 then decide ((m.bytes.length:Int)=0)
 else if i=6 then decide ((m.proof.length:Int)=0)else if i=7 then decide ((m.dz.length:Int)=0)else !m.jq
def lR(i:Int):Bool := !tL i 1 65536
def lk(x:Mem):Bool:=lR x.id || !tL x.inc 0 1073741824 || !tL x.st 1 3 || decide (x.since≠0)
def uq(m:ef)(i:Int):Bool :=
 if i=3 then tL m.piece 0 1023 else if i=4 then decide ((m.ids.length:Int)≤64) && !m.ids.any lR else if i=5 then tL m.bytes.length 1 (vU m.kind)else if i=6 then decide ((m.proof.length:Int)≤10)
 else if i=7 then tL m.dz.length 1 65 && !m.dz.any lk else true
def fR(m:ef)(i:Int):Bool:=if i∈da m.kind then uq m i else H7 m i
def dE(m:ef):Bool:=fR m 1 && fR m 2 && fR m 3 && fR m 4 && fR m 5 && fR m 6 && fR m 7 && fR m 8
def bZ(l:List Int):List UInt8:=l.flatMap fun n=>uv n.toNat
def de(m:ef)(i:Int):List UInt8 :=
 if i=1 then bZ [m.kind]else if i=2 then m.hash.bs else if i=3 then bZ [m.piece]else if i=4 then bZ m.ids else if i=5 then m.bytes else if i=6 then m.proof.flatMap Dg.bs
 else if i=7 then m.dz.flatMap fun x=>bZ [x.id,x.inc,x.st]else if i=8 then bZ [if m.jq then 1 else 0]else []
def cZ(m:ef):List (Int × List UInt8):=(da m.kind).map fun i=>(i,de m i)
def AM(bs:List UInt8):Nat→Nat→Option (Nat × Nat)
 | 0,_=>none
 | f+1,k=>if k≤bs.length then(match cH (bs.take k)with
  | some n=>some (n,k)
  | none=>AM bs f (k+1))else none
def AL(bs:List UInt8):Option (Nat × Nat):=AM bs 6 1
def yM:Nat→List UInt8→List Int
 | 0,_=>[]
 | f+1,bs=>if bs=[]then []else match AL bs with
  | none=>[-1]
  | some (n,k)=>(n:Int)::yM f (bs.drop k)
def dp(bs:List UInt8):List Int:=yM bs.length bs
def nL(bs:List UInt8):Option Int:=match dp bs with
 | [n]=>if n<0 then none else some n
 | _=>none
def Fc:Nat→List UInt8→List Dg
 | 0,_=>[]
 | f+1,bs=>if h:32≤bs.length then⟨bs.take 32,by rw[List.length_take];omega⟩::Fc f (bs.drop 32)else []
def my:List Int→List Mem
 | a::b::c::l=>⟨a,b,c,0⟩::my l
 | _=>[]
def uR(m:ef)(i:Int)(b:List UInt8):Option ef :=
 if i=2 then(if h:b.length=32 then some { m with hash:=⟨b,h⟩ } else none)
 else if i=3 then(nL b).map fun n=>{ m with piece:=n }
 else if i=4 then some { m with ids:=dp b }
 else if i=5 then some { m with bytes:=b }
 else if i=6 then(if b.length%32=0 then some { m with proof:=Fc b.length b } else none)
 else if i=7 then(if(dp b).length%3=0 then some { m with dz:=my (dp b) } else none)
 else if i=8 then(match nL b with
  | some n=>if n≤1 then some { m with jq:=decide (n=1) } else none
  | none=>none)
 else none
def cS(m:ef):List (Int × Int × List UInt8)→Option ef
 | []=>some m
 | (i,j,b)::l=>if i≠j then none else match uR m i b with
  | some m'=>cS m' l
  | none=>none
def dO(b:List UInt8):Option ef:=match nJ b with
 | some ((1,b0)::l)=>match nL b0 with
  | some k=>if(da k).length≠l.length+1 then none else match cS { ef.zero with kind:=k } (((da k).drop 1).zip l)with
   | some m=>if dE m then some m else none
   | none=>none
  | none=>none
 | _=>none
structure MV where
 i:Value
 b:Value
 p:Value
 m:Value
def mC(v:MV)(m:ef):List Value := .int .i64 m.kind::(dC m.hash++[.int .i64 m.piece,v.i,v.b,v.p,v.m,.bool m.jq])
structure gW(X:HP)(v:MV)(m:ef):Prop where
 vi:Vw X v.i m.ids.length (iV m.ids)
 vb:eU X v.b m.bytes
 vp:K4 X v.p m.proof
 vm:Vw X v.m m.dz.length (m.dz.flatMap No)
 li:m.ids.length≤1000000000
 lb:m.bytes.length≤1000000000
 lp:m.proof.length≤1000000000
 lm:m.dz.length≤1000000000
def gW.mono{A B:HP}{v:MV}{m:ef}(h:gW A v m)(O':∀h,B h→∃h',sub h' h∧A h'):gW B v m :=
 ⟨h.vi.mono O',h.vb.mono O',h.vp.mono O',h.vm.mono O',h.li,h.lb,h.lp,h.lm⟩
def PD(e:TypeId)(b:Nat)(cs:List Value)(H:List HP):aq (ak b (cl cs e)::H) (aK e 1 (.slice (some ⟨b,0,none⟩) cs.length cs.length) cs.length cs::H):=by
 have h:=fp e 1 b cs.length cs.length cs [] H aj (Nat.le_refl _) (by simp)
 rw[List.append_nil]at h
 exact h
def eqD(a b:Dg)(w:World):(Op.equal 29 (.agg (dC a).toArray) (.agg (dC b).toArray)).run Tryz.prog w = .ok (decide (a=b)) w :=
 qc Tryz.underlying29 Tryz.underlying5 aw a b 9998 w
def guD:Tryz.prog.eqGuardType Tryz.prog.depth 29=false:=by kernel_rfl
attribute [local irreducible] J K aH Ends ak aK aV bX bj aS bp bD cp
def fu(n lo hi:Int):aH Tryz.prog 201 [.int .i64 n,.int .i64 lo,.int .i64 hi] [] (fun r H=>r = .bool (tL n lo hi)∧H=[]):=by
 refine aH.aC Tryz.func201 Tryz.ntmps201 fun G F R hE=>?_
 repeat'(first|(with_reducible intro k9)|refine g9 ?_|refine dA zr zr zr zr ?_ ?_|fail)
 ·((refine ah hE Tryz.func201 zr zr ⟨(by unfold tL;rw[decide_eq_true (show lo≤n from k9),Bool.true_and];rfl),rfl⟩))
 ·((refine ah hE Tryz.func201 zr zr ⟨(by unfold tL;rw[decide_eq_false (show ¬lo≤n from k9),Bool.false_and];rfl),rfl⟩))
def lK(k:Int):aH Tryz.prog 55 [.int .i64 k] [] (fun r H=>H=[aK 3 1 r (da k).length (iV (da k))]):=by
 refine aH.aC Tryz.func55 Tryz.ntmps55 fun G F R hE=>?_
 by_cases hk:1≤k∧k≤11
 ·have hk:k=1∨k=2∨k=3∨k=4∨k=5∨k=6∨k=7∨k=8∨k=9∨k=10∨k=11:=by omega
  rcases hk with rfl|rfl|rfl|rfl|rfl|rfl|rfl|rfl|rfl|rfl|rfl
  all_goals(
   refine go ?_
   refine az zr zr zr zr zr zr zr zr zr bO ?_
   intro b
   refine go ?_
   refine al (PD 3 b _ _) ?_
   ((refine aG hE Tryz.func55 rfl _ zr zr ad)))
 ·have hn:da k=[]:=by
   unfold da
   rw[if_neg aj,if_neg aj,if_neg aj,if_neg aj,if_neg aj,if_neg aj,if_neg aj]
  rw[hn]at hE
  refine al (bS 3 1 none _) ?_
  repeat'(first|(with_reducible intro k9)|refine g9 ?_|refine aB zr zr ?_ ?_)
  all_goals first|(exfalso;omega)|skip
  refine aG hE Tryz.func55 rfl _ zr zr ad
def GX(k:Int):aH Tryz.prog 204 [.int .i64 k] [] (fun r H=>r = .int .i64 (vU k)∧H=[]):=by
 refine aH.aC Tryz.func204 Tryz.ntmps204 fun G F R hE=>?_
 by_cases h1:k=1
 ·subst h1;refine go ?_;((refine ah hE Tryz.func204 zr zr ⟨rfl,rfl⟩))
 by_cases h2:k=4
 ·subst h2;refine go ?_;((refine ah hE Tryz.func204 zr zr ⟨rfl,rfl⟩))
 by_cases h3:k=10
 ·subst h3;refine go ?_;((refine ah hE Tryz.func204 zr zr ⟨rfl,rfl⟩))
 have hn:vU k=0:=by unfold vU;rw[if_neg h1,if_neg h2,if_neg h3]
 rw[hn]at hE
 repeat'(first|(with_reducible intro k9)|refine g9 ?_|refine aB zr zr ?_ ?_)
 all_goals first|(exfalso;omega)|skip
 refine ah hE Tryz.func204 zr zr ⟨rfl,rfl⟩
def wL(X:HP)(v:MV)(m:ef)(hm:gW X v m)(i:Int)(hi:1≤i∧i≤8):aH Tryz.prog 137 [.agg (mC v m).toArray,.int .i64 i] [X] (fun r H=>r = .bool (H7 m i)∧H=[X]):=by
 obtain⟨vi,vb,vp,vm⟩:=v
 obtain⟨ia,ic,rfl⟩:=hm.vi.shape
 obtain⟨ba,bc,rfl,_⟩:=hm.vb.2
 obtain⟨pa,pc,rfl⟩:=hm.vp.1.shape
 obtain⟨ma,mc,rfl⟩:=hm.vm.shape
 have hi:i=1∨i=2∨i=3∨i=4∨i=5∨i=6∨i=7∨i=8:=by omega
 refine aH.aC Tryz.func137 Tryz.ntmps137 fun G F R hE=>?_
 refine aP rfl ?_
 refine bJ zr zr bO ?_
 intro bx
 rcases hi with rfl|rfl|rfl|rfl|rfl|rfl|rfl|rfl
 ·refine go ?_;((refine ah hE Tryz.func137 zr zr ⟨rfl,rfl⟩))
 ·refine go ?_
  refine ct 0 zr zr zr zr zr zr (go ?_)
  refine jJ (U:=bh) zr zr zr zr zr ?_
  refine lJ (b:=decide (m.hash=Dg.zero)) zr zr zr guD (fun w=>eqD m.hash Dg.zero w) ?_
  refine go ?_
  refine ah hE Tryz.func137 zr zr ⟨rfl,rfl⟩
 all_goals(
  refine go ?_
  ((refine ah hE Tryz.func137 zr zr ⟨rfl,rfl⟩)))
end Go.Proofs.YtlionahpheehaaaGreatDoor
