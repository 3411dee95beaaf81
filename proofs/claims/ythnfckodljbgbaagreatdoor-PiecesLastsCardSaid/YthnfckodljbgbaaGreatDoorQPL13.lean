import Derived.Test.YthnfckodljbgbaaGreatDoorQPL8
import Derived.Test.YthnfckodljbgbaaGreatDoorQPL9
import Derived.Test.YthnfckodljbgbaaGreatDoorQPL10
import Derived.Test.YthnfckodljbgbaaGreatDoorQPL11
import Derived.Test.YthnfckodljbgbaaGreatDoorQPL12
set_option linter.unusedSimpArgs false
set_option linter.unusedVariables false
set_option maxHeartbeats 4000000
set_option maxRecDepth 20000
set_option linter.defProp false
namespace Go.Proofs.YthnfckodljbgbaaGreatDoor
open Go Go.SL
def Eb.afw{M:Rws}{ls:List (List UInt8)}(h:Eb M ls){A:HP}{cs:List Value}{ls2:List (List UInt8)}(hl:cs.length=ls2.length)(hx:∀(i:Nat) (x:List UInt8),ls2[i]?=some x→∃cv,cs[i]?=some cv∧eO A cv x):Eb ⟨M.cs++cs,Sep [A,M.Z]⟩ (ls++ls2):=by
 obtain⟨h1,h2⟩:=h
 refine⟨by simp[h1,hl],fun i y hy=>?_⟩
 rw[List.getElem?_append]at hy ⊢
 rw[h1]
 split at hy
 ·rename_i dJ
  rw[if_pos dJ]
  obtain⟨cv',h3,h4⟩:=h2 i y hy
  exact⟨cv',h3,h4.mono (aY (i:=1) rfl)⟩
 ·rename_i fO
  rw[if_neg fO]
  obtain⟨cv',h3,h4⟩:=hx _ y hy
  exact⟨cv',h3,h4.mono (aY (i:=0) rfl)⟩
attribute [local irreducible] J K aD Ends ae aF aL bU bo aU bh bq cg aE cR xG
theorem Of(X:HP)(hK:oZ X)(bs bd:Nat)(q:Int)(hq:0≤q∧q≤1073741824)(mb:Nat)(s:fg)(Rc:qa s.bz)(kQ:s.bz.length≤900000)(bP:s.A.aj.length≤700000000)(eW:s.A.writes.length≤700000000)(oH:(gQ s.A cZ).length≤900000)(ZW:∀x∈gQ s.A cZ,x.length≤1000000)(pY:((gQ s.A cZ).foldl cY []).length≤100) :
    aD Tryz.prog 21 [ptr bd,ptr bs] (du bs bd q mb s++[X])
    (fun r H=>∃(e:Nat) (t:fg) (jn:JN) (cs:List TC),Ef q s e t jn cs∧((e≠0∧r = .tuple #[.pointer none,.int .i64 (e:Int)]∧H=du bs bd q mb t++[X])∨(e=0∧∃tb jb tv ts,dE ts=cs∧r = .tuple #[ptr tb,.int .i64 0]∧H=fe tb bs jb tv ts false++[cR bs bd jb q mb [] (t,jn),X]))):=by
  obtain⟨A,bz,brk⟩:=s
  have hop:=RW bd cZ A (by decide) (by simp only at bP;omega) (by simp only at eW;omega)
  have hpn:cZ=⟨#[112,105,101,99,101,115]⟩:=rfl
  rw[hpn]at hop
  simp only at Rc kQ bP eW oH pY ZW
  refine aD.aw Tryz.func21 Tryz.ntmps21 fun G F R hE=>?_
  refine go ?_
  refine aI hop ?_
  rintro _ _⟨e1,A1,j1,hO,⟨DK,rfl,rfl⟩|⟨rfl,jb,lv,rfl,rfl⟩⟩
  · refine go ?_
    refine au zr zr ?_ ?_
    case' refine_2=>(intro h;exfalso;omega)
    intro _
    refine go ?_
    ((refine ad hE Tryz.func21 zr zr ⟨e1,⟨A1,bz,brk⟩,j1,[],⟨e1,A1,j1,hO,by rw[if_pos DK];exact⟨rfl,rfl⟩⟩,.inl ⟨DK,rfl,rfl⟩⟩))
  have hog:=AL hO
  obtain⟨ls,Q2⟩:∃ls,ls=gQ A cZ:=⟨_,rfl⟩
  rw[← hpn,← Q2]
  rw[← Q2]at oH ZW pY
  refine ln ?_
  refine gE rfl ?_
  refine ai (H':=xG lv ls::aE bd A1::rT jb bd cZ j1::ae bs (cl (eR bd q mb brk) 113)::aL dV mb (eb bz)::X::F) (by rw[hpn];exact ah) ?_
  refine eB (I2 lv ls) ?_
  rintro⟨cs,M⟩ hRR
  refine VV 0 hRR rfl ?_
  intro nw
  obtain⟨Z,hZ⟩:∃Z,Z=Sep [aF 40 1 lv ls.length cs,bh 5 M]:=⟨_,rfl⟩
  refine ai (ak.bX [aF 40 1 lv ls.length cs,bh 5 M] _) ?_
  rw[← hZ]at nw ⊢
  obtain⟨cs,dO,ki,⟨la,lc,rfl,hlc⟩,tB⟩:=nw
  refine go ?_
  refine bG zr zr bE ?_
  intro tb
  refine go ?_
  refine ai (ak.trans (bK 76 1 none _) (Ks _)) ?_
  refine bB (fun y:Nat × List Tk × Value=>y.1≤ls.length∧dE y.2.1=(ls.take y.1).foldl cY []∧y.2.1.length≤y.1) (fun y=>ls.length-y.1)
    (fun y=>[(0,ptr bd),(1,ptr bs),(6,ptr jb),(9,ptr tb),(37,.slice la ls.length lc),(38,.int .i64 (ls.length:Int)),(39,.int .i64 (y.1:Int))])
    (fun y=>Z::ae tb (cl [ptr bs,ptr jb,y.2.2,.bool false] 74)::aF 76 1 y.2.2 y.2.1.length (y.2.1.map cT)::bD y.2.1::aE bd A1::rT jb bd cZ j1::ae bs (cl (eR bd q mb brk) 113)::aL dV mb (eb bz)::X::F) (0,[],.slice none 0 0) ⟨Nat.zero_le _,rfl,Nat.le_refl _⟩ rfl ck ah ?_
  rintro⟨i,ts,tv⟩⟨hi,zY,ael⟩ ih
  simp only at hi zY ael
  dsimp only
  refine go ?_
  refine au zr zr ?_ ?_
  · intro dJ
    have gz:i<ls.length:=by omega
    obtain⟨x,hx⟩:∃x,ls[i]?=some x:=⟨ls[i],by simp⟩
    obtain⟨cv,sw,zZ⟩:=tB i x hx
    have kU:ls.take (i+1)=ls.take i++[x]:=by rw[List.take_add_one,hx];rfl
    have iJ:∀y∈ts,km y.c:=fun y hy=>((oh (ls.take i)).1 y.c (by rw[← zY];exact List.mem_map.2 ⟨y,hy,rfl⟩)).1
    have acm:=Ph Z tb bs jb tv false ts cv x zZ (by have:=ZW x (List.mem_of_getElem? hx);omega) ag (fun y hy=>Nat.le_trans (iJ y hy).1 ag) (fun y hy=>(iJ y hy).2.1)
    obtain⟨bb,oo,cc,he⟩:=dO.some (by intro h;rw[h]at sw;cases sw)
    obtain⟨rfl,rfl⟩:=he
    refine go ?_
    refine bR i zr zr zr zr zr zr zr zr gz ?_
    refine aK ?_
    refine aX 0 i zr zr zr dO rfl sw zr zr (go ?_)
    refine aI acm ?_
    rintro _ _⟨rfl,ts',mI,afb,rfl⟩
    refine go ?_
    have afa:dE ts'=(ls.take (i+1)).foldl cY []:=by rw[afb,zY,kU,List.foldl_append];rfl
    have mT:ts'.length≤i+1:=by
      grind [oh,Lr]
    refine aM ih (i+1,ts',mI) rfl ⟨by simp only;omega,afa,mT⟩ ag ck ah
  intro fO
  have tR:i=ls.length:=by omega
  subst tR
  rw[List.take_length]at zY
  have H0:∀y∈ts,JZ y.c:=fun y hy=>(oh ls).1 y.c (by rw[← zY];exact List.mem_map.2 ⟨y,hy,rfl⟩)
  have aem:ts.length≤100:=by rw[← Lr,zY];exact pY
  refine ai (ak.pick [2] rfl) ?_
  refine dN 0 rfl ?_
  rintro ta tc rfl
  refine dg 0 rfl ?_
  intro hvt
  refine go ?_
  have afi:∀H,ak (H) (aF 76 1 (.slice none 0 0) 0 []::bD []::aF 40 1 (.slice none 0 0) 0 []::Sep []::H):=fun H=>ak.trans (ak.bX [] H) (ak.trans (bK 40 1 none _) (ak.trans (Ks _) (bK 76 1 none _)))
  refine ai (H':=du bs bd q mb ⟨A1,bz,brk⟩++(rT jb bd cZ j1::bD ts::aF 76 1 (.slice ta ts.length tc) ts.length (ts.map cT)::ae tb (cl [ptr bs,ptr jb,.slice none 0 0,.bool false] 74)::X::F)) (by unfold du;exact ah) ?_
  refine ai (tJ bs bd jb q mb (⟨A1,bz,brk⟩,j1) _) ?_
  refine ai (afi _) ?_
  refine bB (fun z:Nat × fg × List Tk × Value × List (List UInt8) × Rws × Option Addr × Nat=>z.1≤ts.length∧(∀e t cs rs,sI q (dE (ts.drop z.1)) z.2.1 (dE z.2.2.1) z.2.2.2.2.1 e t cs rs→sI q (dE ts) ⟨A1,bz,brk⟩ [] [] e t cs rs)∧(qa z.2.1.bz∧z.2.1.bz.length≤bz.length+z.1)∧(z.2.1.A.aj.length≤A1.aj.length+2*z.1∧z.2.1.A.writes.length≤A1.writes.length+2*z.1)∧z.2.2.1.length≤z.1∧Eb z.2.2.2.2.2.1 z.2.2.2.2.1∧(∀x∈z.2.2.2.2.1,x.length≤760)∧z.2.2.2.2.1.length≤1025*z.1) (fun z=>ts.length-z.1)
    (fun z=>[(0,ptr bd),(1,ptr bs),(6,ptr jb),(9,ptr tb),(13,.slice z.2.2.2.2.2.2.1 z.2.2.2.2.2.1.cs.length z.2.2.2.2.2.2.2),(54,.slice ta ts.length tc),(55,.int .i64 (ts.length:Int)),(56,.int .i64 (z.1:Int))])
    (fun z=>aF 76 1 z.2.2.2.1 z.2.2.1.length (z.2.2.1.map cT)::bD z.2.2.1::aF 40 1 (.slice z.2.2.2.2.2.2.1 z.2.2.2.2.2.1.cs.length z.2.2.2.2.2.2.2) z.2.2.2.2.2.1.cs.length z.2.2.2.2.2.1.cs::z.2.2.2.2.2.1.Z::cR bs bd jb q mb [] (z.2.1,j1)::bD (ts.drop z.1)::aF 76 1 (.slice ta ts.length tc) ts.length (ts.map cT)::ae tb (cl [ptr bs,ptr jb,z.2.2.2.1,.bool false] 74)::X::F) (0,⟨A1,bz,brk⟩,[],.slice none 0 0,[],⟨[],Sep []⟩,none,0) ⟨Nat.zero_le _,fun _ _ _ _ h=>h,⟨Rc,by simp⟩,⟨by simp,by simp⟩,Nat.le_refl _,⟨rfl,fun i x h=>by cases h⟩,fun x h=>(by cases h),by simp⟩ rfl ck ah ?_
  rintro⟨i,s,us,uv,rs,M,oa,oc⟩⟨hi,hOL,⟨pI,afm⟩,⟨fL,aeq⟩,aei,hM,K1,aeu⟩ ih
  simp only at hi hOL pI afm fL aeq aei hM K1 aeu
  have hMl:=hM.1
  refine go ?_
  refine au zr zr ?_ ?_
  case' refine_2 =>
    intro fO
    have tR:i=ts.length:=by omega
    subst tR
    have lL:=hOL 0 s (dE us) rs (by rw[List.drop_length];exact⟨rfl,rfl,rfl,rfl⟩)
    refine ai (ak.pick [2,3,4,0,1,7,8] rfl) ?_
    refine kH 0 rfl ?_
    intro kj
    refine dg 0 rfl ?_
    intro QI
    have nw:sJ (Sep [aF 40 1 (.slice oa M.cs.length oc) M.cs.length M.cs,M.Z]) (.slice oa M.cs.length oc) rs:=by
      rw[hMl]at QI kj ⊢
      exact sJ.ofP QI kj hMl hM.2
    have hfb:=Aa rs (1025*100) K1 ag
    have VC:=HK jb bd cZ (by decide) s.A j1 _ _ rs nw ag ag ag ag
    refine ai (ak.bX [aF 40 1 (.slice oa M.cs.length oc) M.cs.length M.cs,M.Z] _) ?_
    refine ai (ak.pick [1] rfl) ?_
    refine ai (Ea bs bd jb q mb (s,j1) _) (go ?_)
    refine aI VC ?_
    rintro _ _⟨e3,A3,jn,rfl,rfl,hCR⟩
    have adn:Ef q ⟨A,bz,brk⟩ e3 ⟨A3,s.bz,s.brk⟩ jn (dE us):=⟨0,A1,j1,hO,by
      rw[if_neg ag]
      refine⟨0,s,rs,by rw[← Q2];rw[zY]at lL;exact lL,?_⟩
      rw[if_neg ag]
      exact⟨A3,hCR,rfl⟩⟩
    by_cases VA:e3=0
    · subst VA
      refine go ?_
      refine ai (ak.pick [3,4,0,1,7,5,6,8] rfl) ?_
      refine ai (tJ bs bd jb q mb (⟨A3,s.bz,s.brk⟩,jn) _) ?_
      refine ad hE Tryz.func21 zr zr ⟨0,⟨A3,s.bz,s.brk⟩,jn,dE us,adn,.inr ⟨rfl,tb,jb,uv,us,rfl,rfl,rfl⟩⟩
    · refine go ?_
      refine au zr zr ?_ ?_
      case' refine_2=>(intro h;exfalso;omega)
      intro _
      refine go ?_
      refine ad hE Tryz.func21 zr zr ⟨e3,⟨A3,s.bz,s.brk⟩,jn,dE us,adn,.inl ⟨VA,rfl,rfl⟩⟩
  intro dJ
  have gz:i<ts.length:=by omega
  obtain⟨y,hy⟩:∃y,ts[i]?=some y:=⟨ts[i],by simp⟩
  have Vb:=H0 y (List.mem_of_getElem? hy)
  have OQ:=dY (x:=y.x) Vb.2
  have mU:ts.drop i=y::ts.drop (i+1):=by
    obtain⟨h1,h2⟩:=List.getElem?_eq_some_iff.1 hy
    rw[List.drop_eq_getElem_cons h1,h2]
  have aab:dE (ts.drop i)=y.c::dE (ts.drop (i+1)):=by rw[mU];rfl
  rw[aab]at hOL
  have tz:=C3 [] (ts.drop (i+1)) y
  rw[← mU]at tz
  have afl:=HU bs bd q hq mb s y.x pI ag ag
  obtain⟨bb9,oo9,cc9,he9⟩:=hvt.some (Pe gz)
  obtain⟨rfl,rfl⟩:=he9
  refine ai (ak.pick [5,6,4] rfl) ?_
  refine ai (tz _) ?_
  refine eB (fQ y) ?_
  rintro⟨wv,NH,N⟩ hz
  have iG:∀H,ak (ae y.yb (cl (nA y) 80)::ae y.sb (cl [.int .i64 (y.n:Int),wv] 137)::aF 133 1 wv y.ws.length (qV y.ws)::aL (Value.int .i64) y.mb NH::bh 37 N::H) (rn y::H):=fun H=>ak.trans (H2:=rS y (wv,NH,N)++H) ah (iM hz _)
  refine ai (ak.pick [7,0,1,2,3,4,6] rfl) ?_
  refine ai (Ea bs bd jb q mb (s,j1) _) ?_
  refine ai (ak.pick [9,4,5,6,7,8] rfl) (go ?_)
  refine bR i zr zr zr zr zr zr zr zr gz ?_
  refine aK ?_
  refine aX 0 i zr zr zr hvt rfl (rl hy) zr zr (go ?_)
  refine dT (cs:=bH y.x) 1 zr zr zr zr zr zr (go ?_)
  refine aI afl ?_
  rintro _ _⟨e1,s1,rfl,rfl,hBR⟩
  refine ln ?_
  refine gE rfl ?_
  have T8:=pI.begin ag Vb.2 hBR
  have hgr:=lQ hBR
  refine ai (ak.trans (H2:=ae y.yb (cl (nA y) 80)::ae y.sb (cl [.int .i64 (y.n:Int),wv] 137)::aF 133 1 wv y.ws.length (qV y.ws)::aL (Value.int .i64) y.mb NH::bh 37 N::aF 76 1 (.slice (some ⟨bb9,oo9,none⟩) ts.length tc) ts.length (ts.map cT)::bD (ts.drop (i+1))::(du bs bd q mb s1++(rT jb bd cZ j1::aF 76 1 uv us.length (us.map cT)::bD us::aF 40 1 (.slice oa M.cs.length oc) M.cs.length M.cs::M.Z::ae tb (cl [ptr bs,ptr jb,uv,.bool false] 74)::X::F))) ah (iG _)) ?_
  by_cases K0:e1=5∨e1=11
  · have uJ:∀e t cs zg,sI q (dE (ts.drop (i+1))) s1 (dE us) rs e t cs zg→sI q (dE ts) ⟨A1,bz,brk⟩ [] [] e t cs zg:=fun e t cs zg h=>hOL e t cs zg ⟨e1,s1,hBR,by rw[if_pos K0];exact h⟩
    refine ai (ak.trans ah (tJ bs bd jb q mb (s1,j1) (bD (ts.drop (i+1))::aF 76 1 (.slice (some ⟨bb9,oo9,none⟩) ts.length tc) ts.length (ts.map cT)::aF 76 1 uv us.length (us.map cT)::bD us::aF 40 1 (.slice oa M.cs.length oc) M.cs.length M.cs::M.Z::ae tb (cl [ptr bs,ptr jb,uv,.bool false] 74)::X::F))) ?_
    rcases K0 with rfl|rfl
    all_goals(
      refine go ?_
      refine aM ih (i+1,s1,us,uv,rs,M,oa,oc) rfl ⟨by simp only;omega,uJ,⟨T8.1,by simp only;have:=T8.2;omega⟩,⟨by simp only;have:=hgr.1;omega,by simp only;have:=hgr.2;omega⟩,by simp only;omega,hM,K1,by simp only;omega⟩ (by simp only;omega) ck ah)
  by_cases pH:e1=0
  case neg =>
    have afF:=hOL e1 s1 [] [] ⟨e1,s1,hBR,by rw[if_neg K0,if_pos pH];exact⟨rfl,rfl⟩⟩
    have adm:Ef q ⟨A,bz,brk⟩ e1 s1 j1 []:=by
      refine⟨0,A1,j1,hO,?_⟩
      grind
    refine go ?_
    refine az 68 ((.bool false)) rfl ((congrArg Value.bool (decide_eq_false ag))) (go ?_)
    refine bj 71 ((.bool false)) rfl ((congrArg Value.bool (decide_eq_false ag))) (go ?_)
    refine au zr zr ?_ ?_
    case' refine_2=>(intro h;exfalso;omega)
    intro _
    refine go ?_
    refine ad hE Tryz.func21 zr zr ⟨e1,s1,j1,[],adm,.inl ⟨pH,rfl,rfl⟩⟩
  subst pH
  refine adJ 5 rfl ?_
  intro aev
  have hRd:∀nm at_ n,(s1.A.read nm at_ n).1.length≤1048576:=fun nm at_ n=>FA s1.A aev nm at_ n
  obtain⟨Gl,mT⟩:=M8 s1 y.c Vb
  have uJ:∀e t cs zg,sI q (dE (ts.drop (i+1))) s1 (dE us++[(kW s1 y.c).1]) (rs++(kW s1 y.c).2) e t cs zg→sI q (dE ts) ⟨A1,bz,brk⟩ [] [] e t cs zg:=fun e t cs zg h=>hOL e t cs zg ⟨0,s1,hBR,by rw[if_neg K0,if_neg ag];exact h⟩
  have ac2:=fun tv=>QU X hK tb bs jb bd tv false q mb (s1,j1) hRd y Vb.1 ag ag
  refine ai (ak.trans ah (tJ bs bd jb q mb (s1,j1) (aF 76 1 uv us.length (us.map cT)::ae tb (cl [ptr bs,ptr jb,uv,.bool false] 74)::rn y::X::aF 40 1 (.slice oa M.cs.length oc) M.cs.length M.cs::M.Z::aF 76 1 (.slice (some ⟨bb9,oo9,none⟩) ts.length tc) ts.length (ts.map cT)::bD (ts.drop (i+1))::bD us::F))) ?_
  refine dN 1 rfl ?_
  rintro ua uc rfl
  refine go ?_
  refine ao (cs:=[ptr y.yb]) zr zr zr zr zr zr zr zr zr bE ?_
  intro r1
  refine go ?_
  refine aT (mm:=1) (news:=[ptr y.yb]) 2 0 rfl rfl rfl rfl rfl rfl rfl rfl rfl rfl rfl rfl (Vw.ae rfl) rfl (by intro v hv;simp at hv;rw[hv];rfl) ag (by show(_+_)*8≤_;omega) (fun _=>rfl) bE ?_
  intro v1
  refine aP 2 rfl ?_
  rintro va vc rfl
  refine go ?_
  refine aI (ac2 (.slice va (us.length+1) vc)) ?_
  rintro r9 _⟨y',Z2,ad8,acd,acR,rfl⟩
  obtain⟨O1,wx,Z9,⟨ra,rc,rfl,QP⟩,Z4⟩:=acR
  simp only at acd wx Z9 Z4 QP
  have GC:=hM.afw Z9 Z4
  have fq:∀v∈O1,v.oneCell'=true:=fun v hv=>by
    obtain⟨j,hj,rfl⟩:=List.getElem_of_mem hv
    obtain⟨x,hx⟩:∃x,(kW s1 y.c).2[j]?=some x:=⟨(kW s1 y.c).2[j]' ag,by simp⟩
    obtain⟨cv,h1,h2⟩:=Z4 j x hx
    obtain⟨_,_,rfl,_⟩:=h2.2
    rw[List.getElem?_eq_getElem hj]at h1
    injection h1 with h1
    rw[h1];rfl
  refine aJ (H':=aF 40 1 (.slice oa M.cs.length oc) M.cs.length M.cs::Z2::ae tb (cl [ptr bs,ptr jb,.slice va (us.length+1) vc,.bool false] 74)::rn y'::cR bs bd jb q mb [] (s1,j1)::X::M.Z::aF 76 1 (.slice (some ⟨bb9,oo9,none⟩) ts.length tc) ts.length (ts.map cT)::bD (ts.drop (i+1))::bD us::aF 76 1 (.slice va (us.length+1) vc) (us.length+1) (us.map cT++[ptr y.yb])::F) ah (go ?_)
  refine aT (mm:=(kW s1 y.c).2.length) (news:=O1) 0 1 zr zr zr zr zr zr zr zr zr zr zr zr wx (by show _=_*1;omega) fq ag (by show(_+_)*24≤_;omega) (fun _=>rfl) bE ?_
  intro v2
  refine aP 0 rfl ?_
  rintro wa wc rfl
  refine go ?_
  have TQ:us.map cT++[ptr y.yb]=(us++[y']).map cT:=by rw[← ad8];simp[cT]
  have DF:us.length+1=(us++[y']).length:=by simp
  have adf:(M.cs++O1).length=M.cs.length+(kW s1 y.c).2.length:=by rw[List.length_append,Z9]
  have qe:=vQ us [] y'
  rw[List.append_nil]at qe
  rw[TQ,DF]
  refine ai (H':=rn y'::bD us::Z2::M.Z::aF 40 1 (.slice wa (M.cs++O1).length wc) (M.cs++O1).length (M.cs++O1)::cR bs bd jb q mb [] (s1,j1)::X::aF 76 1 (.slice (some ⟨bb9,oo9,none⟩) ts.length tc) ts.length (ts.map cT)::bD (ts.drop (i+1))::aF 76 1 (.slice va (us++[y']).length vc) (us++[y']).length ((us++[y']).map cT)::ae tb (cl [ptr bs,ptr jb,.slice va (us++[y']).length vc,.bool false] 74)::F) (by rw[adf];exact ah) ?_
  refine ai (qe _) ?_
  refine ai (ak.pick [1,2] rfl) ?_
  refine ai (ak.bX [Z2,M.Z] _) ?_
  have hcu:dE (us++[y'])=dE us++[(kW s1 y.c).1]:=by rw[Ls,acd]
  rw[← hcu]at uJ
  refine bj 13 ((.slice wa (M.cs++O1).length wc)) rfl ((by rw[adf])) ?_
  refine aM ih (i+1,s1,us++[y'],.slice va (us++[y']).length vc,rs++(kW s1 y.c).2,⟨M.cs++O1,Sep [Z2,M.Z]⟩,wa,wc) rfl ⟨by simp only;omega,uJ,⟨T8.1,by simp only;have:=T8.2;omega⟩,⟨by simp only;have:=hgr.1;omega,by simp only;have:=hgr.2;omega⟩,by simp only[List.length_append,List.length_singleton];omega,GC,(fun x hx=>by
    rcases List.mem_append.1 hx with h|h
    · exact K1 x h
    · exact Gl x h),by simp only[List.length_append];omega⟩ (by simp only;omega) ck ah
end Go.Proofs.YthnfckodljbgbaaGreatDoor
namespace Go.Proofs.YthnfckodljbgbaaGreatDoor
open Go Go.SL
def AD(q:Int)(A:Ab)(e:Nat)(t:SJ)(cs:List TC):Prop :=
 ∃e1 B,sH A e1 B∧if e1≠0 then e=e1 else ∃s jn,Ef q ⟨B,[],false⟩ e s jn cs∧t=(s,jn)
attribute [local irreducible] J K aD Ends ae aF aL bU bo aU bh bq cg aE cR xG
def vN(X:HP)(hK:oZ X)(wb bd:Nat)(v1 v2:Value)(q:Int)(hq:1≤q∧q≤1073741824)(A:Ab)(iw:A.off=false)(bP:A.aj.length≤600000000)(hB:∀B,sH A 0 B→B.writes.length≤700000000∧(gQ B cZ).length≤900000∧(∀x∈gQ B cZ,x.length≤1000000)∧((gQ B cZ).foldl cY []).length≤100) :
  aD Tryz.prog 7 [ptr wb,.int .i64 q] [ae wb (cl [ptr bd,v1,v2] 33),aE bd A,X]
  (fun r H=>∃(e:Nat) (t:SJ) (cs:List TC),AD q A e t cs∧r = .int .i64 (e:Int)∧(e=0→∃bs mb tb jb tv ts,dE ts=cs∧H=ae wb (cl [ptr bd,ptr bs,ptr tb] 33)::fe tb bs jb tv ts false++[cR bs bd jb q mb [] t,X])∧(e≠0→∃L,H=L)):=by
 refine aD.aw Tryz.func7 Tryz.ntmps7 fun G F R hE=>?_
 refine go ?_
 refine aI (Oe X hK bd q A ag) ?_
 rintro _ _ (⟨h,_⟩|⟨_,h,_⟩|⟨_,_,e,B,ho,hc⟩)
 ·exfalso;omega
 ·rw[iw]at h;cases h
 rcases hc with⟨df,rfl,rfl⟩|⟨rfl,hBl,bs,mb,rfl,rfl⟩
 ·refine go ?_
  refine au zr zr ?_ ?_
  case' refine_2=>(intro h;exfalso;omega)
  intro _
  refine go ?_
  refine ad hE Tryz.func7 zr zr ⟨e,(⟨B,[],false⟩,⟨0,0,0,false⟩),[],⟨e,B,ho,by rw[if_pos df]⟩,rfl,fun h=>absurd h df,fun _=>⟨ae wb (cl [ptr bd,.pointer none,.pointer none] 33)::[aE bd B,X],rfl⟩⟩
 obtain⟨b1,b2,b3,b4⟩:=hB B ho
 have hop:=Of X hK bs bd q ⟨ag,hq.2⟩ mb ⟨B,[],false⟩ ⟨by simp,by simp⟩ (by simp) (by simp only;omega) (by simp only;omega) b2 b3 b4
 refine aJ (H':=ae wb (cl [ptr bd,v1,v2] 33)::(du bs bd q mb ⟨B,[],false⟩++(X::F))) ah (go ?_)
 refine aI hop ?_
 rintro _ _⟨e,t,jn,cs,hO,⟨df,rfl,rfl⟩|⟨rfl,tb,jb,tv,ts,zY,rfl,rfl⟩⟩
 ·refine aJ (H':=ae wb (cl [ptr bd,ptr bs,.pointer none] 33)::(du bs bd q mb t++(X::F))) ah (go ?_)
  ((refine ad hE Tryz.func7 zr zr ⟨e,(t,jn),cs,⟨0,B,ho,by rw[if_neg ag];exact⟨t,jn,hO,rfl⟩⟩,rfl,fun h=>absurd h df,fun _=>⟨ae wb (cl [ptr bd,ptr bs,.pointer none] 33)::(du bs bd q mb t++[X]),rfl⟩⟩))
 ·refine aJ (H':=ae wb (cl [ptr bd,ptr bs,.pointer none] 33)::(fe tb bs jb tv ts false++([cR bs bd jb q mb [] (t,jn),X]++F))) ah (go ?_)
  ((refine ad hE Tryz.func7 zr zr ⟨0,(t,jn),cs,⟨0,B,ho,by rw[if_neg ag];exact⟨t,jn,hO,rfl⟩⟩,rfl,fun _=>⟨bs,mb,tb,jb,tv,ts,zY,rfl⟩,fun h=>absurd rfl h⟩))
end Go.Proofs.YthnfckodljbgbaaGreatDoor
namespace Go.Proofs.YthnfckodljbgbaaGreatDoor
open Go Go.SL
variable{A:Ab}{x:Bl}{br:Bool}{ts:List Tk}{e:Nat}{s t:SJ}
theorem yj(h:A.names=[]):vw A=fun _=>none:=by
 funext n
 unfold vw Ab.look Ab.bC
 rw[h];rfl
theorem JF{nm:ByteArray}(h:HA A)(hv:vw A nm=none):gQ A nm=[]:=by
 have l9:A.look nm=none:=by
  unfold vw at hv
  cases hx:A.look nm with
  | none=>rfl
  | some f=>rw[hx]at hv;cases hv
 have yq:(A.read nm 0 (A.size nm).1).1=[]:=by
  unfold Ab.read
  grind
 unfold gQ
 rw[yq]
 rfl
theorem mo:(cm []).length=32:=by unfold cm;simp[dk]
theorem wW{q:Int}{cs:List TC}(h:HA A)(hn:A.names=[])(hr:64≤A.room)(hR:AD q A e t cs) :
  e=0∧cs=[]∧HA t.1.A∧t.1.bz=[]∧t.1.brk=false∧vw t.1.A=jf (fun _=>none) cZ (some (cm []))∧t.1.A.room=A.room∧t.2=⟨1,0,0,false⟩∧t.1.A.names.length=1∧t.1.A.used=32∧t.1.A.aj.length≤A.aj.length+14∧t.1.A.writes.length≤A.writes.length+14:=by
 obtain⟨e1,B,hO,hR⟩:=hR
 obtain⟨rfl,rfl⟩:=vq hn hO
 rw[if_neg ag]at hR
 obtain⟨s,jn,⟨e2,A1,j1,SD,hR⟩,rfl⟩:=hR
 simp only at SD hR
 have kT:=yj hn
 have hu0:B.used=0:=by unfold Ab.used;rw[hn];rfl
 have Sz:=AL SD
 obtain⟨rfl,k1,k2,k3,k4,k5⟩:=tn h eM iS l8 (by rw[kT]) (by rw[kT]) (by rw[hn];simp) ag SD
 rw[kT]at k2
 rw[if_neg ag,k5]at hR
 obtain⟨e3,s2,rs,⟨rfl,rfl,rfl,rfl⟩,hR⟩:=hR
 rw[if_neg ag]at hR
 obtain⟨A3,hC,rfl⟩:=hR
 simp only at hC
 subst k4
 unfold np at hC
 rw[if_neg (by simp),if_neg (by simp),if_neg (by simp)]at hC
 obtain⟨y,hP,rfl,rfl⟩:=hC
 obtain⟨Zl,Jf⟩:=h.qi k1 (k:=cZ) (c:=cm []) (by rw[kT]) (by rw[k2,kT])
 have Q':=CP hP
 simp only at Q'
 obtain⟨rfl,m1,m2,m3,m4⟩:=B4 k1 eM iS l8 (by rw[k2,gn _ _ l8]) (by rw[Jf,hn];simp) (by rw[mo];omega) (by rw[mo,Zl,k3,hu0,mo];omega) hP
 have vI:vw y.1=jf (fun _=>none) cZ (some (cm [])):=by
  rw[m2,k2]
  funext m
  grind [jf]
 obtain⟨hu2,hn2⟩:=h.qi m1 (k:=cZ) (c:=cm []) (by rw[kT]) (by rw[vI,kT])
 grind [mo]
structure HJ(m:Nat)(x:SJ):Prop where
 ha:HA x.1.A
 brk:x.1.brk=false
 room:x.1.A.room=1048576
 nl:x.1.A.names.length≤4
 small:∀n c,vw x.1.A n=some c→c.length≤100000
 fl:∃C,vw x.1.A cZ=some C
 jn:∃(n c:Int) (s:Nat),x.2=⟨n,s,c,false⟩∧0≤n∧n≤m+1∧s≤1000*m
theorem HJ.used{m:Nat}{x:SJ}(h:HJ m x):x.1.A.used≤400000:=by
 have h1:=yk h.ha 100000 h.small
 have h2:=h.nl
 grind
theorem KL{m:Nat}{x y:SJ}{b:List UInt8}(h:HJ m x)(hm:m<50)(hb:b.length≤900)(hR:gi (iQ b) x e y) :
  e=0∧HJ (m+1) y∧y.1.bz=x.1.bz∧(∀nm,nm≠cZ→vw y.1.A nm=vw x.1.A nm):=by
 have Gb:=h.used
 obtain⟨C,hC⟩:=h.fl
 have hCl:=h.small _ _ hC
 obtain⟨⟨A,bz,brk⟩,jn⟩:=x
 obtain⟨n,c,s,TU,Vl,Jf,hs⟩:=h.jn
 simp only at hC TU
 subst TU
 have hA:HA A:=h.ha
 have TF:A.room=1048576:=h.room
 have oG:A.names.length≤4:=h.nl
 have xM:∀n c,vw A n=some c→c.length≤100000:=h.small
 simp only at Gb
 have tB:=oP b ag
 obtain⟨e1,x1,⟨ye,wG⟩,c1⟩:=hR
 obtain⟨a0,a1,a2,a3,a4⟩:=D4 (A:=A) (n:=n) (c:=c) (s:=s) (b:=b) hA eM hC ag ag ag
 simp only at ye wG
 rw[a0]at ye
 subst ye
 rcases c1 with⟨df,_⟩|⟨_,e2,x2,⟨A',x',ya,Br⟩,c2⟩
 ·grind
 rw[wG]at ya Br
 simp only at ya Br
 rw[a4]at ya
 have H6:(cW cZ A ⟨n,s,c,false⟩ b).2.1.names.length=A.names.length:=hA.uE a1 (fun m=>by
  rw[a2];unfold jf
  split
  ·rename_i hm;rw[hm,hC];rfl
  ·rfl)
 have zN:∀nm c',vw (cW cZ A ⟨n,s,c,false⟩ b).2.1 nm=some c'→c'.length≤100000:=fun nm c' Bc=>by
  rw[a2]at Bc
  grind [jf,gA]
 have Zl:=yk a1 100000 zN
 rw[H6]at Zl
 have hu2:A.names.length*100000≤4*100000:=Nat.mul_le_mul_right _ oG
 obtain⟨g0,g1,⟨C',g2,g3⟩,g4,n',c',g5,g6,g7⟩:=DX a1 eM (by rw[a2,fG]) Vl ag (by rw[a3];omega) ya
 subst g0
 rcases c2 with⟨df,_⟩|⟨_,he,hy⟩
 ·grind
 rw[gA]at g3
 have wz:∀nm c',vw A' nm=some c'→c'.length≤100000:=fun nm c' Bc=>by
  rw[g2]at Bc
  grind [jf]
 have afV:A'.names.length=A.names.length:=by
  rw[← H6]
  exact a1.uE g1 (fun m=>by
   rw[g2];unfold jf
   split
   ·rename_i hm;rw[hm,a2,fG];rfl
   ·rfl)
 rw[he,hy,Br]
 refine⟨rfl,⟨g1,h.brk,by show A'.room=_;rw[g4,a3];exact TF,by show A'.names.length≤4;omega,wz,⟨C',by show vw A' cZ=_;rw[g2,fG]⟩,⟨n',c',s+(aS b).length,g5,ag,ag,ag⟩⟩,rfl,fun nm oG=>?_⟩
 show vw A' nm=vw A nm
 rw[g2,gn _ _ oG,a2,gn _ _ oG]
def B8(h:cC x=1):cN x=⟨x,1,[0#64],fun _=>none⟩:=by unfold cN;rw[h];rfl
theorem Mv(hx:gg [7] 16=some x):dw x 0 [7] []=true:=by
 obtain⟨hr,iY,ys,hwh⟩:=nO hx
 have iC:=E3 hr iY ys
 have hc:cC x=1:=by unfold cC;rw[if_pos hr,iY,ys];rfl
 have Ge:x.root=cS [7]:=by
  unfold gg de at hx
  rw[if_pos (by decide)]at hx
  simp only[Option.map_some,Option.some.injEq]at hx
  rw[← hx]
  rfl
 unfold dw
 rw[iC,hc]
 simp only[List.length_cons,List.length_nil,Nat.zero_add]
 rw[show decide ((((0+1:Nat)):Int)=1)=true from rfl,Bool.true_and]
 unfold gS
 refine decide_eq_true ⟨ag,rfl,?_⟩
 rw[Ge]
 rfl
theorem aat(hx:gg [7] 16=some x)(h:HJ 0 s)(hb:s.1.bz=[])(hn:s.1.A.names.length≤1)(hv:∀n,n≠cZ→vw s.1.A n=none)(hR:OL 1000 x [] s false e ts br t) :
    ∃y:Tk,y.c=cN x∧ts=[y]∧br=false∧HJ 1 t∧gT t.1.bz x.d=some x∧vw t.1.A (js x.d)=some []:=by
  obtain⟨hr,iY,ys,hwh⟩:=nO hx
  rcases hR with⟨h1,_⟩|⟨_,h1,_⟩|⟨_,_,Nn,⟨e1,x1,⟨hS,VJ⟩,kC⟩,Ba⟩
  · cases h1
  · cases h1
  have Gb:mG s.1=0:=by
    have hf:tW s.1.A=0:=by
      rw[BG h.ha]
      unfold vO
      have hz:∀k∈eP s.1.A,xX k ((vw s.1.A k).getD [])=0:=fun k hk=>by
        by_cases hp:k=cZ
        · rw[hp,Qx]
        grind [xX]
      have:∀l:List ByteArray,(∀k∈l,xX k ((vw s.1.A k).getD [])=0)→(l.map fun k=>xX k ((vw s.1.A k).getD [])).sum=0:=by
        intro l
        induction l with
        | nil=>intro _;rfl
        | cons a l ih =>
          grind
      exact this _ hz
    grind [mG]
  have Vx:fS x≠cZ:=g' kS x.d
  have hfB:fB x≠cZ:=g' kB x.d
  obtain⟨rfl,a1,b1,c1,v1,n1,r1⟩:=HT h.ha h.brk hr (by rw[hb];rfl) (hv _ hfB) (by rw[Gb,iY];decide) (hv _ Vx) ag hS
  rcases kC with⟨df,_⟩|⟨_,kC⟩
  · grind
  obtain⟨n,c,k,hj,EB,H8,Cm⟩:=h.jn
  obtain⟨C,hC⟩:=h.fl
  have h1:HJ 0 x1:=⟨a1,b1,by rw[r1];exact h.room,ag,fun n c hc=>by
    rw[v1]at hc
    split at hc
    · grind
    · exact h.small _ _ hc,⟨C,by rw[v1,if_neg (fun e=>Vx e.symm)];exact hC⟩,n,c,k,by rw[VJ];exact hj,EB,H8,Cm⟩
  have kQ:(cD x).length≤900:=by
    have:=iu 1 x.d (iD x) (by simp[iD]) (lp x (by rw[iY];decide) ag)
    unfold cD;omega
  obtain⟨rfl,h2,h3,h4⟩:=KL h1 ag kQ kC
  rcases Ba with⟨df,_⟩|⟨_,y,hy,rfl⟩
  · grind
  refine⟨y,hy,rfl,Nn,h2,?_,?_⟩
  · grind [gT]
  grind [adq]
theorem aas(hx:gg [7] 16=some x){y:Tk}(h:HJ 1 s)(hy:y.c=cN x)(hb:gT s.1.bz x.d=some x)(hv:vw s.1.A (js x.d)=some [])(hR:N7 x 0 [7] [] [y] s false e ts br t) :
    e=0∧Qj (fH ts x) = .tuple #[.int .i64 0,.int .i64 0]∧∃z:Tk,ts=[z]∧z.n=1∧z.ws.length=1:=by
  obtain⟨hr,iY,ys,hwh⟩:=nO hx
  have iC:=E3 hr iY ys
  have hc:cC x=1:=by unfold cC;rw[if_pos hr,iY,ys];rfl
  obtain⟨yb,sb,mb,yx,yn,yws,ypf⟩:=y
  rw[B8 hc]at hy
  unfold Tk.c at hy
  simp only[TC.mk.injEq]at hy
  obtain⟨rfl,rfl,rfl,rfl⟩:=hy
  have Cp:fH [(⟨yb,sb,mb,yx,1,[0#64],fun _=>none⟩:Tk)] yx=some ⟨yb,sb,mb,yx,1,[0#64],fun _=>none⟩:=by
    unfold fH;simp
  have lh:cG [0#64] 1 0=false:=by decide
  rcases hR with⟨h1,_⟩|⟨_,h1,_⟩|⟨_,k,z,hz,hk,hzx,hc⟩
  · cases h1
  · grind
  rw[Cp]at hz
  injection hz with hz
  subst hz
  simp only at hc
  rcases hc with⟨h1,_⟩|⟨_,h1,_⟩|⟨_,_,h1,_⟩|⟨_,_,_,Nn,⟨e1,x1,⟨hS,VJ⟩,kC⟩,Ba⟩
  · grind
  · grind
  · grind [Mv]
  have Gb:=h.used
  have TF:=h.room
  have Vx:fS yx≠cZ:=g' kS yx.d
  obtain⟨rfl,a1,b1,c1,v1,n1,r1⟩:=aav h.ha h.brk hb iC rfl hv (by simp) (by simp;omega) hS
  rcases kC with⟨df,_⟩|⟨_,e2,x2,⟨hY,hY2⟩,kC⟩
  · grind
  have nr:vw x1.1.A (fS yx)=some [7]:=by rw[v1,if_pos rfl];rfl
  unfold kY at hY
  have ho:gT x1.1.bz yx.d=some yx:=by rw[c1];exact hb
  rw[MK b1,if_pos ho,if_neg ag]at hY
  obtain⟨B,⟨e3,A1,h1,c2⟩,yp⟩:=hY
  unfold fR at h1
  rw[show isName (fS yx)=true from jg yx]at h1
  obtain⟨rfl,g1,g2,g3⟩:=a1.EX nr h1
  rcases c2 with⟨df,_⟩|⟨_,rfl,rfl⟩
  · grind
  rcases kC with⟨df,_⟩|⟨_,kC⟩
  · grind
  obtain⟨n,c,k',hj,EB,H8,Cm⟩:=h.jn
  obtain⟨C,hC⟩:=h.fl
  have H6:B.names.length=s.1.A.names.length:=by
    rw[← n1]
    exact a1.uE g1 (fun m=>by rw[g2])
  have h2:HJ 1 x2:=by
    have e1:x2.1.A=B:=by rw[yp]
    have e2:x2.1.brk=false:=by rw[yp];simp[b1]
    exact⟨by rw[e1];exact g1,e2,by rw[e1,g3,r1];exact TF,by rw[e1,H6];exact h.nl,fun n c hc=>by
      rw[e1,g2,v1]at hc
      split at hc
      · grind
      · exact h.small _ _ hc,⟨C,by rw[e1,g2,v1,if_neg (fun e=>Vx e.symm)];exact hC⟩,n,c,k',by rw[hY2,VJ];exact hj,EB,H8,Cm⟩
  have kQ:(bS yx.d (0:Int).toNat []).length≤900:=by
    have:=iu 2 yx.d (fp 0 []) (by simp[fp]) (ld 0 ag [])
    grind [bS,fp]
  obtain⟨rfl,-,-,-⟩:=KL h2 ag kQ kC
  rcases Ba with⟨df,_⟩|⟨_,rfl⟩
  · grind
  refine⟨rfl,?_⟩
  refine⟨?_,?_⟩
  rotate_left
  · grind [Tk.put,ku]
  have hk0:k=0:=by
    grind
  subst hk0
  unfold fH
  simp only[List.set_cons_zero,Tk.put,List.find?_cons,decide_true]
  have h9:u9 (ku [0#64] (0:Int).toNat true)=1:=by decide +kernel
  grind [Qj]
def OK{q:Int}{ts':List Tk}{iZ:Bool}(h:OL q x ts s br e ts' iZ t):SJg 7 s t:=by
 rcases h with⟨_,_,_,_,rfl⟩|⟨_,_,_,_,_,rfl⟩|⟨_,_,_,⟨e1,x1,⟨h1,wG⟩,c1⟩,_⟩
 ·exact⟨ag,ag⟩
 ·exact⟨ag,ag⟩
 have g1:=lQ h1
 obtain⟨a,b⟩:=g1
 rcases c1 with⟨_,_,rfl⟩|⟨_,kC⟩
 ·exact⟨ag,ag⟩
 ·have g2:=Ca kC
  obtain⟨c,d⟩:=g2
  exact⟨ag,ag⟩
def DU(h:dE ts=[]):ts=[]:=by
 unfold dE at h
 exact List.map_eq_nil_iff.1 h
theorem GJ(h:HA A)(hn:A.names=[])(hw:A.writes.length≤700000000):∀B,sH A 0 B→B.writes.length≤700000000∧(gQ B cZ).length≤900000∧(∀x∈gQ B cZ,x.length≤1000000)∧((gQ B cZ).foldl cY []).length≤100:=by
 grind [vq,gQ,cZ,JF,yj]
attribute [local irreducible] J K aD Ends ae aF aL bU bo aU bh bq cg Sha.chunks Sha.chunk Sha.rounds Sha.sched dW cy GI cS aE cR bD
theorem NN(X:HP)(hK:oZ X):aD Tryz.prog 4 [] [X] (fun r H=>r = .bool true∧H=[X]):=by
 obtain⟨x,hx⟩:=Ry
 obtain⟨hr,iY,ys,hwh⟩:=nO hx
 have afO:x.size=1:=iY
 have Jq:cC x=1:=by unfold cC;rw[if_pos hr,iY,ys];rfl
 refine aD.aw Tryz.func4 Tryz.ntmps4 fun G F R hE=>?_
 refine go ?_
 refine aI (J7 1048576 ag ag) ?_
 rintro _ _⟨bd,rfl,rfl⟩
 refine go ?_
 refine bG zr zr bE ?_
 intro wb
 refine go ?_
 ((refine aI (vN X hK wb bd (.pointer none) (.pointer none) 1000 ag (Ab.new 1048576) rfl (by show 1≤_;omega) (GJ (HA.new _) rfl (by show 0≤_;omega))) ?_))
 rintro _ _⟨e0,t0,NH,hW,rfl,hz,-⟩
 obtain⟨rfl,rfl,w1,w2,w3,w4,w5,w6,w7,w8,w9,w10⟩:=wW (HA.new _) rfl (by show 64≤1048576;omega) hW
 obtain⟨bs,mb,tb,jb,tv,ts,zY,rfl⟩:=hz rfl
 have Ba:=DU zY
 subst Ba
 have w9':t0.1.A.aj.length≤1+14:=w9
 have afM:t0.1.A.writes.length≤0+14:=w10
 have aer:∀n c,vw t0.1.A n=some c→c.length≤100000:=fun n c hc=>by
  rw[w4]at hc
  grind [jf,mo]
 have hJ0:HJ 0 t0:=⟨w1,w3,w5,ag,aer,⟨_,by rw[w4,fG]⟩,1,0,0,w6,ag,ag,ag⟩
 unfold fe
 refine go ?_
 refine ao (cs:=bV [7]) zr zr zr zr zr zr zr zr zr bE ?_
 intro row
 have kQ:=HS _ _ [7] (KJ row 7) (by decide) 16
 rw[hx]at kQ
 ((refine go ?_;(refine aI kQ ?_)))
 rintro _ _⟨rfl,rfl⟩
 unfold dG
 refine go ?_
 refine aC zr zr zr bE ?_
 intro b6
 have pI:=A0 tb bs jb bd tv 1000 ag mb [] false t0 x (by simp) ag ag (by rw[w2];exact⟨by simp,by simp⟩) ag ag 100 ag (fun t hS=>by
  have hg:=lQ hS.1
  obtain⟨n,c,s,hj,EB,H8,Cm⟩:=hJ0.jn
  refine⟨?_,?_,?_,?_⟩
  ·rw[hS.2,hj];exact EB
  ·rw[hS.2,hj];exact⟨by simp only;omega,by simp only;omega⟩
  ·have:=hg.1;omega
  ·have:=hg.2;omega)
 unfold fe dG at pI
 refine go ?_
 refine aG (fun w=>Sat G w ([ae wb (cl [ptr bd,ptr bs,ptr tb] 33),ae b6 (cl (bH x) 39)])) (dj 0 5 (.act 5 .nil)) rfl aq aq aq eo ?_
 refine go ?_
 refine bT (U:=aR) (l:=bH x) 1 zr zr zr zr zr zr (go ?_)
 refine aI pI ?_
 rintro _ _⟨e1,EK,Eu,VQ,t1,rfl,rfl,hB⟩
 obtain⟨y,hy,rfl,rfl,hJ1,pZ,nr⟩:=aat hx hJ0 w2 ag (fun n hn=>by rw[w4,gn _ _ hn]) hB
 have hgB:=OK hB
 have af6:=hgB.1
 have af5:=hgB.2
 refine go ?_
 obtain⟨Y,hY⟩:∃Y,Y=Sep [X,ae row (cl (bV [7]) 5)]:=⟨_,rfl⟩
 have hKY:oZ Y:=hY ▸ hK.mono (aY (i:=0) rfl)
 have hbY:eO Y (.slice (some ⟨row,0,none⟩) 1 1) [7]:=hY ▸ (KJ row 7).mono (aY (i:=1) rfl)
 have I7:=hy
 rw[B8 Jq]at I7
 have MY:y.n=1:=congrArg TC.n I7
 have Dz:y.ws=[0#64]:=congrArg TC.ws I7
 have wD:=Hk Y hKY tb bs jb bd Eu 1000 mb [y] false t1 x 0 ag _ [7] hbY (by simp) (.slice none 0 0) [] ⟨Vw.nil Y none 0,none,0,rfl,Nat.le_refl _⟩ (by simp) (fun z hz=>by rw[List.mem_singleton.1 hz,MY];omega) (fun z hz=>by rw[List.mem_singleton.1 hz,MY,Dz];simp) ag ag 100 ag (fun t u h1 h2=>by
  have g1:=oU h1.1
  have g2:=tI h2.1
  have g11:=g1.1
  have g12:=g1.2
  have g21:=g2.1
  have g22:=g2.2
  obtain⟨n,c,s,hj,EB,H8,Cm⟩:=hJ1.jn
  refine⟨?_,?_,ag,ag⟩
  ·rw[h2.2,h1.2,hj];exact EB
  ·rw[h2.2,h1.2,hj];exact⟨by simp only;omega,by simp only;omega⟩)
 unfold fe dG at wD
 refine ai (ak.trans (H2:=X::ae row (cl (bV [7]) 5)::ae wb (cl [ptr bd,ptr bs,ptr tb] 33)::ae b6 (cl (bH x) 39)::ae tb (cl [ptr bs,ptr jb,Eu,.bool false] 74)::aF 76 1 Eu [y].length ([y].map cT)::bD [y]::cR bs bd jb 1000 mb [] t1::F) ah (ak.bX [X,ae row (cl (bV [7]) 5)] _)) ?_
 rw[← hY]
 refine aG (fun w=>Sat G w ([ae wb (cl [ptr bd,ptr bs,ptr tb] 33),ae b6 (cl (bH x) 39)])) (dj 0 6 (.act 6 (.st 7 .nil))) rfl aq aq aq eo ?_
 refine go ?_
 refine bT (U:=aR) (l:=bH x) 1 zr zr zr zr zr zr (go ?_)
 refine dy wD ?_
 rintro _ _⟨e2,ts2,br2,t2,rfl,rfl,hP⟩
 obtain⟨rfl,Vn,z,rfl,hzn,hzw⟩:=aas hx hJ1 hy pZ nr hP
 have hmi:=Hm tb bs jb Eu br2 [z] x (by simp) (fun w hw=>by rw[List.mem_singleton.1 hw,hzn];omega) (fun w hw=>by rw[List.mem_singleton.1 hw,hzw];omega)
 rw[Vn]at hmi
 unfold fe dG at hmi
 refine go ?_
 refine aG (fun w=>Sat G w ([ae wb (cl [ptr bd,ptr bs,ptr tb] 33),ae b6 (cl (bH x) 39)])) (dj 0 5 (.act 5 (dj 6 5 .nil))) rfl aq aq aq eo ?_
 refine go ?_
 refine bT (U:=aR) (l:=bH x) 1 zr zr zr zr zr zr (go ?_)
 refine bp hmi ?_
 refine go ?_
 refine ai (H':=Y::F) ah ?_
 rw[hY]
 refine ai (ak.cK [X,ae row (cl (bV [7]) 5)] _) ?_
 refine ad hE Tryz.func4 zr zr ⟨rfl,rfl⟩
end Go.Proofs.YthnfckodljbgbaaGreatDoor
namespace Go.Proofs.YthnfckodljbgbaaGreatDoor
open Go Go.SL
variable{A B:Ab}{iZ:Bool}{nm:ByteArray}{d:Dg}{a:Int}{L:List (List UInt8)}{j k:List Dg}{T cs lA:List TC}{C b:List UInt8}{P:List UInt8→Prop}{e i n:Nat}{t x y:SJ}
def EP:∀(l:List (Int × List UInt8)) (f:Nat),(∀x∈l,1≤x.1∧x.1≤63∧x.2.length≤100000)→(eT l).length≤f→qk f (eT l)=l
 | [],f,_,_=>by cases f <;> rfl
 | (n,b)::l,f,h,hf=>by
  obtain⟨h1,h2,h3⟩:=h (n,b) (List.mem_cons_self ..)
  simp only at h1 h2 h3
  have e:eT ((n,b)::l)=UInt8.ofNat n.toNat::(uv b.length++(b++eT l)):=by simp[eT,mQ]
  have hc:=Lo (n:=b.length) ag (b++eT l)
  rw[e]at hf ⊢
  cases f with
  | zero=>simp at hf
  | succ f =>
   rw[List.length_cons,List.length_append,List.length_append]at hf
   unfold qk
   simp only
   rw[hc]
   simp only
   rw[if_pos ⟨trivial,by rw[List.length_append];omega⟩,List.take_left,List.drop_left]
   rw[EP l f (fun x hx=>h x (List.mem_cons_of_mem _ hx)) ag]
   have:((UInt8.ofNat n.toNat).toNat:Int)=n:=by simp only[UInt8.toNat_ofNat'];omega
   rw[this]
theorem Fx:∀(i:Int) (l:List (List UInt8)) (z:Int × List UInt8),z∈nu i l→i≤z.1∧z.1<i+l.length
 | i,[],z,h=>by cases h
 | i,y::l,z,h=>by
  rw[List.length_cons]
  rcases List.mem_cons.1 h with rfl|h
  ·grind
  ·have:=Fx (i+1) l z h
   omega
theorem BZ:∀(i:Int) (l:List (List UInt8)) (a:Int × List UInt8),a.1+1=i→((a::nu i l).getLast?.map (·.1))=some (i-1+l.length)
 | i,[],a,h=>by simp[nu];omega
 | i,y::l,a,h=>by
  rw[nu,List.getLast?_cons_cons,BZ (i+1) l (i,y) rfl,List.length_cons]
  grind
def Fw:∀(i:Int) (l:List (List UInt8)),(nu i l).map (·.2)=l
 | i,[]=>rfl
 | i,y::l=>by rw[nu,List.map_cons,Fw (i+1) l]
def Lk(d:Dg):u0 d.bs=d:=by unfold u0;rw[dif_pos d.len]
theorem sZ(k:UInt8)(d:Dg)(ls:List (List UInt8))(hl:ls.length≤20)(hx:∀x∈ls,x.length≤32):jy (lE k d ls)=some (k,d,ls):=by
 have hlen:=iu k d ls hl hx
 have iJ:∀x∈we k d ls,1≤x.1∧x.1≤63∧x.2.length≤100000:=fun x Sr=>by
  unfold we at Sr
  rcases List.mem_cons.1 Sr with rfl|Sr
  ·grind
  rcases List.mem_cons.1 Sr with rfl|Sr
  ·exact⟨by simp only;omega,by simp only;omega,by have:=d.len;simp only;omega⟩
  ·have h1:=Fx 3 ls x Sr
   grind [zo]
 have ht:qb (lE k d ls)=some (we k d ls):=by
  unfold qb
  have h1:qk (lE k d ls).length (lE k d ls)=we k d ls:=EP _ _ iJ (Nat.le_refl _)
  grind [we,fT,v8]
 unfold jy
 rw[ht]
 unfold we
 simp only
 have hg:(((1,[k])::(2,d.bs)::nu 3 ls:List (Int × List UInt8)).getLast?.map (·.1))=some ((2+(nu 3 ls).length:Nat):Int):=by
  grind [BZ,ur]
 rw[if_pos ⟨hg,rfl,d.len⟩,Lk,Fw]
 rfl
theorem Dv(h:n≤1048576):qx (uv n)=some n:=by
 grind [qx,vP]
def Gx(d:Dg):ix d.bs=some d:=by unfold ix;rw[if_pos d.len,Lk]
def z7:∀l:List Dg,nJ (l.map Dg.bs)=some l
 | []=>rfl
 | d::l=>by
  rw[List.map_cons]
  unfold nJ
  rw[Gx,z7 l]
def Pg(cs:List TC)(d:Dg):cY cs (Af d)=v7 cs d:=ET (sZ 3 d [] (by simp) (by simp))
theorem yS(cs:List TC){x:Bl}(hr:bI x=true):cY cs (cD x)=v7 cs x.d++[cN x]:=by
 have hb:=dY hr
 have h1:jy (cD x)=some (1,x.d,iD x):=sZ 1 x.d (iD x) (by simp[iD]) (lp x ag ag)
 unfold iD at h1
 rw[xp h1,Dv ag,Dv ag,Gx]
 simp only
 have:(⟨x.d,((x.size.toNat:Nat):Int),((x.piece.toNat:Nat):Int),x.root⟩:Bl)=x:=by
  cases x
  grind
 grind
def yR(cs:List TC)(d:Dg)(hi:i≤1048576){p:List Dg}(hp:p.length≤10):cY cs (bS d i p)=cs.map fun y=>if y.x.d=d∧i<y.n∧p.length=dB y.n i then y.put i p else y:=by
 have h1:jy (bS d i p)=some (2,d,fp i p):=sZ 2 d (fp i p) (by simp[fp];omega) (ld i ag p)
 rw[xo h1]
 unfold lV
 rw[Dv hi,z7]
structure RN(c c':TC):Prop where
 x:c.x=c'.x
 n:c.n=c'.n
 w:c.n≤c.ws.length*64
 w':c'.n≤c'.ws.length*64
 b:∀i,cG c.ws c.n i=cG c'.ws c'.n i
 p:∀i,cG c.ws c.n i=true→c.pf i=c'.pf i
theorem RN.refl{c:TC}(h:c.n≤c.ws.length*64):RN c c:=⟨rfl,rfl,h,h,fun _=>rfl,fun _ _=>rfl⟩
def RN.symm{c d:TC}(h:RN c d):RN d c:=⟨h.x.symm,h.n.symm,h.w',h.w,fun i=>(h.b i).symm,fun i hi=>(h.p i ((h.b i).trans hi)).symm⟩
theorem jl{ws:List jB}(hw:n≤ws.length*64)(hi:i<n)(j:Int):cG (ku ws i true) n j=if j=(i:Int)then true else cG ws n j:=by
 by_cases qe:0≤j∧j<(n:Int)
 ·obtain⟨j',rfl⟩:∃j':Nat,j=j':=⟨j.toNat,ag⟩
  grind [Gy]
 grind [lM]
theorem RN.put{c c':TC}(h:RN c c')(hi:i<c.n)(l:List Dg):RN (c.put i l) (c'.put i l):=by
 have gz:i<c'.n:=h.n ▸ hi
 refine⟨h.x,h.n,by unfold TC.put;simp only[jG];exact h.w,by unfold TC.put;simp only[jG];exact h.w',fun j=>?_,fun j hj=>?_⟩
 ·unfold TC.put
  simp only
  rw[jl h.w hi,jl h.w' gz,h.b j]
 ·unfold TC.put at hj ⊢
  simp only at hj ⊢
  rw[jl h.w hi]at hj
  by_cases he:j=(i:Int)
  ·grind
  ·rw[if_neg he]at hj
   rw[if_neg he,if_neg he]
   exact h.p j hj
abbrev yH(cs lA:List TC):Prop:=fD RN cs lA
def yH.symm(h:yH cs lA):yH lA cs:=⟨h.1.symm,fun i x y hx hy=>(h.2 i y x hy hx).symm⟩
def yH.rm(h:yH cs lA)(d:Dg):yH (v7 cs d) (v7 lA d):=fD.filter h fun x y tP=>by rw[tP.x]
theorem DM(x:Bl):(cN x).n≤(cN x).ws.length*64:=by
 grind [cN]
def Fm{cs:List TC}(h:∀c∈cs,c.x.d≠d):v7 cs d=cs:=by
 unfold v7
 simp_all
def yH.begin{lA:List TC}(h:yH cs lA){x:Bl}(lh:∀c∈lA,c.x.d≠x.d):yH (v7 cs x.d++[cN x]) (lA++[cN x]):=by
 rw[Fm (fun c hc=>by
  obtain⟨i,hi⟩:=List.mem_iff_getElem?.1 hc
  obtain⟨y,hy,hcy⟩:=h.left hi
  rw[hcy.x]
  exact lh y (List.mem_of_getElem? hy))]
 exact h.snoc (RN.refl (DM x))
def yH.piece(h:yH cs lA)(hn:(lA.map fun c=>c.x.d).Nodup){k:Nat}{c':TC}(hk:lA[k]?=some c')(hi:i<c'.n){p:List Dg}(hp:p.length=dB c'.n i) :
  yH (cs.map fun y=>if y.x.d=c'.x.d∧i<y.n∧p.length=dB y.n i then y.put i p else y) (lA.set k (c'.put i p)):=by
 refine⟨by rw[List.length_map,List.length_set];exact h.1,fun j a b ha hb=>?_⟩
 rw[List.getElem?_map]at ha
 obtain⟨a0,ha0,rfl⟩:=Option.map_eq_some_iff.1 ha
 obtain⟨b0,wF,xP⟩:=h.left ha0
 by_cases zT:k=j
 ·subst zT
  rw[hk]at wF
  injection wF with wF
  subst wF
  rw[List.getElem?_set_self ((List.getElem?_eq_some_iff.1 hk).1)]at hb
  injection hb with hb
  subst hb
  rw[if_pos ⟨by rw[xP.x],by rw[xP.n];exact hi,by rw[xP.n];exact hp⟩]
  exact xP.put (by rw[xP.n];exact hi) p
 ·rw[List.getElem?_set_ne zT,wF]at hb
  injection hb with hb
  subst hb
  rw[if_neg (fun hc=>zT ?_)]
  ·exact xP
  ·have e1:(lA.map fun c=>c.x.d)[j]?=some b0.x.d:=by rw[List.getElem?_map,wF];rfl
   have e2:(lA.map fun c=>c.x.d)[k]?=some c'.x.d:=by rw[List.getElem?_map,hk];rfl
   exact((List.getElem?_inj ((List.getElem?_eq_some_iff.1 e2).1) hn).1 (by rw[e1,e2,← xP.x,hc.1]))
def lW(c:TC):List Nat:=(List.range c.n).filter fun i=>cG c.ws c.n (i:Int)
def jF(c:TC):List (List UInt8):=cD c.x::(lW c).map fun i=>bS c.x.d i ((c.pf i).getD [])
def mO(c z:TC)(l:List Nat):TC:=l.foldl (fun z i=>z.put i ((c.pf i).getD [])) z
def KE(c:TC):∀(l:List Nat) (z:TC),(mO c z l).x=z.x∧(mO c z l).n=z.n∧(mO c z l).ws.length=z.ws.length
 | [],z=>⟨rfl,rfl,rfl⟩
 | i::l,z=>by
  obtain⟨h1,h2,h3⟩:=KE c l (z.put i ((c.pf i).getD []))
  exact⟨h1,h2,h3.trans (jG _ _ _)⟩
theorem B3(c:TC):∀(l:List Nat) (z:TC),z.n≤z.ws.length*64→(∀i∈l,i<z.n)→∀j:Int,cG (mO c z l).ws (mO c z l).n j=(decide (∃i∈l,j=(i:Int)) || cG z.ws z.n j)
 | [],z,_,_,j=>by simp[mO]
 | i::l,z,hw,hl,j=>by
  have hi:=hl i (List.mem_cons_self ..)
  have ih:=B3 c l (z.put i ((c.pf i).getD [])) (by unfold TC.put;simp only[jG];exact hw) (fun a ha=>hl a (List.mem_cons_of_mem _ ha)) j
  show cG (mO c (z.put i ((c.pf i).getD [])) l).ws (mO c (z.put i ((c.pf i).getD [])) l).n j=_
  rw[ih]
  unfold TC.put
  grind [jl]
theorem FC(c:TC):∀(l:List Nat) (z:TC) (j:Nat),j∈l→(mO c z l).pf j=some ((c.pf j).getD [])
 | [],z,j,h=>by cases h
 | i::l,z,j,h=>by
  by_cases uL:j∈l
  ·exact FC c l _ j uL
  ·rcases List.mem_cons.1 h with rfl|h
   ·have:∀(l:List Nat) (z:TC),j ∉ l→(mO c z l).pf j=z.pf j:=by
     intro l
     induction l with
     | nil=>intro z _;rfl
     | cons a l ih =>
      intro z hn
      rw[List.mem_cons,not_or]at hn
      show(mO c (z.put a ((c.pf a).getD [])) l).pf j=_
      rw[ih _ hn.2]
      unfold TC.put
      grind
    show(mO c (z.put j ((c.pf j).getD [])) l).pf j=_
    rw[this l _ uL]
    unfold TC.put
    simp
   grind
theorem xC{cs:List TC}{c:TC}(lh:∀y∈cs,y.x.d≠c.x.d)(qg:∀i:Nat,i∈lW c→((c.pf i).getD []).length=dB c.n i∧((c.pf i).getD []).length≤10)(hc:c.n≤1048576):∀(l:List Nat) (z:TC),(∀i∈l,i∈lW c)→z.x=c.x→z.n=c.n →
  (l.map fun i=>bS c.x.d i ((c.pf i).getD [])).foldl cY (cs++[z])=cs++[mO c z l]
 | [],z,_,_,_=>rfl
 | i::l,z,hl,hx,hn=>by
  have hi:=hl i (List.mem_cons_self ..)
  have qe:i<c.n:=List.mem_range.1 (List.mem_filter.1 hi).1
  obtain⟨h1,h2⟩:=qg i hi
  rw[List.map_cons,List.foldl_cons,yR _ _ ag h2,List.map_append]
  have e1:cs.map (fun y=>if y.x.d=c.x.d∧i<y.n∧((c.pf i).getD []).length=dB y.n i then y.put i ((c.pf i).getD [])else y)=cs:=by
   conv=>rhs;rw[← List.map_id cs]
   refine List.map_congr_left fun y hy=>?_
   grind
  rw[e1,List.map_cons,List.map_nil,if_pos ⟨by rw[hx],by rw[hn];exact qe,by rw[hn];exact h1⟩]
  exact xC lh qg hc l (z.put i ((c.pf i).getD [])) (fun a ha=>hl a (List.mem_cons_of_mem _ ha)) hx hn
theorem Mk{cs:List TC}{c:TC}(lh:∀y∈cs,y.x.d≠c.x.d)(hr:bI c.x=true)(hn:c.n=(cC c.x).toNat)(hw:c.n≤c.ws.length*64)(hc:c.n≤1048576)(hp:∀i:Nat,cG c.ws c.n (i:Int)=true→∃p,c.pf i=some p∧p.length=dB c.n i∧p.length≤10) :
  ∃c',(jF c).foldl cY cs=cs++[c']∧RN c' c:=by
 have gp:∀i:Nat,i∈lW c→i<c.n∧cG c.ws c.n (i:Int)=true:=fun i hi=>⟨List.mem_range.1 (List.mem_filter.1 hi).1,(List.mem_filter.1 hi).2⟩
 unfold jF
 rw[List.foldl_cons,yS _ hr,Fm lh]
 have TZ:(cN c.x).n=c.n:=hn.symm
 rw[xC lh (fun i hi=>by
  obtain⟨p,h1,h2,h3⟩:=hp i (gp i hi).2
  rw[h1]
  exact⟨h2,h3⟩) hc (lW c) (cN c.x) (fun i hi=>hi) rfl TZ]
 obtain⟨e1,e2,e3⟩:=KE c (lW c) (cN c.x)
 have Bo:=B3 c (lW c) (cN c.x) (DM c.x) (fun i hi=>by rw[TZ];exact(gp i hi).1)
 have Bp:∀j,cG (cN c.x).ws (cN c.x).n j=false:=fun j=>uS _ _ _
 have hb:∀j,cG (mO c (cN c.x) (lW c)).ws (mO c (cN c.x) (lW c)).n j=cG c.ws c.n j:=fun j=>by
  rw[Bo j,Bp j,Bool.or_false]
  by_cases qe:0≤j∧j<(c.n:Int)
  ·obtain⟨j',rfl⟩:∃j':Nat,j=j':=⟨j.toNat,ag⟩
   cases hh:cG c.ws c.n (j':Int)with
   | true=>exact decide_eq_true ⟨j',List.mem_filter.2 ⟨List.mem_range.2 ag,hh⟩,rfl⟩
   | false =>
    grind
  grind [lM]
 refine⟨_,rfl,e1,e2.trans TZ,by rw[e2,e3];exact DM c.x,hw,hb,fun j hj=>?_⟩
 grind [FC,lW,cN,lM]
def NSz(c:TC):Prop:=c.ws.length=(c.n+63)/64∧∀j,c.n≤j→(c.ws.getD (j/64) 0#64).getLsbD (j%64)=false
def wT(ts:List Tk):Nat:=(ts.map fun y=>1+(lW y.c).length).sum
structure CS(k w u:Nat)(s:fg)(ts:List Tk):Prop where
 dq:DQ k s.A
 brk:s.brk=false
 bz:∀z∈s.bz,z.1=z.2.d∧∃y∈ts,y.x=z.2
 tkb:∀y∈ts,gT s.bz y.x.d=some y.x
 keys:(s.bz.map (·.1)).Nodup
 bl:s.bz.length≤w
 ok:∀y∈ts,bI y.x=true∧y.x.size≤1000∧(y.n:Int)=cC y.x∧km y.c
 nd:(ts.map fun y=>y.x.d).Nodup
 has:∀y∈ts,(vw s.A (js y.x.d)).isSome=true∧vw s.A (og y.x.d)=none
 cov:∀y∈ts,∀i:Nat,cG y.ws y.n i=true→∃(c:List UInt8) (a n:Int) (p:List Dg),vw s.A (js y.x.d)=some c∧dI y.x i=some (a,n)∧a+n≤c.length∧y.pf i=some p∧dw y.x i ((c.drop a.toNat).take n.toNat) p=true
 wt:wT ts≤w
 ly:s.A.aj.length≤u
 ns:∀y∈ts,NSz y.c
structure CJ(j:Nat)(x:SJ)(cs:List TC):Prop where
 jr:∃(C:List UInt8) (n:Nat) (ls:List (List UInt8)),vw x.1.A cZ=some C∧JC C n ls∧x.2=⟨n,((ls.flatMap aS).length:Int),((ls.flatMap aS).length:Int),false⟩∧n≤1+j∧ls.length≤j∧(∀b∈ls,b.length≤900)∧yH (ls.foldl cY []) cs
theorem mW:∀(ls:List (List UInt8)),(∀b∈ls,b.length≤900)→(ls.flatMap aS).length≤910*ls.length
 | [],_=>by simp
 | b::ls,h=>by
  have h1:=mW ls fun x hx=>h x (List.mem_cons_of_mem _ hx)
  grind [oP]
def jq(d:Dg):js d≠cZ:=g' kS d
def nM(d:Dg):og d≠cZ:=g' kB d
theorem RE{l:List (Dg × Bl)}(h:∀z∈l,z.2.size≤1000):(l.map (·.2.size)).sum≤1000*(l.length:Int):=by
 induction l with
 | nil=>simp
 | cons z l ih =>
  grind
def iR(w:List UInt8):List (List UInt8):=cu (fu w)
def Jk{k last:Nat}{x:List UInt8}(hx:(C.drop (16*k)).take 16=x)(h:x=bL (jI x) (jI (x.drop 4))→jI x≤last):lj C k last=false:=by
 unfold lj
 rw[hx]
 simp only[decide_eq_false_iff_not]
 rintro⟨h1,_,_,_,h5⟩
 have:=h h5
 omega
def I4{k:Nat}{s:Nat × Nat}{x:List UInt8}(hx:(C.drop (16*k)).take 16=x)(h:x=bL (jI x) (jI (x.drop 4))→jI x≤s.1):eU C k s=s:=by
 unfold eU
 rw[Jk hx h]
 simp
def jW{h0 h1 body:List UInt8}{m:Nat}(l0:h0.length=16)(l1:h1.length=16)(Jf:1≤n)(hn:n≤1073741824)(hm:m≤body.length)(Vp:m<4294967296)(hc:if n%2=1 then h1=bL n m∧(h0=bL (jI h0) (jI (h0.drop 4))→jI h0<n)else h0=bL n m∧(h1=bL (jI h1) (jI (h1.drop 4))→jI h1<n)):fu (h0++h1++body)=body.take m:=by
 obtain⟨k0,k1,k2⟩:=adt h0 h1 body l0 l1
 have hlen:(h0++h1++body).length=32+body.length:=by simp only[List.length_append];omega
 unfold fu
 rw[if_neg ag,k2]
 have key:(eU (h0++h1++body) 1 (eU (h0++h1++body) 0 (0,0))).2=m:=by
  by_cases hp:n%2=1
  ·rw[if_pos hp]at hc
   obtain⟨rfl,hc⟩:=hc
   have dJ:(eU (h0++bL n m++body) 0 (0,0)).1<n:=by
    unfold eU
    split
    ·rename_i iJ
     rw[k0]
     unfold lj at iJ
     rw[k0]at iJ
     simp only[decide_eq_true_eq]at iJ
     exact hc iJ.2.2.2.2
    ·show 0<n
     omega
   rw[Ce k1 ag Vp,if_pos ⟨dJ,hn,hp,ag⟩]
  ·rw[if_neg hp]at hc
   obtain⟨rfl,hc⟩:=hc
   rw[Ce k0 ag Vp,if_pos ⟨by show 0<n;omega,hn,ag,ag⟩,I4 k1 (fun h=>by have:=hc h;show _≤n;omega)]
 rw[key]
theorem JC.nI{ls:List (List UInt8)}(h:JC C n ls)(hs:(ls.flatMap aS).length<4294967296)(hn:n≤1073741824):∃h0 h1:List UInt8,C=h0++h1++ls.flatMap aS∧h0.length=16∧h1.length=16∧1≤n ∧
  (if n%2=1 then h1=bL n (ls.flatMap aS).length∧jI h0<n∧(h0=List.replicate 16 0∨∃s,s<4294967296∧h0=bL (n-1) s)else h0=bL n (ls.flatMap aS).length∧jI h1<n∧(h1=List.replicate 16 0∨∃s,s<4294967296∧h1=bL (n-1) s)):=by
 obtain⟨h0,h1,hC,l0,l1,Ul,hc⟩:=h
 have hz:jI (List.replicate 16 0)=0:=by decide
 refine⟨h0,h1,hC,l0,l1,Ul,?_⟩
 by_cases hp:n%2=1
 ·rw[if_pos hp]at hc ⊢
  obtain⟨a,rfl|⟨s,fL,rfl⟩⟩:=hc
  ·exact⟨a,by rw[hz];omega,.inl rfl⟩
  ·exact⟨a,by rw[(lJ (n:=n-1) (m:=s) ag ag).1];omega,.inr ⟨s,ag,rfl⟩⟩
 ·rw[if_neg hp]at hc ⊢
  obtain⟨a,rfl|⟨s,fL,rfl⟩⟩:=hc
  ·exact⟨a,by rw[hz];omega,.inl rfl⟩
  ·exact⟨a,by rw[(lJ (n:=n-1) (m:=s) ag ag).1];omega,.inr ⟨s,ag,rfl⟩⟩
def iT{ls:List (List UInt8)}(h:∀b∈ls,b.length≤4096):cu (ls.flatMap aS)=ls:=xz ls h
def JC.behind{ls:List (List UInt8)}(h:JC C n ls)(hs:(ls.flatMap aS).length<4294967296)(hn:n≤1073741824)(hl:∀b∈ls,b.length≤4096)(t:List UInt8):iR (C++t)=ls:=by
 obtain⟨h0,h1,rfl,l0,l1,Ul,hc⟩:=h.nI hs hn
 unfold iR
 rw[List.append_assoc,jW l0 l1 Ul hn (m:=(ls.flatMap aS).length) (by simp) hs (by
  by_cases hp:n%2=1
  ·rw[if_pos hp]at hc ⊢
   exact⟨hc.1,fun _=>hc.2.1⟩
  ·rw[if_neg hp]at hc ⊢
   exact⟨hc.1,fun _=>hc.2.1⟩),List.take_left]
 exact iT hl
def BK{a b j:Nat}{old x:List UInt8}(ho:old.length=16)(hold:old=List.replicate 16 0∨∃n s,n<4294967296∧s<4294967296∧old=bL n s)(hx:x=(bL a b).take j++old.drop j)(hv:x=bL (jI x) (jI (x.drop 4))):x=bL a b∨jI x=jI old:=by
 have hl:(bL a b).length=16:=dk _ _
 by_cases hj:16≤j
 ·left
  rw[hx,List.take_of_length_le ag,List.drop_eq_nil_of_le ag,List.append_nil]
 have hh:(bL a b).drop 8=(bL a b).take 8:=rfl
 have Ev:x.length=16:=by rw[hx,List.length_append,List.length_take,List.length_drop];omega
 have hx8:x.drop 8=x.take 8:=by rw[hv];rfl
 have ho8:old.drop 8=old.take 8:=by
  rcases hold with rfl|⟨n,s,_,_,rfl⟩ <;> rfl
 by_cases hj8:j≤8
 ·right
  have e1:x.drop 8=old.drop 8:=by
   rw[hx,List.drop_append,List.length_take,List.drop_eq_nil_of_le (by rw[List.length_take];omega),List.nil_append,List.drop_drop]
   congr 1
   omega
  have e2:x.take 8=old.take 8:=by rw[← hx8,e1,ho8]
  have hlen:∀y:List UInt8,jI y=jI (y.take 8):=fun y=>by
   unfold jI
   simp[List.getD_eq_getElem?_getD,List.getElem?_take]
  rw[hlen x,hlen old,e2]
 ·left
  have e1:x.take 8=(bL a b).take 8:=by
   rw[hx,List.take_append,List.take_take,List.length_take]
   rw[show min 8 j=8 by omega,show 8-min j (bL a b).length=0 by omega,List.take_zero,List.append_nil]
  have e2:x.drop 8=(bL a b).drop 8:=by rw[hx8,e1,hh]
  rw[← List.take_append_drop 8 x,e1,e2,List.take_append_drop]
def yJ(p q r b:List UInt8)(hb:b.length≤q.length):bJ (p++q++r) p.length b=p++(b++q.drop b.length)++r:=by
 have h0:p.length+b.length-(p++q++r).length=0:=by simp only[List.length_append];omega
 have h1:(p++(q++r)).drop (p.length+b.length)=q.drop b.length++r:=by
  rw[List.drop_append,List.drop_eq_nil_of_le ag,List.nil_append,Nat.add_sub_cancel_left,List.drop_append,show b.length-q.length=0 by omega,List.drop_zero]
 show(p++q++r++List.replicate (p.length+b.length-(p++q++r).length) 0).take p.length++b++(p++q++r++List.replicate (p.length+b.length-(p++q++r).length) 0).drop (p.length+b.length)=_
 rw[h0,List.replicate_zero,List.append_nil,List.append_assoc p q r,List.take_left,h1]
 simp only[List.append_assoc]
def GO{l:List UInt8}(h:l.length=16)(j:Nat):l.drop (min j 16)=l.drop j:=by
 by_cases hj:j≤16
 ·rw[Nat.min_eq_left hj]
 ·rw[Nat.min_eq_right ag,List.drop_eq_nil_of_le ag,List.drop_eq_nil_of_le ag]
def Ip(C b:List UInt8)(j:Nat):bJ C C.length (b.take j)=C++b.take j:=o6 C (b.take j)
def JC.cq{ls:List (List UInt8)}{b:List UInt8}(h:JC C n ls)(hs:(ls.flatMap aS).length+(aS b).length<4294967296)(hn:n+1≤1073741824)(hl:∀x∈ls++[b],x.length≤4096)(j:Nat) :
  iR (bJ (C++aS b) ((n+1)%2*16) ((bL (n+1) ((ls.flatMap aS).length+(aS b).length)).take j))=ls∨iR (bJ (C++aS b) ((n+1)%2*16) ((bL (n+1) ((ls.flatMap aS).length+(aS b).length)).take j))=ls++[b]:=by
 obtain⟨h0,h1,rfl,l0,l1,Ul,hc⟩:=h.nI ag ag
 have hf:(ls++[b]).flatMap aS=ls.flatMap aS++aS b:=by simp
 have oH:((ls++[b]).flatMap aS).length=(ls.flatMap aS).length+(aS b).length:=by rw[hf,List.length_append]
 have Q2:∀x∈ls,x.length≤4096:=fun x hx=>hl x (by simp[hx])
 obtain⟨H,hH⟩:∃H,H=bL (n+1) ((ls.flatMap aS).length+(aS b).length):=⟨_,rfl⟩
 have hHl:H.length=16:=by rw[hH];rfl
 rw[← hH]
 have uL:(H.take j).length=min j 16:=by rw[List.length_take,hHl]
 have hle:jI H=n+1:=by rw[hH];exact(lJ ag ag).1
 unfold iR
 by_cases hp:n%2=1
 ·rw[if_pos hp]at hc
  obtain⟨rfl,dJ,hold⟩:=hc
  have OU:(n+1)%2=0:=by omega
  obtain⟨x,hx⟩:∃x,x=H.take j++h0.drop j:=⟨_,rfl⟩
  have Ev:x.length=16:=by rw[hx,List.length_append,uL,List.length_drop];omega
  have hw:bJ (h0++bL n (ls.flatMap aS).length++ls.flatMap aS++aS b) ((n+1)%2*16) (H.take j)=x++bL n (ls.flatMap aS).length++(ls.flatMap aS++aS b):=by
   have:=yJ [] h0 (bL n (ls.flatMap aS).length++(ls.flatMap aS++aS b)) (H.take j) (by rw[uL];omega)
   rw[uL,GO l0,← hx]at this
   rw[OU,Nat.zero_mul]
   simpa only[List.nil_append,List.append_assoc,List.length_nil]using this
  rw[hw]
  by_cases hv:x=bL (jI x) (jI (x.drop 4))
  ·rcases BK l0 (by rcases hold with h|⟨s,hs,h⟩;exact .inl h;exact .inr ⟨n-1,s,ag,hs,h⟩) (hH ▸ hx) hv with h|h
   ·right
    rw[h,jW (dk _ _) (dk _ _) ag hn (m:=((ls.flatMap aS).length+(aS b).length)) (by simp) hs (by rw[if_neg ag];exact⟨rfl,fun _=>by rw[(lJ ag ag).1];omega⟩),← List.length_append,List.take_length,← hf]
    exact iT hl
   ·left
    rw[jW Ev (dk _ _) Ul ag (m:=(ls.flatMap aS).length) (by simp) ag (by rw[if_pos hp];exact⟨rfl,fun _=>by rw[h];exact dJ⟩),List.take_left]
    exact iT Q2
  ·left
   rw[jW Ev (dk _ _) Ul ag (m:=(ls.flatMap aS).length) (by simp) ag (by rw[if_pos hp];exact⟨rfl,fun Tz=>absurd Tz hv⟩),List.take_left]
   exact iT Q2
 ·rw[if_neg hp]at hc
  obtain⟨rfl,dJ,hold⟩:=hc
  have OU:(n+1)%2=1:=by omega
  obtain⟨x,hx⟩:∃x,x=H.take j++h1.drop j:=⟨_,rfl⟩
  have Ev:x.length=16:=by rw[hx,List.length_append,uL,List.length_drop];omega
  have hw:bJ (bL n (ls.flatMap aS).length++h1++ls.flatMap aS++aS b) ((n+1)%2*16) (H.take j)=bL n (ls.flatMap aS).length++x++(ls.flatMap aS++aS b):=by
   have e16:(bL n (ls.flatMap aS).length).length=16:=dk _ _
   have:=yJ (bL n (ls.flatMap aS).length) h1 (ls.flatMap aS++aS b) (H.take j) (by rw[uL];omega)
   rw[uL,GO l1,← hx,e16]at this
   rw[OU,Nat.one_mul]
   simpa only[List.append_assoc]using this
  rw[hw]
  by_cases hv:x=bL (jI x) (jI (x.drop 4))
  ·rcases BK l1 (by rcases hold with h|⟨s,hs,h⟩;exact .inl h;exact .inr ⟨n-1,s,ag,hs,h⟩) (hH ▸ hx) hv with h|h
   ·right
    rw[h,jW (dk _ _) (dk _ _) ag hn (m:=((ls.flatMap aS).length+(aS b).length)) (by simp) hs (by rw[if_pos OU];exact⟨rfl,fun _=>by rw[(lJ ag ag).1];omega⟩),← List.length_append,List.take_length,← hf]
    exact iT hl
   ·left
    rw[jW (dk _ _) Ev Ul ag (m:=(ls.flatMap aS).length) (by simp) ag (by rw[if_neg hp];exact⟨rfl,fun _=>by rw[h];exact dJ⟩),List.take_left]
    exact iT Q2
  ·left
   rw[jW (dk _ _) Ev Ul ag (m:=(ls.flatMap aS).length) (by simp) ag (by rw[if_neg hp];exact⟨rfl,fun Tz=>absurd Tz hv⟩),List.take_left]
   exact iT Q2
theorem wk(A:Ab):(A.meet true).1=0∨(A.meet true).1=6∨(A.meet true).1=7:=by
 unfold Ab.meet
 grind
theorem rL(A:Ab)(nm:ByteArray):(A.find nm true).1=0∨(A.find nm true).1=4∨(A.find nm true).1=6∨(A.find nm true).1=7:=by
 have h:=wk A
 unfold Ab.find
 grind
theorem sM{at_:Nat}(hm:fK nm at_ b=true)(h:fh nm at_ b A e B):e=0∨e=3∨e=4∨e=6∨e=7:=by
 unfold fh at h
 rw[hm]at h
 have hf:=rL A nm
 unfold Ab.write at h
 grind
theorem rp(hm:isName nm=true)(h:fR nm A e B):e=0∨e=4∨e=6∨e=7:=by
 unfold fR at h
 rw[hm]at h
 have hf:=rL A nm
 unfold Ab.sync at h
 grind
theorem ql(h:cP A e B):e=0∨e=6∨e=7:=by
 have hf:=wk A
 unfold cP Ab.cp at h
 grind
theorem jM(h0:e≠0)(h:e=0∨e=3∨e=4∨e=6∨e=7):dR e=true:=by
 unfold dR
 grind
def s9(d:Dg):cZ≠og d:=fun e=>nM d e.symm
def nt.now{f:Nat}(h:nk k A)(ha:nt A nm P)(hf:A.look nm=some f):P (A.now f):=by
 obtain⟨g,h1,h2⟩:=ha
 obtain rfl:g=f:=Option.some.inj ((h1 _ h.mem).symm.trans hf)
 exact h2 _ (h.zw g ((h.nm _ h.mem).look hf).1)
def nt.synced(h:nk k A)(ha:nt A nm P)(hs:fR nm A 0 B):∃w,P w∧nt B nm (· = w)∧∀f,A.look nm=some f→A.now f=w:=by
 obtain⟨_,_,h1,h2,_,h3⟩:=h.sync hs
 obtain⟨f,hf,_,h5⟩:=h3 rfl
 obtain⟨g,g1,g2⟩:=ha
 obtain rfl:g=f:=Option.some.inj ((g1 _ h.mem).symm.trans hf)
 refine⟨A.now g,g2 _ (h.zw g ((h.nm _ h.mem).look hf).1),⟨g,fun st bP=>g1 st (by rw[h2]at bP;exact bP),h5⟩,fun f' zW=>?_⟩
 rw[hf]at zW
 injection zW with zW
 rw[zW]
structure j8(A B:Ab):Prop where
 names:B.names=A.names
 aj:B.aj=A.aj
def j8.trans{C:Ab}(h1:j8 A B)(h2:j8 B C):j8 A C:=⟨h2.names.trans h1.names,h2.aj.trans h1.aj⟩
def MD{L:List (List UInt8)}(h:nk k x.1.A)(hj:nt x.1.A cZ (· = C))(hc:JC C n L)(hx:x.2=⟨n,((L.flatMap aS).length:Int),((L.flatMap aS).length:Int),false⟩)(hb:b.length≤900)(hL:∀z∈L,z.length≤900)(hLl:L.length≤70)(hn:n≤100000)(hR:gi (iQ b) x e y) :
  nk k y.1.A∧Kept x.1.A y.1.A (· = cZ)∧j8 x.1.A y.1.A∧y.1.bz=x.1.bz∧y.1.brk=x.1.brk ∧
   (e=0→(sc x.1.A→sc y.1.A)∧∃C',nt y.1.A cZ (· = C')∧JC C' (n+1) (L++[b])∧y.2=⟨((n+1:Nat):Int),(((L++[b]).flatMap aS).length:Int),(((L++[b]).flatMap aS).length:Int),false⟩) ∧
   (e≠0→dR e=true∧nt y.1.A cZ (fun w=>iR w=L∨iR w=L++[b])):=by
 obtain⟨⟨A,bz,brk⟩,jn⟩:=x
 simp only at h hj hx
 subst hx
 have lY:0<(aS b).length:=by have:=Ii b.length;simp[aS];omega
 have hlen:=hc.len
 have oH:=mW L hL
 have tB:=oP b ag
 have hf:((L++[b]).flatMap aS).length=(L.flatMap aS).length+(aS b).length:=by simp
 have hL4:∀z∈L,z.length≤4096:=fun z hz=>Nat.le_trans (hL z hz) ag
 have hLb:∀z∈L++[b],z.length≤4096:=fun z hz=>by
  rcases List.mem_append.1 hz with hz|hz
  ·exact hL4 z hz
  ·rw[List.mem_singleton.1 hz];omega
 have aae:∀t,iR (C++t)=L:=fun t=>hc.behind ag ag hL4 t
 obtain⟨e1,x1,⟨ye,wG⟩,c1⟩:=hR
 have hm:fK cZ ((32+(L.flatMap aS).length:Nat):Int) (aS b)=true:=rB eM (32+(L.flatMap aS).length) (aS b) ag
 have Cr:(32+((L.flatMap aS).length:Int))=((32+(L.flatMap aS).length:Nat):Int):=by omega
 obtain⟨e0,A1,sA⟩:∃e0 A1,(e0,A1)=A.write (fK cZ ((32+(L.flatMap aS).length:Nat):Int) (aS b)) cZ (32+(L.flatMap aS).length) (aS b):=⟨_,_,rfl⟩
 have zN:fh cZ (32+(L.flatMap aS).length) (aS b) A e0 A1:=sA
 have Ub:cW cZ A ⟨n,((L.flatMap aS).length:Int),((L.flatMap aS).length:Int),false⟩ b=if e0=0 then(0,A1,⟨n,(((L++[b]).flatMap aS).length:Int),((L.flatMap aS).length:Int),false⟩)else(e0,A1,⟨n,((L.flatMap aS).length:Int),((L.flatMap aS).length:Int),true⟩):=by
  unfold cW
  simp only[Bool.false_eq_true,if_false]
  rw[if_neg ag,if_neg ag,Cr,Int.toNat_natCast,← sA,hf]
  simp
 simp only[Ub]at ye wG
 have hq1:∀w j,w=C→GoodO cZ w→(∃i,bJ w (32+(L.flatMap aS).length) ((aS b).take j)=C++(aS b).take i)∧GoodO cZ (bJ w (32+(L.flatMap aS).length) ((aS b).take j)):=fun w j hw _=>by
  rw[hw,← hlen,Ip]
  refine⟨⟨j,rfl⟩,fun d hd=>absurd hd (s9 d),?_⟩
  rw[if_pos rfl,List.length_append,List.length_take]
  omega
 obtain⟨i1,i2,i3,i4,i5,i6,i7⟩:=h.write (Q:=fun w=>∃i,w=C++(aS b).take i) hj (fun w hw=>⟨0,by rw[hw,List.take_zero,List.append_nil]⟩) hq1 zN
 rcases c1 with⟨df,rfl,rfl⟩|⟨h0,hR⟩
 ·have pH:e0≠0:=fun he=>by rw[if_pos he]at ye;exact df ye
  rw[if_neg pH]at ye wG
  subst ye wG
  refine⟨i1,i2,⟨i4,i5⟩,rfl,rfl,fun he=>absurd he df,fun _=>⟨jM df (sM hm zN),i3.imp ?_⟩⟩
  rintro w⟨i,rfl⟩
  exact .inl (aae _)
 have pH:e0=0:=Decidable.byContradiction fun he=>by rw[if_neg he]at ye;exact he (ye.symm.trans h0)
 subst pH
 rw[if_pos rfl]at ye wG
 subst wG
 obtain⟨e2,x2,⟨A2,j2,ya,rfl⟩,c2⟩:=hR
 simp only at ya
 unfold jw at ya
 simp only[Bool.false_eq_true,if_false]at ya
 rw[if_neg (by rw[hf];omega),if_neg ag]at ya
 obtain⟨z,cX,rfl,rfl⟩:=ya
 have lL:∀(er:Nat) (yr:SJ),er=e2→yr=(⟨z.1,bz,brk⟩,⟨z.2.1,z.2.2.1,z.2.2.2,decide (e2≠0)⟩)→(nk k z.1∧Kept A1 z.1 (· = cZ)∧j8 A1 z.1 ∧
   (e2=0→(sc A→sc z.1)∧∃C',nt z.1 cZ (· = C')∧JC C' (n+1) (L++[b])∧z.2=(((n+1:Nat):Int),(((L++[b]).flatMap aS).length:Int),(((L++[b]).flatMap aS).length:Int)))∧(e2≠0→dR e2=true∧nt z.1 cZ (fun w=>iR w=L∨iR w=L++[b]))) →
   nk k yr.1.A∧Kept A yr.1.A (· = cZ)∧j8 A yr.1.A∧yr.1.bz=bz∧yr.1.brk=brk ∧
   (er=0→(sc A→sc yr.1.A)∧∃C',nt yr.1.A cZ (· = C')∧JC C' (n+1) (L++[b])∧yr.2=⟨((n+1:Nat):Int),(((L++[b]).flatMap aS).length:Int),(((L++[b]).flatMap aS).length:Int),false⟩) ∧
   (er≠0→dR er=true∧nt yr.1.A cZ (fun w=>iR w=L∨iR w=L++[b])):=by
  rintro er yr rfl rfl⟨g1,g2,g3,g4,g5⟩
  refine⟨g1,i2.trans g2,j8.trans ⟨i4,i5⟩ g3,rfl,rfl,fun he=>?_,g5⟩
  obtain⟨q0,C',q1,q2,q3⟩:=g4 he
  refine⟨q0,C',q1,q2,?_⟩
  rw[q3,he]
  rfl
 have acU:nk k z.1∧Kept A1 z.1 (· = cZ)∧j8 A1 z.1 ∧
   (e2=0→(sc A→sc z.1)∧∃C',nt z.1 cZ (· = C')∧JC C' (n+1) (L++[b])∧z.2=(((n+1:Nat):Int),(((L++[b]).flatMap aS).length:Int),(((L++[b]).flatMap aS).length:Int)))∧(e2≠0→dR e2=true∧nt z.1 cZ (fun w=>iR w=L∨iR w=L++[b])):=by
  obtain⟨e3,x3,⟨⟨Nq,EF⟩,Uj⟩,c3⟩:=cX
  have OS:fR cZ A1 e3 x3.1:=by unfold fR;rw[Nq,EF]
  obtain⟨s1,s2,s3,s4,s5,s6⟩:=i1.sync OS
  rcases c3 with⟨df,rfl,rfl⟩|⟨rfl,c3⟩
  ·refine⟨s1,s2.mono (fun _ h=>h.elim),⟨s3,s4⟩,fun he=>absurd he df,fun _=>⟨jM df (by have:=rp eM OS;omega),(s2.tS _ _ id i3).imp ?_⟩⟩
   rintro w⟨i,rfl⟩
   exact .inl (aae _)
  -- the file is what it is now
  obtain⟨f,Vz,Vy⟩:=i7 rfl
  have acD:A.now f=C:=hj.now h Vz
  have acM:A1.look cZ=some f:=by unfold Ab.look;rw[i4];exact Vz
  have hC1:nt x3.1 cZ (· = C++aS b):=by
   obtain⟨w,_,q2,q3⟩:=i3.synced i1 OS
   have:=q3 f acM
   rw[Vy,acD,← hlen,o6]at this
   rw[this]
   exact q2
  obtain⟨e4,x4,⟨⟨Jw,EE⟩,h4c⟩,c4⟩:=c3
  have qd:(n:Int).toNat+1=n+1:=by omega
  have M1:(((L++[b]).flatMap aS).length:Int).toNat=(L.flatMap aS).length+(aS b).length:=by rw[hf];omega
  simp only[qd,M1]at Jw EE
  obtain⟨H,hH⟩:∃H,H=bL (n+1) ((L.flatMap aS).length+(aS b).length):=⟨_,rfl⟩
  have hHl:H.length=16:=by rw[hH];rfl
  rw[← hH]at Jw EE
  have hm4:fK cZ (((n+1)%2*16:Nat):Int) H=true:=rB eM _ _ ag
  have Vj:fh cZ ((n+1)%2*16) H x3.1 e4 x4.1:=by unfold fh;rw[Jw,EE]
  have hCl:(C++aS b).length=32+(L.flatMap aS).length+(aS b).length:=by rw[List.length_append,hlen]
  obtain⟨t1,t2,t3,t4,t5,t6,t7⟩:=s1.write (Q:=fun w=>w=C++aS b∨∃j,w=bJ (C++aS b) ((n+1)%2*16) (H.take j)) hC1 (fun w hw => .inl hw) (fun w j hw _=>by
   subst hw
   refine⟨.inr ⟨j,rfl⟩,fun d hd=>absurd hd (s9 d),?_⟩
   rw[if_pos rfl,gA,List.length_take,hCl]
   omega) Vj
  have zM:∀w,(w=C++aS b∨∃j,w=bJ (C++aS b) ((n+1)%2*16) (H.take j))→iR w=L∨iR w=L++[b]:=fun w hw=>by
   rcases hw with rfl|⟨j,rfl⟩
   ·exact .inl (aae _)
   ·rw[hH];exact hc.cq ag ag hLb j
  rcases c4 with⟨df,rfl,rfl⟩|⟨rfl,c4⟩
  ·exact⟨t1,(s2.mono fun _ h=>h.elim).trans t2,j8.trans ⟨s3,s4⟩ ⟨t4,t5⟩,fun he=>absurd he df,fun _=>⟨jM df (sM hm4 Vj),t3.imp zM⟩⟩
  obtain⟨e5,x5,⟨⟨Ui,Uh⟩,h5c⟩,c5⟩:=c4
  have hs5:fR cZ x4.1 e5 x5.1:=by unfold fR;rw[Ui,Uh]
  obtain⟨u1,u2,u3,u4,u5,u6⟩:=t1.sync hs5
  have Sw:Kept A1 x5.1 (· = cZ):=((s2.mono fun _ h=>h.elim).trans t2).trans (u2.mono fun _ h=>h.elim)
  have H4:j8 A1 x5.1:=(j8.trans ⟨s3,s4⟩ ⟨t4,t5⟩).trans ⟨u3,u4⟩
  rcases c5 with⟨df,rfl,rfl⟩|⟨rfl,c5⟩
  ·exact⟨u1,Sw,H4,fun he=>absurd he df,fun _=>⟨jM df (by have:=rp eM hs5;omega),(u2.tS _ _ id t3).imp zM⟩⟩
  obtain⟨e6,x6,⟨h6a,Ug⟩,c6⟩:=c5
  subst h6a
  rcases c6 with⟨df,_⟩|⟨_,he,hy⟩
  ·exact absurd rfl df
  subst he hy Ug
  refine⟨u1,Sw,H4,fun _=>?_,fun he=>absurd rfl he⟩
  obtain⟨f4,hf4,hf5⟩:=t7 rfl
  have acE:x3.1.now f4=C++aS b:=hC1.now s1 hf4
  have aeP:x4.1.look cZ=some f4:=by unfold Ab.look;rw[t4];exact hf4
  obtain⟨w,_,q2,q3⟩:=t3.synced t1 hs5
  have hw:=q3 f4 aeP
  rw[hf5,acE]at hw
  refine⟨fun ki=>u5 rfl (t6 (s5 rfl (i6 ki))),w,q2,?_,?_⟩
  ·have:=hc.add b
   rw[← hlen,o6]at this
   rw[← hw,hH]
   exact this
  ·simp only[h5c,h4c,Uj,qd]
 rcases c2 with⟨df,rfl,rfl⟩|⟨p5,rfl,rfl⟩
 ·exact lL _ _ zr zr acU
 ·exact lL _ _ p5.symm rfl acU
def Mw{c:TC}(h:∀i,cG c.ws c.n i=false):lW c=[]:=by
 unfold lW
 simp_all
def Ru(ts:List Tk)(y:Tk):dE (ts++[y])=dE ts++[y.c]:=by unfold dE;simp
theorem Ax(x:Bl)(hs:x.size≤1000000000000)(hp:x.piece≤1000000000000):(cD x).length≤900:=by
 grind [iu,iD,lp,cD]
theorem Rp(d:Dg):(Af d).length≤900:=by
 grind [iu,Af]
theorem zt(d:Dg)(i:Nat)(hi:i≤1000000000000)(p:List Dg)(hp:p.length≤10):(bS d i p).length≤900:=by
 have:=iu 2 d (fp i p) (by simp[fp];omega) (ld i hi p)
 grind [bS,fp]
def S5(ts:List Tk)(d:Dg):∀y∈sg ts d,y∈ts:=fun y hy=>(List.mem_filter.1 hy).1
def wH(ls:List (List UInt8))(b:List UInt8):(ls++[b]).foldl cY []=cY (ls.foldl cY []) b:=by rw[List.foldl_append];rfl
theorem aau{ts:List Tk}(h:(ts.any fun y=>decide (y.x.d=d))=false):∀z∈ts,z.x.d≠d:=fun z hz e=>by
 grind
theorem E2{x:Bl}{i i' a' n n':Int}(h:dI x i=some (a,n))(h':dI x i'=some (a',n'))(df:i≠i'):a+n≤a'∨a'+n'≤a:=by
 obtain⟨_,_,_,_,_,g1,g2,gr⟩:=jO h
 obtain⟨_,_,_,_,_,g1',g2',_⟩:=jO h'
 have hp:=dY gr
 rcases Int.lt_or_gt_of_ne df with hl|hl
 ·left
  have h1:(i+1)*x.piece≤i'*x.piece:=Int.mul_le_mul_of_nonneg_right ag ag
  grind
 ·right
  have h1:(i'+1)*x.piece≤i*x.piece:=Int.mul_le_mul_of_nonneg_right ag ag
  grind
theorem O5(c:List UInt8)(a:Nat)(b:List UInt8):((bJ c a b).drop a).take b.length=b:=by
 refine List.ext_getElem? fun j=>?_
 grind [LU]
theorem EI{c:List UInt8}{a:Nat}{a' n':Nat}(hc:a'+n'≤c.length)(h:a'+n'≤a∨a+b.length≤a'):((bJ c a b).drop a').take n'=(c.drop a').take n':=by
 refine List.ext_getElem? fun j=>?_
 grind [Ie]
theorem sE{α:Type}(f g:α→Bool):∀l:List α,(l.filter fun x=>f x || g x).length≤(l.filter f).length+(l.filter g).length
 | []=>by simp
 | x::l=>by
  have ih:=sE f g l
  grind
theorem range_one(i:Nat):∀n:Nat,((List.range n).filter fun j=>decide (j=i)).length≤if i<n then 1 else 0
 | 0=>by simp
 | n+1=>by
  have ih:=range_one i n
  rw[List.range_succ,List.filter_append,List.length_append]
  grind
theorem Td{c:TC}(hw:c.n≤c.ws.length*64)(hi:i<c.n)(l:List Dg):(lW (c.put i l)).length≤(lW c).length+1:=by
 have e:lW (c.put i l)=(List.range c.n).filter fun j=>decide (j=i) || cG c.ws c.n (j:Int):=by
  unfold lW TC.put
  grind [jl]
 rw[e]
 have h1:=sE (fun j=>decide (j=i)) (fun j:Nat=>cG c.ws c.n (j:Int)) (List.range c.n)
 have h2:=range_one i c.n
 rw[if_pos hi]at h2
 show _≤((List.range c.n).filter fun i:Nat=>cG c.ws c.n (i:Int)).length+1
 omega
def Uy(ts:List Tk)(k:Nat)(z:Tk):dE (ts.set k z)=(dE ts).set k z.c:=by unfold dE;rw[List.map_set]
def J2(c:TC)(w:List UInt8):Prop:=∀i:Nat,cG c.ws c.n (i:Int)=true→∃(a n:Int) (p:List Dg),dI c.x i=some (a,n)∧a+n≤w.length∧c.pf i=some p∧dw c.x i ((w.drop a.toNat).take n.toNat) p=true
structure Sj(c:TC):Prop where
 r:bI c.x=true
 s:c.x.size≤1000
 n:(c.n:Int)=cC c.x
 ok:km c
 pf:∀i:Nat,cG c.ws c.n (i:Int)=true→∃p,c.pf i=some p
structure vF(A:Ab)(T:List TC):Prop where
 cL:∀c∈T,Sj c
 tS:∀c∈T,nt A (js c.x.d) (J2 c)
 Dw:∀c∈T,CR A (og c.x.d)
 nd:(T.map fun c=>c.x.d).Nodup
def vF.kept{T:List TC}{X:ByteArray→Prop}(h:vF A T)(hk:Kept A B X)(hX:∀c∈T,¬X (js c.x.d)∧¬X (og c.x.d)):vF B T :=
 ⟨h.cL,fun c hc=>hk.tS _ _ (hX c hc).1 (h.tS c hc),fun c hc=>hk.Dw _ (hX c hc).2 (h.Dw c hc),h.nd⟩
def vF.sub{T':List TC}(h:vF A T)(hs:T'.Sublist T):vF A T' :=
 ⟨fun c hc=>h.cL c (hs.subset hc),fun c hc=>h.tS c (hs.subset hc),fun c hc=>h.Dw c (hs.subset hc),(hs.map _).nodup h.nd⟩
structure PU(k:List Dg)(x:SJ)(T:List TC)(L:List (List UInt8)):Prop where
 di:nk k x.1.A
 brk:x.1.brk=false
 dt:vF x.1.A T
 sb:∀st∈x.1.A.aj,∀d,Ab.bC st (og d)=x.1.A.look (og d)
 ss:∀d f,x.1.A.look (js d)=some f→∀st∈x.1.A.aj,Ab.bC st (js d)=some f
 jn:∃C n,nt x.1.A cZ (· = C)∧JC C n L∧x.2=⟨n,((L.flatMap aS).length:Int),((L.flatMap aS).length:Int),false⟩∧n≤1+L.length
 lb:∀b∈L,b.length≤900
 told:yH (L.foldl cY []) T
 cln:sc x.1.A
 bg:∀c∈T,gT x.1.bz c.x.d=some c.x
 kd:∀c∈T,c.x.d∈k
structure xd(c c':TC):Prop where
 x:c'.x=c.x
 n:c'.n=c.n
 b:∀i:Int,cG c.ws c.n i=true→cG c'.ws c'.n i=true∧c'.pf i=c.pf i
theorem xd.refl(c:TC):xd c c:=⟨rfl,rfl,fun _ h=>⟨h,rfl⟩⟩
def p7(k:List Dg)(T:List TC)(L:List (List UInt8)):Prop:=∃T',yH (L.foldl cY []) T'∧(∀c∈T',Sj c∧c.x.d∈k)∧(T'.map fun c=>c.x.d).Nodup∧∀c∈T,∃c'∈T',xd c c'
structure PB(k:List Dg)(j:Nat)(A:Ab)(T:List TC):Prop where
 di:nk k A
 dt:vF A T
 jn:nt A cZ (fun w=>(∀b∈iR w,b.length≤900)∧(iR w).length≤j∧p7 k T (iR w))
def JC.S8{L:List (List UInt8)}(h:JC C n L)(hn:n≤100000)(hL:L.length≤70)(hb:∀b∈L,b.length≤900):iR C=L:=by
 have oH:=mW L hb
 have:=h.behind ag ag (fun b h=>Nat.le_trans (hb b h) ag) []
 rwa[List.append_nil]at this
def PU.pb{j:Nat}(h:PU k x T L)(hL:L.length≤j)(hj:j≤70):PB k j x.1.A T:=by
 obtain⟨C,n,h1,h2,_,h4⟩:=h.jn
 refine⟨h.di,h.dt,h1.imp fun w hw=>?_⟩
 rw[hw,h2.S8 ag ag h.lb]
 exact⟨h.lb,hL,T,h.told,fun c hc=>⟨h.dt.cL c hc,h.kd c hc⟩,h.dt.nd,fun c hc=>⟨c,hc,xd.refl c⟩⟩
def nk.mono(h:nk k A)(H7:k ⊆ j):nk j A:=h.eqv (r'.refl A) H7
def p7.mono(h:p7 k T L)(H7:k ⊆ j):p7 j T L:=by
 obtain⟨T0,h1,h2,h3,h4⟩:=h
 exact⟨T0,h1,fun c hc=>⟨(h2 c hc).1,H7 (h2 c hc).2⟩,h3,h4⟩
def PB.mono{k':List Dg}{j j':Nat}(h:PB k j A T)(hk:k ⊆ k')(hj:j≤j'):PB k' j' A T:=⟨h.di.mono hk,h.dt,h.jn.imp fun w hw=>⟨hw.1,Nat.le_trans hw.2.1 hj,hw.2.2.mono hk⟩⟩
def PU.mono(h:PU k x T L)(H7:k ⊆ j):PU j x T L:=⟨h.di.mono H7,h.brk,h.dt,h.sb,h.ss,h.jn,h.lb,h.told,h.cln,h.bg,fun c hc=>H7 (h.kd c hc)⟩
def vd(d:Dg)(a:ByteArray):Prop:=a=js d∨a=og d
def RA{d':Dg}(h:d'≠d):¬vd d (js d')∧¬vd d (og d') :=
 ⟨fun x=>x.elim (fun e=>h (DS e)) fun e=>dQ _ _ e,fun x=>x.elim (fun e=>dQ _ _ e.symm) fun e=>h (yy e)⟩
def CC(d:Dg):¬vd d cZ:=fun x=>x.elim (fun e=>jq d e.symm) fun e=>nM d e.symm
def N5(A:Ab):Prop:=∀st∈A.aj,∀d,Ab.bC st (og d)=A.look (og d)
def N4(A:Ab):Prop:=∀d f,A.look (js d)=some f→∀st∈A.aj,Ab.bC st (js d)=some f
def N5.same(h:N5 A)(hs:j8 A B):N5 B:=fun st bP d=>by
 rw[hs.aj]at bP
 unfold Ab.look
 rw[hs.names]
 exact h st bP d
def N4.same(h:N4 A)(hs:j8 A B):N4 B:=fun d f hf st bP=>by
 rw[hs.aj]at bP
 unfold Ab.look at hf
 rw[hs.names]at hf
 exact h d f hf st bP
def N5.one(h:B.aj=[B.names]):N5 B:=fun st bP d=>by
 rw[h,List.mem_singleton]at bP
 rw[bP];rfl
def N4.one(h:B.aj=[B.names]):N4 B:=fun d f hf st bP=>by
 rw[h,List.mem_singleton]at bP
 rw[bP];exact hf
def j8.eqv(e:r' A B):j8 A B:=⟨e.names,e.aj⟩
def JnL(x:SJ)(L:List (List UInt8)):Prop:=∃C n,nt x.1.A cZ (· = C)∧JC C n L∧x.2=⟨n,((L.flatMap aS).length:Int),((L.flatMap aS).length:Int),false⟩∧n≤1+L.length
def JnL.kept{X:ByteArray→Prop}(h:JnL x L)(hk:Kept x.1.A y.1.A X)(hX:¬X cZ)(hj:y.2=x.2):JnL y L:=by
 obtain⟨C,n,h1,h2,h3,h4⟩:=h
 exact⟨C,n,hk.tS _ _ hX h1,h2,hj.trans h3,h4⟩
def p7.of{T:List TC}{T':List TC}(h:yH (L.foldl cY []) T')(he:∀c∈T',Sj c)(hk:∀c∈T',c.x.d∈k)(hn:(T'.map fun c=>c.x.d).Nodup)(hs:∀c∈T,∃c'∈T',xd c c'):p7 k T L:=⟨T',h,fun c hc=>⟨he c hc,hk c hc⟩,hn,hs⟩
def Ee{T0 T1:List TC}{L:List (List UInt8)}(hdi:nk k x.1.A)(h0:vF x.1.A T0)(h1:vF x.1.A T1)(afj:x.1.brk=false)(hsb:N5 x.1.A)(hss:N4 x.1.A)(ki:sc x.1.A)(hj:JnL x L)(Vt:∀z∈L,z.length≤900)(hb:b.length≤900)(hLl:L.length≤69)(pI:∀c∈T1,gT x.1.bz c.x.d=some c.x)(K7:∀c∈T1,c.x.d∈k)(ht0:p7 k T0 L)(rU:yH ((L++[b]).foldl cY []) T1)(hle:∀c∈T0,∃c'∈T1,xd c c')(hR:gi (iQ b) x e y) :
  (e=0∧PU k y T1 (L++[b]))∨(e≠0∧dR e=true∧PB k (L.length+1) y.1.A T0):=by
 obtain⟨C,n,j1,j2,j3,j4⟩:=hj
 obtain⟨r1,r2,r3,r4,r5,r6,r7⟩:=MD hdi j1 j2 j3 hb Vt ag ag hR
 have hX:∀T,∀c∈(T:List TC),¬(js c.x.d=cZ)∧¬(og c.x.d=cZ):=fun T c _=>⟨jq _,nM _⟩
 have acQ:∀z∈L++[b],z.length≤900:=fun z hz=>by
  rcases List.mem_append.1 hz with hz|hz
  ·exact Vt z hz
  ·rw[List.mem_singleton.1 hz];exact hb
 by_cases he:e=0
 ·refine .inl ⟨he,?_⟩
  obtain⟨q0,C',q1,q2,q3⟩:=r6 he
  exact⟨r1,r5.trans afj,h1.kept r2 (hX T1),hsb.same r3,hss.same r3,⟨C',n+1,q1,q2,q3,by rw[List.length_append,List.length_singleton];omega⟩,acQ,rU,q0 ki,by rw[r4];exact pI,K7⟩
 ·obtain⟨q1,q2⟩:=r7 he
  refine .inr ⟨he,q1,r1,h0.kept r2 (hX T0),q2.imp ?_⟩
  rintro w (hw|hw)
  ·rw[hw];exact⟨Vt,ag,ht0⟩
  ·rw[hw];exact⟨acQ,by rw[List.length_append,List.length_singleton];exact Nat.le_refl _,p7.of rU h1.cL K7 h1.nd hle⟩
theorem GU(hm:isName nm=true)(hl:A.look nm=none)(h:gm nm A e B):e=0∨e=3∨e=4∨e=6∨e=7:=by
 obtain⟨f,hf,hc⟩:=h
 rw[hm]at hc
 have hq:=qy A true
 have mT:(A.meet true).2.look nm=none:=by unfold Ab.look;rw[hq.names];exact hl
 have hf:=wk A
 unfold Ab.create at hc
 grind
def Sj.fresh{b:Bl}(hr:bI b=true)(hs:b.size≤1000):Sj (cN b):=by
 have:=wM b
 exact⟨hr,hs,by show((cC b).toNat:Int)=cC b;omega,km.fresh b,fun i hi=>by rw[show cG (cN b).ws (cN b).n (i:Int)=false from uS ..]at hi;cases hi⟩
def J2.fresh(b:Bl)(w:List UInt8):J2 (cN b) w:=fun i hi=>by
 have h0:cG (cN b).ws (cN b).n (i:Int)=false:=uS ..
 rw[h0]at hi
 cases hi
def Lh(h:pK A nm=false):A.look nm=none:=by
 unfold pK at h
 cases hx:A.look nm with
 | none=>rfl
 | some f=>rw[hx]at h;cases h
def PU.Iq{b:Bl}{q:Int}{t:fg}(h:PU k x T L)(hs:bI b=true→b.size≤1000)(hR:eh q b x.1 e t) :
  (e=0∧nk (b.d::k) t.A∧Kept x.1.A t.A (· = js b.d)∧t.brk=false∧N5 t.A∧N4 t.A∧sc t.A∧Sj (cN b)∧nt t.A (js b.d) (fun _=>True)∧CR t.A (og b.d)∧gT x.1.bz b.d=none∧t.bz=x.1.bz++[(b.d,b)])∨(e≠0∧dR e=false∧t=x.1)∨(e≠0∧dR e=true∧nk (b.d::k) t.A∧Kept x.1.A t.A (· = js b.d)):=by
 unfold eh at hR
 rw[h.brk,if_neg (by simp)]at hR
 split at hR
 ·obtain⟨rfl,rfl⟩:=hR
  exact .inr (.inl ⟨by decide,rfl,rfl⟩)
 rename_i hr
 have hr:bI b=true:=by simpa using hr
 split at hR
 ·obtain⟨rfl,rfl⟩:=hR
  exact .inr (.inl ⟨by decide,rfl,rfl⟩)
 rename_i lh
 have Jr:gT x.1.bz b.d=none:=Option.not_isSome_iff_eq_none.1 fun e=>lh (.inl e)
 have hnB:x.1.A.look (og b.d)=none:=Lh (by
  have:¬pK x.1.A (fB b)=true:=fun e=>lh (.inr e)
  exact(Bool.not_eq_true _).mp this)
 split at hR
 ·obtain⟨rfl,rfl⟩:=hR
  exact .inr (.inl ⟨by decide,rfl,rfl⟩)
 have aeK:CR x.1.A (og b.d):=fun st bP=>(h.sb st bP b.d).trans hnB
 split at hR
 ·rename_i hS
  obtain⟨rfl,rfl⟩:=hR
  obtain⟨f,hf⟩:∃f,x.1.A.look (js b.d)=some f:=Option.isSome_iff_exists.1 hS
  exact .inl ⟨rfl,h.di.mono (List.subset_cons_self ..),Kept.eqv (r'.refl _) _,rfl,h.sb,h.ss,h.cln,Sj.fresh hr (hs hr),⟨f,h.ss _ _ hf,fun _ _=>trivial⟩,aeK,Jr,rfl⟩
 rename_i hS
 have hnS:x.1.A.look (js b.d)=none:=Lh ((Bool.not_eq_true (pK x.1.A (fS b))).mp hS)
 have Vx:fS b=js b.d:=rfl
 obtain⟨e1,s1,⟨B,cX,rfl⟩,hR⟩:=hR
 obtain⟨e2,A2,hc,cX⟩:=cX
 have Gs:=GU (jg b) hnS hc
 obtain⟨c1,c2,c3,c4⟩:=h.di.create (List.subset_cons_self ..) (.inr (.inl ⟨b.d,List.mem_cons_self ..,Vx⟩)) (fun d=>by rw[Vx];exact dQ _ _) hc
 rw[Vx]at c2 c4
 rcases cX with⟨h2,rfl,rfl⟩|⟨rfl,e3,A3,H4,cX⟩
 ·rcases hR with⟨h1,rfl,rfl⟩|⟨h1,_⟩
  ·exact .inr (.inr ⟨h1,jM h1 Gs,c1,c2⟩)
  ·exact absurd h1 h2
 have Z8:=ql H4
 obtain⟨s1,s2,s3,s4⟩:=c1.cp (by obtain⟨_,_,_,_,_,ki⟩:=c4 rfl;exact ki h.cln) H4
 have rV:Kept x.1.A A3 (· = js b.d):=c2.trans (s2.mono fun _ h=>h.elim)
 rcases cX with⟨h3,rfl,rfl⟩|⟨rfl,rfl,rfl⟩
 ·rcases hR with⟨h1,rfl,rfl⟩|⟨h1,_⟩
  ·exact .inr (.inr ⟨h1,jM h1 ag,s1,rV⟩)
  ·exact absurd h1 h3
 rcases hR with⟨h1,_⟩|⟨_,rfl,rfl⟩
 ·exact absurd rfl h1
 obtain⟨t1,t2,t3,t4⟩:=s4 rfl
 obtain⟨_,f,g1,g2,g3,_⟩:=c4 rfl
 have bP:B.aj=[B.names]:=by rw[t1,t2]
 have l9:∀a,B.look a=A2.look a:=fun a=>by unfold Ab.look;rw[t2]
 exact .inl ⟨rfl,s1,rV,by simp[h.brk],N5.one bP,N4.one bP,t4,Sj.fresh hr (hs hr),nt.one bP ((l9 _).trans g1) fun _ _=>trivial,CR.one bP (by rw[l9,g2 _ (fun e=>dQ _ _ e.symm)];exact hnB),Jr,rfl⟩
def PU.begin{ts ts':List Tk}{b:Bl}{q:Int}(h:PU k x (dE ts) L)(hs:bI b=true→b.size≤1000)(hL:L.length≤69)(hR:OL q b ts x false e ts' iZ t) :
  (iZ=false∧∃L',PU (b.d::k) t (dE ts') L'∧L'.length≤L.length+1∧((e≠0∧ts'=ts)∨(e=0∧dE ts'=dE ts++[cN b])))∨(iZ=true∧e≠0∧ts'=ts∧PB (b.d::k) (L.length+1) t.1.A (dE ts)):=by
 rcases hR with⟨h1,_⟩|⟨_,_,rfl,rfl,rfl,rfl⟩|⟨_,lh,rfl,⟨e1,x1,⟨bP,EB⟩,hR⟩,Ba⟩
 ·cases h1
 ·exact .inl ⟨rfl,L,h.mono (List.subset_cons_self ..),ag,.inl ⟨by decide,rfl⟩⟩
 have TM:∀c∈dE ts,c.x.d≠b.d:=fun c hc=>by
  obtain⟨y,hy,rfl⟩:=List.mem_map.1 hc
  exact aau lh y hy
 have hX:∀c∈dE ts,¬(js c.x.d=js b.d)∧¬(og c.x.d=js b.d):=fun c hc=>⟨fun e=>TM c hc (DS e),fun e=>dQ _ _ e.symm⟩
 rcases h.Iq hs bP with⟨rfl,q1,q2,q3,q4,q5,q9,q6,q7,q8,q10,q11⟩|⟨h0,hb,hx⟩|⟨h0,hb,q1,q2⟩
 ·rcases hR with⟨h1,_⟩|⟨_,hR⟩
  ·exact absurd rfl h1
  have Lb:=h.dt.kept q2 hX
  have hd1:vF x1.1.A (dE ts++[cN b]):=by
   refine⟨fun c hc=>?_,fun c hc=>?_,fun c hc=>?_,?_⟩
   ·rcases List.mem_append.1 hc with hc|hc
    ·exact Lb.cL c hc
    ·rw[List.mem_singleton.1 hc];exact q6
   ·rcases List.mem_append.1 hc with hc|hc
    ·exact Lb.tS c hc
    ·rw[List.mem_singleton.1 hc];exact q7.imp fun w _=>J2.fresh b w
   ·rcases List.mem_append.1 hc with hc|hc
    ·exact Lb.Dw c hc
    ·rw[List.mem_singleton.1 hc];exact q8
   ·rw[List.map_append,List.nodup_append]
    refine⟨Lb.nd,by simp,fun a ha a' ha'=>?_⟩
    obtain⟨c,hc,rfl⟩:=List.mem_map.1 ha
    simp only[List.map_cons,List.map_nil,List.mem_singleton]at ha'
    rw[ha']
    exact TM c hc
  have hj:=JnL.kept (x:=x) (y:=x1) (L:=L) h.jn q2 (fun e=>jq b.d e.symm) EB
  have rU:yH ((L++[cD b]).foldl cY []) (dE ts++[cN b]):=by
   rw[wH,yS (x:=b) _ q6.r]
   exact h.told.begin TM
  have pI:∀c∈dE ts++[cN b],gT x1.1.bz c.x.d=some c.x:=fun c hc=>by
   rw[q11,G8 _ _ _ q10]
   rcases List.mem_append.1 hc with hc|hc
   ·rw[if_neg (TM c hc)];exact h.bg c hc
   ·rw[List.mem_singleton.1 hc]
    exact if_pos rfl
  have K7:∀c∈dE ts++[cN b],c.x.d∈b.d::k:=fun c hc=>by
   rcases List.mem_append.1 hc with hc|hc
   ·exact List.mem_cons_of_mem _ (h.kd c hc)
   ·rw[List.mem_singleton.1 hc];exact List.mem_cons_self ..
  have VG:b.size≤1000:=q6.s
  have Nn:=dY (show bI b=true from q6.r)
  rcases Ee q1 Lb hd1 q3 q4 q5 q9 hj h.lb (by have:=Ax b ag ag;omega) hL pI K7 ((p7.of h.told h.dt.cL h.kd h.dt.nd fun c hc=>⟨c,hc,xd.refl c⟩).mono (List.subset_cons_self ..)) rU (fun c hc=>⟨c,List.mem_append.2 (.inl hc),xd.refl c⟩) hR with⟨rfl,hp⟩|⟨h0,hb,hp⟩
  ·rcases Ba with⟨h1,_⟩|⟨_,y,hy,rfl⟩
   ·exact absurd rfl h1
   have kP:dE (ts++[y])=dE ts++[cN b]:=by rw[Ru,hy]
   exact .inl ⟨rfl,L++[cD b],by rw[kP];exact hp,by simp,.inr ⟨rfl,kP⟩⟩
  ·rcases Ba with⟨_,rfl⟩|⟨h1,_⟩
   ·exact .inr ⟨hb,h0,rfl,hp⟩
   ·exact absurd h1 h0
 ·rcases hR with⟨_,rfl,rfl⟩|⟨h1,_⟩
  ·rcases Ba with⟨_,rfl⟩|⟨h1,_⟩
   ·have OR:t=x:=Prod.ext hx EB
    rw[OR]
    exact .inl ⟨hb,L,h.mono (List.subset_cons_self ..),ag,.inl ⟨h0,rfl⟩⟩
   ·exact absurd h1 h0
  ·exact absurd h1 h0
 ·rcases hR with⟨_,rfl,rfl⟩|⟨h1,_⟩
  ·rcases Ba with⟨_,rfl⟩|⟨h1,_⟩
   ·have K3:=(h.mono (List.subset_cons_self b.d k)).pb (Nat.le_succ _) ag
    exact .inr ⟨hb,h0,rfl,q1,h.dt.kept q2 hX,q2.tS _ _ (fun e=>jq b.d e.symm) K3.jn⟩
   ·exact absurd h1 h0
  ·exact absurd h1 h0
def J2.write{c:TC}{w:List UInt8}{n:Int}(h:J2 c w)(iC:dI c.x i=some (a,n))(hb:(b.length:Int)≤n)(lh:cG c.ws c.n (i:Int)=false):J2 c (bJ w a.toNat b):=fun j hj=>by
 obtain⟨a',n',p,h1,h2,h3,h4⟩:=h j hj
 have df:(i:Int)≠(j:Int):=fun e=>by rw[e,hj]at lh;cases lh
 have Ib:=E2 iC h1 df
 obtain⟨g0,g1,_⟩:=jO iC
 obtain⟨f0,f1,_⟩:=jO h1
 have eW:=gA w a.toNat b
 exact⟨a',n',p,h1,by rw[eW];omega,h3,by rw[EI ag ag];exact h4⟩
theorem J2.put{c:TC}{w:List UInt8}{n:Int}{p:List Dg}(h:J2 c w)(hw:c.n≤c.ws.length*64)(hi:i<c.n)(iC:dI c.x i=some (a,n))(hb:(b.length:Int)=n)(hp:dw c.x i b p=true)(lh:cG c.ws c.n (i:Int)=false):J2 (c.put i p) (bJ w a.toNat b):=fun j hj=>by
 have oX:cG (ku c.ws i true) c.n (j:Int)=true:=hj
 rw[jl hw hi]at oX
 obtain⟨g0,g1,_⟩:=jO iC
 have eW:=gA w a.toNat b
 by_cases EA:(j:Int)=i
 ·obtain rfl:j=i:=by omega
  refine⟨a,n,p,iC,by rw[eW];omega,?_,?_⟩
  ·show(if(j:Int)=(j:Int)then some p else c.pf j)=some p
   rw[if_pos rfl]
  ·rw[show n.toNat=b.length by omega,O5];exact hp
 ·rw[if_neg EA]at oX
  obtain⟨a',n',p',h1,h2,h3,h4⟩:=h.write (b:=b) iC ag lh j oX
  exact⟨a',n',p',h1,h2,(if_neg EA).trans h3,h4⟩
theorem xd.put{c:TC}{p:List Dg}(hw:c.n≤c.ws.length*64)(hi:i<c.n)(lh:cG c.ws c.n (i:Int)=false):xd c (c.put i p):=⟨rfl,rfl,fun j hj=>by
  have EA:j≠(i:Int):=fun e=>by rw[e,lh]at hj;cases hj
  refine⟨?_,if_neg EA⟩
  show cG (ku c.ws i true) c.n j=true
  rw[jl hw hi,if_neg EA];exact hj⟩
def Nx(h:nk k A)(ha:nt A (js d) P):nt A (js d) (fun w=>P w∧w.length≤1000):=by
 obtain⟨f,h1,h2⟩:=ha
 refine⟨f,h1,fun w hw=>⟨h2 w hw,?_⟩⟩
 have:=(h.oK _ h.mem _ f (h1 _ h.mem) w hw).2
 rwa[if_neg (jq d)]at this
def PU.Pp{c:TC}{n:Int}{p:List Dg}(h:PU k x T L)(hc:c∈T)(hi:i<c.n)(iC:dI c.x i=some (a,n))(hb:(b.length:Int)=n)(hp:dw c.x i b p=true)(lh:cG c.ws c.n (i:Int)=false)(hR:gi [dx (mh c.x i b),dx (kY c.x)] x e t) :
    nk k t.1.A∧Kept x.1.A t.1.A (· = js c.x.d)∧nt t.1.A (js c.x.d) (J2 c)∧j8 x.1.A t.1.A∧t.2=x.2∧(e≠0→dR e=true)∧(e=0→t.1.brk=false∧t.1.bz=x.1.bz∧sc t.1.A∧nt t.1.A (js c.x.d) (J2 (c.put i p))):=by
  obtain⟨g0,g1,g2,g3,g4,g5,g6,gr⟩:=jO iC
  have mf:=h.dt.cL c hc
  have iY:=mf.s
  have adk:=Nx h.di (h.dt.tS c hc)
  obtain⟨e1,x1,⟨hP,EB⟩,hR⟩:=hR
  have hm:fK (js c.x.d) a.toNat b=true:=KQ c.x a.toNat b ag
  have ad4:nk k x1.1.A∧Kept x.1.A x1.1.A (· = js c.x.d)∧nt x1.1.A (js c.x.d) (J2 c)∧j8 x.1.A x1.1.A∧(e1≠0→dR e1=true)∧(e1=0→x1.1.brk=false∧x1.1.bz=x.1.bz∧lf x.1 c.x=0∧aaG x1.1.A (js c.x.d)∧∃f w0,x.1.A.look (js c.x.d)=some f∧J2 c w0∧x1.1.A.now f=bJ w0 a.toNat b):=by
    unfold mh at hP
    split at hP
    · rename_i lZ
      obtain⟨rfl,A9⟩:=hP
      rw[A9]
      refine⟨h.di,Kept.eqv (r'.refl _) _,h.dt.tS c hc,⟨rfl,rfl⟩,fun _=>?_,fun h0=>absurd h0 lZ⟩
      unfold lf at lZ ⊢
      rw[h.brk]at lZ ⊢
      simp only[Bool.false_eq_true,if_false]at lZ ⊢
      split at lZ
      · exact absurd rfl lZ
      · rename_i ho
        rw[if_neg ho];rfl
    rename_i lZ
    rw[iC]at hP
    simp only at hP
    rw[if_neg ag]at hP
    obtain⟨B,⟨e2,A2,hw,cX⟩,A9⟩:=hP
    have Gs:=sM hm hw
    obtain⟨w1,w2,w3,w4,w5,w6,w7⟩:=h.di.write (Q:=J2 c) adk (fun w hw=>hw.1) (fun w j hw _=>⟨hw.1.write iC (by rw[List.length_take];omega) lh,fun d hd=>absurd hd (dQ _ _),by
      rw[if_neg (jq _),gA,List.length_take]
      have:=hw.2
      omega⟩) hw
    have hBA:B=A2∧e1=e2:=by
      rcases cX with⟨_,h2,h3⟩|⟨h2,h3,h4⟩
      · exact⟨h3,h2⟩
      · exact⟨h4,h3.trans h2.symm⟩
    obtain⟨rfl,rfl⟩:=hBA
    rw[A9]
    refine⟨w1,w2,w3,⟨w4,w5⟩,fun h0=>jM h0 Gs,fun h0=>⟨by simp[h.brk,h0],rfl,by simpa using lZ,w6 h.cln,?_⟩⟩
    obtain⟨f,hf,M9⟩:=w7 h0
    exact⟨f,x.1.A.now f,hf,(adk.now h.di hf).1,M9⟩
  obtain⟨k1,k2,k3,k4,k5,k6⟩:=ad4
  rcases hR with⟨h0,rfl,rfl⟩|⟨h0,e3,x3,⟨hS,Cm⟩,hR⟩
  · exact⟨k1,k2,k3,k4,EB,k5,fun he=>absurd he h0⟩
  obtain⟨b1,b2,b3,bx,f,w0,hf,hw0,M9⟩:=k6 h0
  have acJ:lf x1.1 c.x=0:=by
    unfold lf KI at b3 ⊢
    rw[h.brk]at b3
    rw[b1,b2]
    exact b3
  unfold kY at hS
  rw[acJ,if_neg (by simp)]at hS
  obtain⟨B,⟨e4,A4,hsy,cX⟩,hx3⟩:=hS
  have hBA:B=A4∧e3=e4:=by
    rcases cX with⟨_,h2,h3⟩|⟨h2,h3,h4⟩
    · exact⟨h3,h2⟩
    · exact⟨h4,h3.trans h2.symm⟩
  obtain⟨rfl,rfl⟩:=hBA
  have Gs:=rp (jg c.x) hsy
  obtain⟨s1,s2,s3,s4,s5,s6⟩:=k1.sync hsy
  have hte:t=x3∧e=e3:=by
    rcases hR with⟨_,h2,h3⟩|⟨h2,h3,h4⟩
    · exact⟨h3,h2⟩
    · exact⟨h4,h3.trans h2.symm⟩
  obtain⟨rfl,rfl⟩:=hte
  rw[hx3]
  refine⟨s1,k2.trans (s2.mono fun _ h=>h.elim),s2.tS _ _ id k3,k4.trans ⟨s3,s4⟩,Cm.trans EB,fun he=>jM he ag,fun he=>⟨by simp[b1,he],b2,s5 he bx,?_⟩⟩
  subst he
  obtain⟨w,q1,q2,q3⟩:=k3.synced k1 hsy
  have l9:x1.1.A.look (js c.x.d)=some f:=by unfold Ab.look;rw[k4.names];exact hf
  have hwe:=q3 f l9
  rw[M9]at hwe
  refine q2.imp fun w' lg=>?_
  rw[lg,← hwe]
  exact hw0.put mf.ok.2.1 hi iC hb hp lh
def gi.split{σ:Type}:∀ {l l':List (σ→Nat→σ→Prop)} {x y:σ} {e:Nat},gi (l++l') x e y→(∃e1 z,gi l x e1 z∧((e1≠0∧e=e1∧y=z)∨(e1=0∧gi l' z e y)))
 | [],l',x,y,e,h=>⟨0,x,⟨rfl,rfl⟩,.inr ⟨rfl,h⟩⟩
 | s::l,l',x,y,e,h=>by
  obtain⟨e1,x1,hs,h⟩:=h
  rcases h with⟨h0,h1,h2⟩|⟨h0,h⟩
  ·exact⟨e1,x1,⟨e1,x1,hs,.inl ⟨h0,rfl,rfl⟩⟩,.inl ⟨h0,h1,h2⟩⟩
  ·obtain⟨e2,z,h3,h4⟩:=gi.split h
   exact⟨e2,z,⟨e1,x1,hs,.inr ⟨h0,h3⟩⟩,h4⟩
theorem PU.put{ts ts':List Tk}{b:Bl}{i:Int}{bs:List UInt8}{p:List Dg}(h:PU k x (dE ts) L)(hL:L.length≤69)(hR:N7 b i bs p ts x false e ts' iZ t) :
    (iZ=false∧∃L',PU k t (dE ts') L'∧L'.length≤L.length+1∧(∀c∈dE ts,∃c'∈dE ts',xd c c')∧(e=0→0≤i∧∃c∈dE ts',c.x=b∧cG c.ws c.n i=true))∨(iZ=true∧e≠0∧ts'=ts∧PB k (L.length+1) t.1.A (dE ts)):=by
  have Gd:∀c∈dE ts,∃c'∈dE ts,xd c c':=fun c hc=>⟨c,hc,xd.refl c⟩
  rcases hR with⟨h1,_⟩|⟨_,_,rfl,rfl,rfl,rfl⟩|⟨_,q,y,hf,hq,Bj,hc⟩
  · cases h1
  · exact .inl ⟨rfl,L,h,ag,Gd,fun h0=>by cases h0⟩
  rcases hc with⟨_,rfl,rfl,rfl,rfl⟩|⟨hi,hh,rfl,rfl,rfl,rfl⟩|⟨_,_,_,rfl,rfl,rfl,rfl⟩|⟨hi,hh,hp,rfl,hR,Ba⟩
  · exact .inl ⟨rfl,L,h,ag,Gd,fun h0=>by cases h0⟩
  · exact .inl ⟨rfl,L,h,ag,Gd,fun _=>⟨hi.1,y.c,List.mem_map.2 ⟨y,List.mem_of_getElem? hq,rfl⟩,Bj,hh⟩⟩
  · exact .inl ⟨rfl,L,h,ag,Gd,fun h0=>by cases h0⟩
  subst Bj
  obtain⟨i,rfl⟩:∃i':Nat,i=i':=⟨i.toNat,ag⟩
  rw[Int.toNat_natCast]at hR Ba
  have T6:(dE ts)[q]?=some y.c:=by unfold dE;rw[List.getElem?_map,hq];rfl
  have VC:y.c∈dE ts:=List.mem_of_getElem? T6
  have mf:=h.dt.cL y.c VC
  have iJ:=mf.ok
  have Vl:y.n≤1024:=iJ.1
  have qg:=tm hp
  obtain⟨a,n,iC⟩:∃a n,dI y.x i=some (a,n):=by
    grind [dw,dI]
  have kQ:(bs.length:Int)=n:=by
    grind [dw]
  have ae7:p.length=dB y.n i:=by
    have Jf:(y.n:Int)=cC y.x:=mf.n
    grind [dw,gS]
  have dJ:i<y.n:=by omega
  obtain⟨e1,x1,Ex,hR⟩:=gi.split (l:=[dx (mh y.x i bs),dx (kY y.x)]) (l':=iQ (bS y.x.d i p)) hR
  obtain⟨m1,m2,m3,m4,m5,m6,m7⟩:=h.Pp (c:=y.c) VC dJ iC kQ hp hh Ex
  have hX:∀c∈dE ts,c≠y.c→¬(js c.x.d=js y.x.d)∧¬(og c.x.d=js y.x.d):=fun c hc df=>⟨fun e=>by
    have hd:=DS e
    obtain⟨j,hj⟩:=List.mem_iff_getElem?.1 hc
    have d1:((dE ts).map fun c=>c.x.d)[j]?=some c.x.d:=by rw[List.getElem?_map,hj];rfl
    have d2:((dE ts).map fun c=>c.x.d)[q]?=some y.x.d:=by rw[List.getElem?_map,T6];rfl
    have hjq:=(List.getElem?_inj (j:=q) ((List.getElem?_eq_some_iff.1 d1).1) h.dt.nd).1 (by rw[d1,d2,hd])
    subst hjq
    rw[T6]at hj
    injection hj with hj
    exact df hj.symm,fun e=>dQ _ _ e.symm⟩
  have acG:CR x1.1.A (og y.x.d):=m2.Dw _ (fun e=>dQ _ _ e.symm) (h.dt.Dw y.c VC)
  have Lb:vF x1.1.A (dE ts):=⟨h.dt.cL,fun c hc=>by
    by_cases hce:c=y.c
    · rw[hce];exact m3
    · exact m2.tS _ _ (hX c hc hce).1 (h.dt.tS c hc),fun c hc=>m2.Dw _ (fun e=>dQ _ _ e.symm) (h.dt.Dw c hc),h.dt.nd⟩
  have hj:=JnL.kept (x:=x) (y:=x1) (L:=L) h.jn m2 (fun e=>jq y.x.d e.symm) m5
  have Gk:((dE ts).set q (y.c.put i p)).map (fun c=>c.x.d)=(dE ts).map fun c=>c.x.d:=by
    rw[List.map_set]
    refine List.ext_getElem? fun j=>?_
    by_cases zT:j=q
    · subst zT
      rw[List.getElem?_set_self (by simpa using(List.getElem?_eq_some_iff.1 T6).1),List.getElem?_map,T6];rfl
    · rw[List.getElem?_set_ne (fun e=>zT e.symm)]
  have gp:∀c∈(dE ts).set q (y.c.put i p),c∈dE ts∨c=y.c.put i p:=fun c hc=>List.mem_or_eq_of_mem_set hc
  have hle:∀c∈dE ts,∃c'∈(dE ts).set q (y.c.put i p),xd c c':=fun c hc=>by
    obtain⟨j,hj⟩:=List.mem_iff_getElem?.1 hc
    by_cases zT:j=q
    · subst zT
      rw[T6]at hj
      injection hj with hj
      subst hj
      exact⟨_,List.mem_of_getElem? (List.getElem?_set_self ((List.getElem?_eq_some_iff.1 T6).1)),xd.put iJ.2.1 dJ hh⟩
    · exact⟨c,List.mem_of_getElem? (by rw[List.getElem?_set_ne (fun e=>zT e.symm)];exact hj),xd.refl c⟩
  rcases hR with⟨h0,rfl,rfl⟩|⟨h0,hR⟩
  · rcases Ba with⟨_,rfl⟩|⟨h1,_⟩
    · exact .inr ⟨m6 h0,h0,rfl,m1,Lb,m2.tS _ _ (fun e=>jq y.x.d e.symm) (h.pb (Nat.le_succ _) ag).jn⟩
    · exact absurd h1 h0
  obtain⟨m8,m11,m10,m9⟩:=m7 h0
  have hd1:vF x1.1.A ((dE ts).set q (y.c.put i p)):=⟨fun c hc=>by
    rcases gp c hc with hc|rfl
    · exact h.dt.cL c hc
    · exact⟨mf.r,mf.s,mf.n,iJ.put i qg,fun j hj=>by
        by_cases EA:(j:Int)=(i:Int)
        · exact⟨p,if_pos EA⟩
        · have oX:cG (ku y.c.ws i true) y.c.n (j:Int)=true:=hj
          rw[jl iJ.2.1 dJ,if_neg EA]at oX
          obtain⟨p',tx⟩:=mf.pf j oX
          exact⟨p',(if_neg EA).trans tx⟩⟩,fun c hc=>by
    rcases gp c hc with hc|rfl
    · exact Lb.tS c hc
    · exact m9,fun c hc=>by
    rcases gp c hc with hc|rfl
    · exact Lb.Dw c hc
    · exact acG,by rw[Gk];exact h.dt.nd⟩
  have rU:yH ((L++[bS y.x.d i p]).foldl cY []) ((dE ts).set q (y.c.put i p)):=by
    rw[wH,yR _ _ ag qg]
    exact h.told.piece h.dt.nd T6 (i:=i) dJ ae7
  rcases Ee m1 Lb hd1 m8 (N5.same h.sb m4) (N4.same h.ss m4) m10 hj h.lb (zt _ _ ag p qg) hL (fun c hc=>by rw[m11];rcases gp c hc with hc|rfl;exact h.bg c hc;exact h.bg y.c VC) (fun c hc=>by rcases gp c hc with hc|rfl;exact h.kd c hc;exact h.kd y.c VC) (p7.of h.told h.dt.cL h.kd h.dt.nd Gd) rU hle hR with⟨rfl,hpu⟩|⟨h0,hb,K3⟩
  · rcases Ba with⟨h1,_⟩|⟨_,rfl⟩
    · exact absurd rfl h1
    have kP:dE (ts.set q (y.put i p))=(dE ts).set q (y.c.put i p):=Uy ts q (y.put i p)
    rw[kP]
    refine .inl ⟨rfl,_,hpu,by simp,hle,fun _=>⟨ag,y.c.put i p,List.mem_of_getElem? (List.getElem?_set_self ((List.getElem?_eq_some_iff.1 T6).1)),rfl,?_⟩⟩
    show cG (ku y.ws i true) y.n (i:Int)=true
    rw[jl (show y.n≤y.ws.length*64 from iJ.2.1) dJ,if_pos rfl]
  · rcases Ba with⟨_,rfl⟩|⟨h1,_⟩
    · exact .inr ⟨hb,h0,rfl,K3⟩
    · exact absurd h1 h0
theorem Fq(hm:isName nm=true)(h:gL nm A e B):e=0∨e=4∨e=6∨e=7:=by
 unfold gL at h
 rw[hm]at h
 have hf:=rL A nm
 unfold Ab.remove at h
 grind
theorem Fp{o:ByteArray}(h1:isName o=true)(h2:isName nm=true)(h:iN o nm A e B):e=0∨e=4∨e=6∨e=7:=by
 unfold iN at h
 have hm:([o,nm].all isName)=true:=by simp[h1,h2]
 rw[hm]at h
 have hf:=rL A o
 unfold Ab.rename at h
 grind
structure OvS(k:List Dg)(x t:fg)(d:Dg)(e:Nat):Prop where
 di:nk k t.A
 kept:Kept x.A t.A (vd d)
 code:e=0∨e=8∨dR e=true
 ok:(e=0∨e=8)→t.brk=false∧N5 t.A∧N4 t.A∧sc t.A∧t.bz=qL x.bz d
def FT{x:fg}{b:Bl}(hb:x.brk=false)(h:lf x b≠0):dR (lf x b)=true:=by
 unfold lf at h ⊢
 rw[hb]at h ⊢
 simp only[Bool.false_eq_true,if_false]at h ⊢
 split at h
 ·exact absurd rfl h
 ·rename_i ho
  rw[if_neg ho];rfl
theorem D2(h:dR e=true):e≠0∧e≠8:=by
 unfold dR at h
 grind
def PU.yY{b:Bl}{t:fg}(h:PU k x T L)(hR:iq b x.1 e t):OvS k x.1 t b.d e∧e≠8:=by
 unfold iq at hR
 split at hR
 ·rename_i lZ
  obtain⟨rfl,rfl⟩:=hR
  have jj:=FT h.brk lZ
  exact⟨⟨h.di,Kept.eqv (r'.refl _) _,.inr (.inr jj),fun h0=>by have:=D2 jj;omega⟩,(D2 jj).2⟩
 rename_i lZ
 obtain⟨s1,⟨B,⟨e2,A2,hr,cX⟩,rfl⟩,rfl⟩:=hR
 have hBA:B=A2∧e=e2:=by
  rcases cX with⟨_,h2,h3⟩|⟨h2,h3,h4⟩
  ·exact⟨h3,h2⟩
  ·exact⟨h4,h3.trans h2.symm⟩
 obtain⟨rfl,rfl⟩:=hBA
 have Gs:=Fq (jg b) hr
 obtain⟨r1,r2,r3,r4,r5⟩:=h.di.remove hr
 have hk:Kept x.1.A B (vd b.d):=⟨fun a P hx=>r2 a P fun e=>hx (.inl e),fun a _=>r3 a⟩
 have hA:(if e≠0 then(⟨B,x.1.bz,x.1.brk || decide (e≠0)⟩:fg)else⟨B,qL x.1.bz b.d,x.1.brk || decide (e≠0)⟩).A=B:=by split <;> rfl
 refine⟨⟨by rw[hA];exact r1,by rw[hA];exact hk,?_,fun h0=>?_⟩,ag⟩
 ·by_cases h0:e=0
  ·exact .inl h0
  ·exact .inr (.inr (jM h0 ag))
 ·have h0:e=0:=by omega
  subst h0
  obtain⟨q1,q2,q3,q4,q5⟩:=r5 rfl
  refine⟨by simp[h.brk],?_,?_,by rw[if_neg (by simp)];exact q5 h.cln,by rw[if_neg (by simp)]⟩
  ·intro st bP d
   rw[if_neg (by simp)]at bP ⊢
   rcases q4 st bP with h5|h5
   ·rw[h.sb st h5 d]
    show _=B.look (og d)
    rw[q2,if_neg (fun e=>dQ _ _ e.symm)]
   ·rw[h5];rfl
  ·intro d f hf st bP
   rw[if_neg (by simp)]at hf bP
   have zW:B.look (js d)=some f:=hf
   rcases q4 st bP with h5|h5
   ·rw[q2]at zW
    split at zW
    ·cases zW
    ·exact h.ss d f zW st h5
   ·rw[h5];exact zW
def xl{x:Bl}(h:jz x b=true):(b.length:Int)=x.size∧dW b=x.d:=by
 unfold jz at h
 have h1:=of_decide_eq_true h
 obtain⟨_,h2,_⟩:=nO h1
 refine⟨h2.symm,?_⟩
 unfold gg at h1
 cases hl:de b x.piece with
 | none=>rw[hl]at h1;cases h1
 | some l =>
  rw[hl]at h1
  injection h1 with h1
  rw[← h1]
def PU.C7{c:TC}{t:fg}(h:PU k x T L)(hc:c∈T)(hR:fC c.x x.1 e t):OvS k x.1 t c.x.d e:=by
 unfold fC at hR
 split at hR
 ·rename_i lZ
  obtain⟨rfl,rfl⟩:=hR
  have jj:=FT h.brk lZ
  exact⟨h.di,Kept.eqv (r'.refl _) _,.inr (.inr jj),fun h0=>by have:=D2 jj;omega⟩
 split at hR
 ·obtain⟨e1,hA,rfl⟩:=hR
  obtain⟨o,o8⟩:=h.yY hA
  by_cases h0:e1=0
  ·rw[if_neg ag]
   exact⟨o.di,o.kept,.inr (.inl rfl),fun _=>o.ok (.inl h0)⟩
  ·rw[if_pos h0]
   exact⟨o.di,o.kept,o.code,o.ok⟩
 rename_i hw
 have mf:=h.dt.cL c hc
 obtain⟨f,Vz,Vy⟩:=h.dt.tS c hc
 have l9:x.1.A.look (js c.x.d)=some f:=Vz _ h.di.mem
 have Zh:jz c.x (x.1.A.now f)=true:=by
  have lg:jz c.x ((eN x.1.A (js c.x.d)).getD [])=true:=by
   have:¬jz c.x ((eN x.1.A (fS c.x)).getD [])=false:=hw
   exact(Bool.not_eq_false _).mp this
  unfold eN at lg
  rw[l9]at lg
  simp only at lg
  split at lg
  ·have:=(xl lg).1
   have:=dY mf.r
   simp only[Option.getD_none,List.length_nil]at *
   omega
  ·exact lg
 obtain⟨eW,hws⟩:=xl Zh
 have iY:=mf.s
 obtain⟨s1,⟨B,⟨e2,A2,hsy,cX⟩,rfl⟩,rfl⟩:=hR
 have hA:(if e≠0 then(⟨B,x.1.bz,x.1.brk || decide (e≠0)⟩:fg)else⟨B,qL x.1.bz c.x.d,x.1.brk || decide (e≠0)⟩).A=B:=by split <;> rfl
 have aff:=rp (jg c.x) hsy
 obtain⟨a1,a2,a3,a4,a5,a6⟩:=h.di.sync hsy
 have hkA:Kept x.1.A A2 (vd c.x.d):=a2.mono fun _ h=>h.elim
 have fin:∀e',e=e'→e'≠0→(e'=0∨e'=3∨e'=4∨e'=6∨e'=7)→nk k B→Kept x.1.A B (vd c.x.d)→OvS k x.1 (if e≠0 then(⟨B,x.1.bz,x.1.brk || decide (e≠0)⟩:fg)else⟨B,qL x.1.bz c.x.d,x.1.brk || decide (e≠0)⟩) c.x.d e:=fun e' he h0 hcd hd hk=>by
  subst he
  have jj:=jM h0 hcd
  exact⟨by rw[hA];exact hd,by rw[hA];exact hk,.inr (.inr jj),fun h1=>by have:=D2 jj;omega⟩
 rcases cX with⟨h0,he,rfl⟩|⟨rfl,e3,A3,hrn,cX⟩
 ·exact fin e2 he h0 ag a1 hkA
 obtain⟨f2,b1,b2,b3⟩:=a6 rfl
 obtain rfl:f2=f:=Option.some.inj (b1.symm.trans l9)
 have aeQ:A2.look (js c.x.d)=some f2:=by unfold Ab.look;rw[a3];exact l9
 have hnb:A2.look (og c.x.d)=none:=by
  unfold Ab.look
  rw[a3]
  exact h.dt.Dw c hc _ h.di.mem
 have Z8:=Fp (jg c.x) (MW c.x) hrn
 obtain⟨r1,r2,r3,r4⟩:=a1.rename (.inr (.inr ⟨c.x.d,h.kd c hc,rfl⟩)) (dQ _ _) hnb (fun g hg w hw=>by
  obtain rfl:f2=g:=Option.some.inj (aeQ.symm.trans hg)
  rw[b3 w hw]
  refine⟨fun d hd=>by rw[hws];exact yy hd,?_⟩
  rw[if_neg (nM _)]
  omega) hrn
 have hkR:Kept x.1.A A3 (vd c.x.d):=hkA.trans (r2.mono fun a ha=>ha)
 rcases cX with⟨h0,he,rfl⟩|⟨rfl,e4,A4,H4,cX⟩
 ·exact fin e3 he h0 ag r1 hkR
 have afe:=ql H4
 have afh:sc A2:=a5 rfl fun g hg _=>h.cln g hg
 have afg:sc A3:=by obtain⟨_,_,_,ki⟩:=r4 rfl;exact ki afh
 obtain⟨n1,n2,n3,n4⟩:=r1.cp afg H4
 have hkN:Kept x.1.A A4 (vd c.x.d):=hkR.trans (n2.mono fun _ h=>h.elim)
 rcases cX with⟨h0,he,rfl⟩|⟨rfl,rfl,rfl⟩
 ·exact fin e4 he h0 ag n1 hkN
 obtain⟨q1,q2,_,q4⟩:=n4 rfl
 have bP:B.aj=[B.names]:=by rw[q1,q2]
 exact⟨n1,hkN,.inl rfl,fun _=>⟨by simp[h.brk],N5.one bP,N4.one bP,q4,rfl⟩⟩
def PU.over{u:SJ}{ts:List Tk}{e':Nat}(h:PU k x (dE ts) L)(hL:L.length≤69)(ho:OvS k x.1 u.1 d e)(hj:u.2=x.2) :
  PB k (L.length+1) u.1.A (v7 (dE ts) d)∧((e=0∨e=8)→gi (iQ (Af d)) u e' t→(e'=0∧PU k t (dE (sg ts d)) (L++[Af d]))∨(e'≠0∧dR e'=true∧PB k (L.length+1) t.1.A (v7 (dE ts) d))):=by
 have dU:(v7 (dE ts) d).Sublist (dE ts):=List.filter_sublist
 have df:∀c∈v7 (dE ts) d,c.x.d≠d:=fun c hc=>by
  have:=(List.mem_filter.1 hc).2
  simpa using this
 have Lb:vF u.1.A (v7 (dE ts) d):=(h.dt.sub dU).kept ho.kept fun c hc=>RA (df c hc)
 have ht0:p7 k (v7 (dE ts) d) L:=p7.of h.told h.dt.cL h.kd h.dt.nd fun c hc=>⟨c,dU.subset hc,xd.refl c⟩
 have uL:=JnL.kept (x:=x) (y:=u) (L:=L) h.jn ho.kept (CC d) hj
 refine⟨⟨ho.di,Lb,?_⟩,fun h0 hR=>?_⟩
 ·have K3:=(h.pb (Nat.le_succ _) ag).jn
  refine(ho.kept.tS _ _ (CC d) K3).imp fun w hw=>⟨hw.1,hw.2.1,?_⟩
  obtain⟨T0,h1,h2,h3,h4⟩:=hw.2.2
  exact⟨T0,h1,h2,h3,fun c hc=>h4 c (dU.subset hc)⟩
 ·obtain⟨o1,o2,o3,o4,o5⟩:=ho.ok h0
  have rU:yH ((L++[Af d]).foldl cY []) (v7 (dE ts) d):=by
   rw[wH,Pg]
   exact h.told.rm d
  rcases Ee ho.di Lb Lb o1 o2 o3 o4 uL h.lb (Rp d) hL (fun c hc=>by rw[o5,NL,if_neg (df c hc)];exact h.bg c (dU.subset hc)) (fun c hc=>h.kd c (dU.subset hc)) ht0 rU (fun c hc=>⟨c,hc,xd.refl c⟩) hR with⟨h1,hp⟩|⟨h1,hb,hp⟩
  ·exact .inl ⟨h1,by rw[Am];exact hp⟩
  ·exact .inr ⟨h1,hb,hp⟩
def Fo{T:List TC}{b:Bl}(hn:(T.map fun c=>c.x.d).Nodup)(hb:∃c∈T,c.x=b):∀c∈T,c.x≠b→c∈v7 T b.d:=fun c hc df=>by
 refine List.mem_filter.2 ⟨hc,?_⟩
 obtain⟨y,hy,rfl⟩:=hb
 have:c.x.d≠y.x.d:=fun e=>by
  obtain⟨i,hi⟩:=List.mem_iff_getElem?.1 hc
  obtain⟨j,hj⟩:=List.mem_iff_getElem?.1 hy
  have d1:(T.map fun c=>c.x.d)[i]?=some c.x.d:=by rw[List.getElem?_map,hi];rfl
  have d2:(T.map fun c=>c.x.d)[j]?=some y.x.d:=by rw[List.getElem?_map,hj];rfl
  have DG:=(List.getElem?_inj (j:=j) ((List.getElem?_eq_some_iff.1 d1).1) hn).1 (by rw[d1,d2,e])
  subst DG
  rw[hi]at hj
  injection hj with hj
  exact df (by rw[hj])
 simpa using this
def PU.finish{ts ts':List Tk}{b:Bl}{r:Int}(h:PU k x (dE ts) L)(hL:L.length≤69)(hR:UY b ts x false r ts' iZ t) :
  (iZ=false∧∃L',PU k t (dE ts') L'∧L'.length≤L.length+1∧∀c∈dE ts,c.x≠b→c∈dE ts')∨(iZ=true∧∃T,PB k (L.length+1) t.1.A T∧∀c∈dE ts,c.x≠b→c∈T):=by
 rcases hR with⟨h1,_⟩|⟨_,_,_,rfl,rfl,rfl⟩|⟨_,y,hf,hc⟩
 ·cases h1
 ·exact .inl ⟨rfl,L,h,ag,fun c hc _=>hc⟩
 rcases hc with⟨_,_,rfl,rfl,rfl⟩|⟨_,e,u,⟨hI,hj⟩,hc⟩
 ·exact .inl ⟨rfl,L,h,ag,fun c hc _=>hc⟩
 obtain⟨q,hq,rfl⟩:=j5 hf
 have wu:y.c∈dE ts:=List.mem_map.2 ⟨y,List.mem_of_getElem? hq,rfl⟩
 have ho:=h.C7 wu hI
 have uK:=Fo h.dt.nd ⟨y.c,wu,rfl⟩
 obtain⟨o1,_⟩:=h.over (e':=0) (t:=u) hL ho hj
 rcases hc with⟨h0,h8,_,rfl,rfl,rfl⟩|⟨h08,e',_,rfl,rfl,cX⟩
 ·have jj:dR e=true:=by rcases ho.code with h|h|h;exact absurd h h0;exact absurd h h8;exact h
  exact .inr ⟨jj,_,o1,uK⟩
 obtain⟨_,o2⟩:=h.over (e':=e') (t:=t) hL ho hj
 rcases o2 h08 cX with⟨rfl,hp⟩|⟨h1,hb,hp⟩
 ·rw[if_pos rfl]
  exact .inl ⟨rfl,_,hp,by simp,fun c hc df=>by rw[Am];exact uK c hc df⟩
 ·exact .inr ⟨hb,_,hp,uK⟩
def PU.abort{u:SJ}{ts:List Tk}{b:Bl}(h:PU k x (dE ts) L)(hL:L.length≤69)(hf:(fH ts b).isSome=true)(hA:dx (iq b) x e u) :
  (e≠0→dR e=true∧∃T,PB k (L.length+1) u.1.A T∧∀c∈dE ts,c.x≠b→c∈T) ∧
  (e=0→∀e' t,gi (iQ (Af b.d)) u e' t→(e'=0∧∃L',PU k t (dE (sg ts b.d)) L'∧L'.length≤L.length+1∧∀c∈dE ts,c.x≠b→c∈dE (sg ts b.d))∨(e'≠0∧dR e'=true∧∃T,PB k (L.length+1) t.1.A T∧∀c∈dE ts,c.x≠b→c∈T)):=by
 obtain⟨y,hy⟩:=Option.isSome_iff_exists.1 hf
 obtain⟨q,hq,rfl⟩:=j5 hy
 have wu:y.c∈dE ts:=List.mem_map.2 ⟨y,List.mem_of_getElem? hq,rfl⟩
 obtain⟨ho,h8⟩:=h.yY hA.1
 have uK:=Fo h.dt.nd ⟨y.c,wu,rfl⟩
 obtain⟨o1,_⟩:=h.over (e':=0) (t:=u) hL ho hA.2
 refine⟨fun h0=>⟨by rcases ho.code with h|h|h;exact absurd h h0;exact absurd h h8;exact h,_,o1,uK⟩,fun h0 e' t cX=>?_⟩
 obtain⟨_,o2⟩:=h.over (e':=e') (t:=t) hL ho hA.2
 rcases o2 (.inl h0) cX with⟨h1,hp⟩|⟨h1,hb,hp⟩
 ·exact .inl ⟨h1,_,hp,by simp,fun c hc df=>by rw[Am];exact uK c hc df⟩
 ·exact .inr ⟨h1,hb,_,hp,uK⟩
end Go.Proofs.YthnfckodljbgbaaGreatDoor
