import Derived.Test.YtlcoaflddajjcaaGreatDoorQNF1
import Derived.Test.YtlcoaflddajjcaaGreatDoorQNF3
import Derived.Test.YtlcoaflddajjcaaGreatDoorQNF5
import Derived.Test.YtlcoaflddajjcaaGreatDoorQNF6
import Derived.Test.YtlcoaflddajjcaaGreatDoorQNF7
import Derived.Test.YtlcoaflddajjcaaGreatDoorQNF9
import Derived.Test.YtlcoaflddajjcaaGreatDoorQNF10
import Derived.Test.YtlcoaflddajjcaaGreatDoorQNF11
import Derived.Shelf.SlLaysNS
import Derived.Test.YtlcoaflddajjcaaGreatDoorChecked
set_option linter.unusedSimpArgs false
set_option linter.unusedVariables false
set_option maxHeartbeats 4000000
set_option maxRecDepth 20000
set_option linter.defProp false
namespace Go.Proofs.YtlcoaflddajjcaaGreatDoor
open Go Go.SL
def Bm.aeq{M:Rws}{ls:List (List UInt8)}(h:Bm M ls){A:HP}{cs:List Value}{ls2:List (List UInt8)}(hl:cs.length=ls2.length)(hx:∀(i:Nat) (x:List UInt8),ls2[i]?=some x→∃cv,cs[i]?=some cv∧ew A cv x):Bm ⟨M.cs++cs,Sep [A,M.Z]⟩ (ls++ls2):=by
 obtain⟨h1,h2⟩:=h
 refine⟨by simp[h1,hl],fun i y hy=>?_⟩
 rw[List.getElem?_append]at hy ⊢
 rw[h1]
 split at hy
 ·rename_i cL
  rw[if_pos cL]
  obtain⟨cv',h3,h4⟩:=h2 i y hy
  exact⟨cv',h3,h4.mono (bn (i:=1) rfl)⟩
 ·rename_i ep
  rw[if_neg ep]
  obtain⟨cv',h3,h4⟩:=hx _ y hy
  exact⟨cv',h3,h4.mono (bn (i:=0) rfl)⟩
attribute [local irreducible] J K au Ends ae aB aI bB aW aS a7 aX bF aC da uq
theorem Ki(X:HP)(hK:pY X)(bs bd:Nat)(q:Int)(hq:0≤q∧q≤1073741824)(mb:Nat)(s:ml)(M6:py s.cq)(uC:s.cq.length≤900000)(dK:s.A.aV.length≤700000000)(ir:s.A.writes.length≤700000000)(sM:(jT s.A gm).length≤900000)(PA:∀x∈jT s.A gm,x.length≤1000000)(uz:((jT s.A gm).foldl fM []).length≤100) :
    au Tryz.prog 25 [ptr bd,ptr bs] (jo bs bd q mb s++[X])
    (fun r H=>∃(e:Nat) (t:ml) (jn:JN) (cs:List TC),Bp q s e t jn cs∧((e≠0∧r = .tuple #[.pointer none,.int .i64 (e:Int)]∧H=jo bs bd q mb t++[X])∨(e=0∧∃tb jb tv ts,kO ts=cs∧r = .tuple #[ptr tb,.int .i64 0]∧H=fq tb bs jb tv ts false++[da bs bd jb q mb [] (t,jn),X]))):=by
  obtain⟨A,cq,brk⟩:=s
  have ML:=NK bd gm A (by decide) (by simp only at dK;omega) (by simp only at ir;omega)
  have hpn:gm=⟨#[112,105,101,99,101,115]⟩:=rfl
  simp only at M6 uC dK ir sM uz PA
  refine au.ak Tryz.func25 Tryz.ntmps25 fun G F R hE=>?_
  refine go ?_
  refine aF ML ?_
  rintro _ _⟨e1,A1,j1,hO,⟨Q0,rfl,rfl⟩|⟨rfl,jb,lv,rfl,rfl⟩⟩
  · refine go ?_
    refine aq zr zr ?_ ?_
    case' refine_2=>(intro h;exfalso;omega)
    intro _
    refine go ?_
    ((refine ad hE Tryz.func25 zr zr ⟨e1,⟨A1,cq,brk⟩,j1,[],⟨e1,A1,j1,hO,by rw[if_pos Q0];exact⟨rfl,rfl⟩⟩,.inl ⟨Q0,rfl,rfl⟩⟩))
  have hog:=xF hO
  obtain⟨ls,hls⟩:∃ls,ls=jT A gm:=⟨_,rfl⟩
  rw[← hpn,← hls]
  rw[← hls]at sM PA uz
  refine oe ?_
  refine gG rfl ?_
  refine al (H':=uq lv ls::aC bd A1::kx jb bd gm j1::ae bs (cl (dg bd q mb brk) 146)::aI dV mb (du cq)::X::F) (by rw[hpn];exact ag) ?_
  refine cX (Fh lv ls) ?_
  rintro⟨cs,M⟩ hRR
  refine Rf 0 hRR rfl ?_
  intro lz
  obtain⟨Z,hZ⟩:∃Z,Z=Sep [aB 22 1 lv ls.length cs,a7 5 M]:=⟨_,rfl⟩
  refine al (ao.bK [aB 22 1 lv ls.length cs,a7 5 M] _) ?_
  rw[← hZ]at lz ⊢
  obtain⟨cs,cW,mX,⟨la,lc,rfl,hlc⟩,qf⟩:=lz
  refine go ?_
  refine bu zr zr bh ?_
  intro tb
  refine go ?_
  refine al (ao.trans (bg 158 1 none _) (GK _)) ?_
  refine bj (fun y:Nat × List Tk × Value=>y.1≤ls.length∧kO y.2.1=(ls.take y.1).foldl fM []∧y.2.1.length≤y.1) (fun y=>ls.length-y.1)
    (fun y=>[(0,ptr bd),(1,ptr bs),(6,ptr jb),(9,ptr tb),(37,.slice la ls.length lc),(38,.int .i64 (ls.length:Int)),(39,.int .i64 (y.1:Int))])
    (fun y=>Z::ae tb (cl [ptr bs,ptr jb,y.2.2,.bool false] 156)::aB 158 1 y.2.2 y.2.1.length (y.2.1.map df)::bC y.2.1::aC bd A1::kx jb bd gm j1::ae bs (cl (dg bd q mb brk) 146)::aI dV mb (du cq)::X::F) (0,[],.slice none 0 0) ⟨Nat.zero_le _,rfl,Nat.le_refl _⟩ rfl bS ag ?_
  rintro⟨i,ts,tv⟩⟨hi,CW,adw⟩ ih
  simp only at hi CW adw
  dsimp only
  refine go ?_
  refine aq zr zr ?_ ?_
  · intro cL
    have dA:i<ls.length:=by omega
    obtain⟨x,hx⟩:∃x,ls[i]?=some x:=⟨ls[i],by simp⟩
    obtain⟨cv,qg,wO⟩:=qf i x hx
    have jl:ls.take (i+1)=ls.take i++[x]:=by rw[List.take_add_one,hx];rfl
    have nD:∀y∈ts,mR y.c:=fun y hy=>((vC (ls.take i)).1 y.c (by rw[← CW];exact List.mem_map.2 ⟨y,hy,rfl⟩)).1
    have abL:=Lc Z tb bs jb tv false ts cv x wO (by have:=PA x (List.mem_of_getElem? hx);omega) ai (fun y hy=>Nat.le_trans (nD y hy).1 ai) (fun y hy=>(nD y hy).2.1)
    obtain⟨bb,oo,cc,he⟩:=cW.some (by intro h;rw[h]at qg;cases qg)
    obtain⟨rfl,rfl⟩:=he
    refine go ?_
    refine bp i zr zr zr zr zr zr zr zr dA ?_
    refine aP ?_
    refine aQ 0 i zr zr zr cW rfl qg zr zr (go ?_)
    refine aF abL ?_
    rintro _ _⟨rfl,vB,qW,aeb,rfl⟩
    refine go ?_
    have aea:kO vB=(ls.take (i+1)).foldl fM []:=by rw[aeb,CW,jl,List.foldl_append];rfl
    have mW:vB.length≤i+1:=by
      grind [vC,HK]
    refine aM ih (i+1,vB,qW) rfl ⟨by simp only;omega,aea,mW⟩ ai bS ag
  intro ep
  have qY:i=ls.length:=by omega
  subst qY
  rw[List.take_length]at CW
  have htr:∀y∈ts,ND y.c:=fun y hy=>(vC ls).1 y.c (by rw[← CW];exact List.mem_map.2 ⟨y,hy,rfl⟩)
  have adx:ts.length≤100:=by rw[← HK,CW];exact uz
  refine al (ao.pick [2] rfl) ?_
  refine db 0 rfl ?_
  rintro ta tc rfl
  refine eh 0 rfl ?_
  intro hvt
  refine go ?_
  have aee:∀H,ao (H) (aB 158 1 (.slice none 0 0) 0 []::bC []::aB 22 1 (.slice none 0 0) 0 []::Sep []::H):=fun H=>ao.trans (ao.bK [] H) (ao.trans (bg 22 1 none _) (ao.trans (GK _) (bg 158 1 none _)))
  refine al (ao.pick [6,7,4,5,3,0,2,8] rfl) ?_
  refine al (xD bs bd jb q mb (⟨A1,cq,brk⟩,j1) _) ?_
  refine al (aee _) ?_
  refine bj (fun z:Nat × ml × List Tk × Value × List (List UInt8) × Rws × Option Addr × Nat=>z.1≤ts.length∧(∀e t cs rs,sj q (kO (ts.drop z.1)) z.2.1 (kO z.2.2.1) z.2.2.2.2.1 e t cs rs→sj q (kO ts) ⟨A1,cq,brk⟩ [] [] e t cs rs)∧(py z.2.1.cq∧z.2.1.cq.length≤cq.length+z.1)∧(z.2.1.A.aV.length≤A1.aV.length+2*z.1∧z.2.1.A.writes.length≤A1.writes.length+2*z.1)∧z.2.2.1.length≤z.1∧Bm z.2.2.2.2.2.1 z.2.2.2.2.1∧(∀x∈z.2.2.2.2.1,x.length≤760)∧z.2.2.2.2.1.length≤1025*z.1) (fun z=>ts.length-z.1)
    (fun z=>[(0,ptr bd),(1,ptr bs),(6,ptr jb),(9,ptr tb),(13,.slice z.2.2.2.2.2.2.1 z.2.2.2.2.2.1.cs.length z.2.2.2.2.2.2.2),(54,.slice ta ts.length tc),(55,.int .i64 (ts.length:Int)),(56,.int .i64 (z.1:Int))])
    (fun z=>aB 158 1 z.2.2.2.1 z.2.2.1.length (z.2.2.1.map df)::bC z.2.2.1::aB 22 1 (.slice z.2.2.2.2.2.2.1 z.2.2.2.2.2.1.cs.length z.2.2.2.2.2.2.2) z.2.2.2.2.2.1.cs.length z.2.2.2.2.2.1.cs::z.2.2.2.2.2.1.Z::da bs bd jb q mb [] (z.2.1,j1)::bC (ts.drop z.1)::aB 158 1 (.slice ta ts.length tc) ts.length (ts.map df)::ae tb (cl [ptr bs,ptr jb,z.2.2.2.1,.bool false] 156)::X::F) (0,⟨A1,cq,brk⟩,[],.slice none 0 0,[],⟨[],Sep []⟩,none,0) ⟨Nat.zero_le _,fun _ _ _ _ h=>h,⟨M6,by simp⟩,⟨by simp,by simp⟩,Nat.le_refl _,⟨rfl,fun i x h=>by cases h⟩,fun x h=>(by cases h),by simp⟩ rfl bS ag ?_
  rintro⟨i,s,us,uv,rs,M,oa,oc⟩⟨hi,hOL,⟨Jv,aeh⟩,⟨dL,adA⟩,adt,hM,Hg,adC⟩ ih
  simp only at hi hOL Jv aeh dL adA adt hM Hg adC
  have hMl:=hM.1
  refine go ?_
  refine aq zr zr ?_ ?_
  case' refine_2 =>
    intro ep
    have qY:i=ts.length:=by omega
    subst qY
    have j9:=hOL 0 s (kO us) rs (by rw[List.drop_length];exact⟨rfl,rfl,rfl,rfl⟩)
    refine al (ao.pick [2,3,4,0,1,7,8] rfl) ?_
    refine pk 0 rfl ?_
    intro fY
    refine eh 0 rfl ?_
    intro I'
    have lz:qN (Sep [aB 22 1 (.slice oa M.cs.length oc) M.cs.length M.cs,M.Z]) (.slice oa M.cs.length oc) rs:=by
      rw[hMl]at I' fY ⊢
      exact qN.ofP I' fY hMl hM.2
    have hfb:=wW rs (1025*100) Hg ai
    have hcm:=DW jb bd gm (by decide) s.A j1 _ _ rs lz ai ai ai ai
    refine al (ao.bK [aB 22 1 (.slice oa M.cs.length oc) M.cs.length M.cs,M.Z] _) ?_
    refine al (ao.pick [1] rfl) ?_
    refine al (Gb bs bd jb q mb (s,j1) _) (go ?_)
    refine aF hcm ?_
    rintro _ _⟨e3,A3,jn,rfl,rfl,hCR⟩
    have acz:Bp q ⟨A,cq,brk⟩ e3 ⟨A3,s.cq,s.brk⟩ jn (kO us):=⟨0,A1,j1,hO,by
      rw[if_neg ai]
      refine⟨0,s,rs,by rw[← hls];rw[CW]at j9;exact j9,?_⟩
      rw[if_neg ai]
      exact⟨A3,hCR,rfl⟩⟩
    by_cases he3:e3=0
    · subst he3
      refine go ?_
      refine al (ao.pick [3,4,0,1,7,5,6,8] rfl) ?_
      refine al (xD bs bd jb q mb (⟨A3,s.cq,s.brk⟩,jn) _) ?_
      refine ad hE Tryz.func25 zr zr ⟨0,⟨A3,s.cq,s.brk⟩,jn,kO us,acz,.inr ⟨rfl,tb,jb,uv,us,rfl,rfl,rfl⟩⟩
    · refine go ?_
      refine aq zr zr ?_ ?_
      case' refine_2=>(intro h;exfalso;omega)
      intro _
      refine go ?_
      refine ad hE Tryz.func25 zr zr ⟨e3,⟨A3,s.cq,s.brk⟩,jn,kO us,acz,.inl ⟨he3,rfl,rfl⟩⟩
  intro cL
  have dA:i<ts.length:=by omega
  obtain⟨y,hy⟩:∃y,ts[i]?=some y:=⟨ts[i],by simp⟩
  have hyr:=htr y (List.mem_of_getElem? hy)
  have KF:=l4 (x:=y.x) hyr.2
  have iX:ts.drop i=y::ts.drop (i+1):=by
    obtain⟨h1,h2⟩:=List.getElem?_eq_some_iff.1 hy
    rw[List.drop_eq_getElem_cons h1,h2]
  have Zs:kO (ts.drop i)=y.c::kO (ts.drop (i+1)):=by rw[iX];rfl
  rw[Zs]at hOL
  have Je:=Aj [] (ts.drop (i+1)) y
  rw[← iX]at Je
  have aeg:=D5 bs bd q hq mb s y.x Jv ai ai
  obtain⟨bb9,oo9,cc9,he9⟩:=hvt.some (OA dA)
  obtain⟨rfl,rfl⟩:=he9
  refine al (ao.pick [5,6,4] rfl) ?_
  refine al (Je _) ?_
  refine cX (hD y) ?_
  rintro⟨wv,cs0,N⟩ hz
  have mL:∀H,ao (ae y.yb (cl (ri y) 163)::ae y.sb (cl [.int .i64 (y.n:Int),wv] 376)::aB 46 1 wv y.ws.length (qV y.ws)::aI (Value.int .i64) y.mb cs0::a7 32 N::H) (qa y::H):=fun H=>ao.trans (H2:=uW y (wv,cs0,N)++H) ag (jY hz _)
  refine al (ao.pick [7,0,1,2,3,4,6] rfl) ?_
  refine al (Gb bs bd jb q mb (s,j1) _) ?_
  refine al (ao.pick [9,4,5,6,7,8] rfl) (go ?_)
  refine bp i zr zr zr zr zr zr zr zr dA ?_
  refine aP ?_
  refine aQ 0 i zr zr zr hvt rfl (rh hy) zr zr (go ?_)
  refine bP (cs:=ck y.x) 1 zr zr zr zr zr zr (go ?_)
  refine aF aeg ?_
  rintro _ _⟨e1,s1,rfl,rfl,hBR⟩
  refine oe ?_
  refine gG rfl ?_
  have PH:=Jv.begin ai hyr.2 hBR
  have hgr:=uM hBR
  refine al (ao.trans (H2:=ae y.yb (cl (ri y) 163)::ae y.sb (cl [.int .i64 (y.n:Int),wv] 376)::aB 46 1 wv y.ws.length (qV y.ws)::aI (Value.int .i64) y.mb cs0::a7 32 N::aB 158 1 (.slice (some ⟨bb9,oo9,none⟩) ts.length tc) ts.length (ts.map df)::bC (ts.drop (i+1))::(jo bs bd q mb s1++(kx jb bd gm j1::aB 158 1 uv us.length (us.map df)::bC us::aB 22 1 (.slice oa M.cs.length oc) M.cs.length M.cs::M.Z::ae tb (cl [ptr bs,ptr jb,uv,.bool false] 156)::X::F))) ag (mL _)) ?_
  by_cases Hd:e1=5∨e1=11
  · have zu:∀e t cs GP,sj q (kO (ts.drop (i+1))) s1 (kO us) rs e t cs GP→sj q (kO ts) ⟨A1,cq,brk⟩ [] [] e t cs GP:=fun e t cs GP h=>hOL e t cs GP ⟨e1,s1,hBR,by rw[if_pos Hd];exact h⟩
    refine al (ao.trans ag (xD bs bd jb q mb (s1,j1) (bC (ts.drop (i+1))::aB 158 1 (.slice (some ⟨bb9,oo9,none⟩) ts.length tc) ts.length (ts.map df)::aB 158 1 uv us.length (us.map df)::bC us::aB 22 1 (.slice oa M.cs.length oc) M.cs.length M.cs::M.Z::ae tb (cl [ptr bs,ptr jb,uv,.bool false] 156)::X::F))) ?_
    rcases Hd with rfl|rfl
    all_goals(
      refine go ?_
      refine aM ih (i+1,s1,us,uv,rs,M,oa,oc) rfl ⟨by simp only;omega,zu,⟨PH.1,by simp only;have:=PH.2;omega⟩,⟨by simp only;have:=hgr.1;omega,by simp only;have:=hgr.2;omega⟩,by simp only;omega,hM,Hg,by simp only;omega⟩ (by simp only;omega) bS ag)
  by_cases sN:e1=0
  case neg =>
    have aey:=hOL e1 s1 [] [] ⟨e1,s1,hBR,by rw[if_neg Hd,if_pos sN];exact⟨rfl,rfl⟩⟩
    have acy:Bp q ⟨A,cq,brk⟩ e1 s1 j1 []:=by
      refine⟨0,A1,j1,hO,?_⟩
      grind
    refine go ?_
    refine aG 68 ((.bool false)) rfl ((congrArg Value.bool (decide_eq_false ai))) (go ?_)
    refine bq 71 ((.bool false)) rfl ((congrArg Value.bool (decide_eq_false ai))) (go ?_)
    refine aq zr zr ?_ ?_
    case' refine_2=>(intro h;exfalso;omega)
    intro _
    refine go ?_
    refine ad hE Tryz.func25 zr zr ⟨e1,s1,j1,[],acy,.inl ⟨sN,rfl,rfl⟩⟩
  subst sN
  refine acV 5 rfl ?_
  intro adE
  have hRd:∀nm at_ n,(s1.A.read nm at_ n).1.length≤1048576:=fun nm at_ n=>Ch s1.A adE nm at_ n
  obtain⟨wH,mW⟩:=Jg s1 y.c hyr
  have zu:∀e t cs GP,sj q (kO (ts.drop (i+1))) s1 (kO us++[(ki s1 y.c).1]) (rs++(ki s1 y.c).2) e t cs GP→sj q (kO ts) ⟨A1,cq,brk⟩ [] [] e t cs GP:=fun e t cs GP h=>hOL e t cs GP ⟨0,s1,hBR,by rw[if_neg Hd,if_neg ai];exact h⟩
  have ach:=fun tv=>MM X hK tb bs jb bd tv false q mb (s1,j1) hRd y hyr.1 ai ai
  refine al (ao.trans ag (xD bs bd jb q mb (s1,j1) (aB 158 1 uv us.length (us.map df)::ae tb (cl [ptr bs,ptr jb,uv,.bool false] 156)::qa y::X::aB 22 1 (.slice oa M.cs.length oc) M.cs.length M.cs::M.Z::aB 158 1 (.slice (some ⟨bb9,oo9,none⟩) ts.length tc) ts.length (ts.map df)::bC (ts.drop (i+1))::bC us::F))) ?_
  refine db 1 rfl ?_
  rintro ua uc rfl
  refine go ?_
  refine aj (cs:=[ptr y.yb]) zr zr zr zr zr zr zr zr zr bh ?_
  intro r1
  refine go ?_
  refine aJ (mm:=1) (news:=[ptr y.yb]) 2 0 rfl rfl rfl rfl rfl rfl rfl rfl rfl rfl rfl rfl (Vw.ae rfl) rfl (by intro v hv;simp at hv;rw[hv];rfl) ai (by show(_+_)*8≤_;omega) (fun _=>rfl) bh ?_
  intro v1
  refine aH 2 rfl ?_
  rintro va vc rfl
  refine go ?_
  refine aF (ach (.slice va (us.length+1) vc)) ?_
  rintro r9 _⟨y',Z2,adk,abG,ab4,rfl⟩
  obtain⟨KQ,pN,rQ,⟨ra,rc,rfl,Oi⟩,Zl⟩:=ab4
  simp only at abG pN rQ Zl Oi
  have CY:=hM.aeq rQ Zl
  have eM:∀v∈KQ,v.oneCell'=true:=fun v hv=>by
    obtain⟨j,hj,rfl⟩:=List.getElem_of_mem hv
    obtain⟨x,hx⟩:∃x,(ki s1 y.c).2[j]?=some x:=⟨(ki s1 y.c).2[j]' ai,by simp⟩
    obtain⟨cv,h1,h2⟩:=Zl j x hx
    obtain⟨_,_,rfl,_⟩:=h2.2
    rw[List.getElem?_eq_getElem hj]at h1
    injection h1 with h1
    rw[h1];rfl
  refine aN (H':=aB 22 1 (.slice oa M.cs.length oc) M.cs.length M.cs::Z2::ae tb (cl [ptr bs,ptr jb,.slice va (us.length+1) vc,.bool false] 156)::qa y'::da bs bd jb q mb [] (s1,j1)::X::M.Z::aB 158 1 (.slice (some ⟨bb9,oo9,none⟩) ts.length tc) ts.length (ts.map df)::bC (ts.drop (i+1))::bC us::aB 158 1 (.slice va (us.length+1) vc) (us.length+1) (us.map df++[ptr y.yb])::F) ag (go ?_)
  refine aJ (mm:=(ki s1 y.c).2.length) (news:=KQ) 0 1 zr zr zr zr zr zr zr zr zr zr zr zr pN (by show _=_*1;omega) eM ai (by show(_+_)*24≤_;omega) (fun _=>rfl) bh ?_
  intro v2
  refine aH 0 rfl ?_
  rintro wa wc rfl
  refine go ?_
  have Ps:us.map df++[ptr y.yb]=(us++[y']).map df:=by rw[← adk];simp[df]
  have uB:us.length+1=(us++[y']).length:=by simp
  have acu:(M.cs++KQ).length=M.cs.length+(ki s1 y.c).2.length:=by rw[List.length_append,rQ]
  have tB:=sT us [] y'
  rw[List.append_nil]at tB
  rw[Ps,uB]
  refine al (H':=qa y'::bC us::Z2::M.Z::aB 22 1 (.slice wa (M.cs++KQ).length wc) (M.cs++KQ).length (M.cs++KQ)::da bs bd jb q mb [] (s1,j1)::X::aB 158 1 (.slice (some ⟨bb9,oo9,none⟩) ts.length tc) ts.length (ts.map df)::bC (ts.drop (i+1))::aB 158 1 (.slice va (us++[y']).length vc) (us++[y']).length ((us++[y']).map df)::ae tb (cl [ptr bs,ptr jb,.slice va (us++[y']).length vc,.bool false] 156)::F) (by rw[acu];exact ag) ?_
  refine al (tB _) ?_
  refine al (ao.pick [1,2] rfl) ?_
  refine al (ao.bK [Z2,M.Z] _) ?_
  have hcu:kO (us++[y'])=kO us++[(ki s1 y.c).1]:=by rw[HL,abG]
  rw[← hcu]at zu
  refine bq 13 ((.slice wa (M.cs++KQ).length wc)) rfl ((by rw[acu])) ?_
  refine aM ih (i+1,s1,us++[y'],.slice va (us++[y']).length vc,rs++(ki s1 y.c).2,⟨M.cs++KQ,Sep [Z2,M.Z]⟩,wa,wc) rfl ⟨by simp only;omega,zu,⟨PH.1,by simp only;have:=PH.2;omega⟩,⟨by simp only;have:=hgr.1;omega,by simp only;have:=hgr.2;omega⟩,by simp only[List.length_append,List.length_singleton];omega,CY,(fun x hx=>by
    rcases List.mem_append.1 hx with h|h
    · exact Hg x h
    · exact wH x h),by simp only[List.length_append];omega⟩ (by simp only;omega) bS ag
end Go.Proofs.YtlcoaflddajjcaaGreatDoor
namespace Go.Proofs.YtlcoaflddajjcaaGreatDoor
open Go Go.SL
def NA(q:Int)(A:Ab)(e:Nat)(t:SJ)(cs:List TC):Prop :=
 ∃e1 B,pg A e1 B∧if e1≠0 then e=e1 else ∃s jn,Bp q ⟨B,[],false⟩ e s jn cs∧t=(s,jn)
attribute [local irreducible] J K au Ends ae aB aI bB aW aS a7 aX bF aC da uq
end Go.Proofs.YtlcoaflddajjcaaGreatDoor
namespace Go.Proofs.YtlcoaflddajjcaaGreatDoor
open Go Go.SL
variable{A:Ab}{q:Int}{e:Nat}{t:SJ}
theorem GC(h:A.names=[]):vw A=fun _=>none:=by
 funext n
 unfold vw Ab.look Ab.dy
 rw[h];rfl
theorem FM{nm:ByteArray}(h:HA A)(hv:vw A nm=none):jT A nm=[]:=by
 have Hl:A.look nm=none:=by
  unfold vw at hv
  cases hx:A.look nm with
  | none=>rfl
  | some f=>rw[hx]at hv;cases hv
 have u4:(A.read nm 0 (A.size nm).1).1=[]:=by
  unfold Ab.read
  grind
 unfold jT
 rw[u4]
 rfl
theorem pA:(cD []).length=32:=by unfold cD;simp[pO]
theorem J6{cs:List TC}(h:HA A)(hn:A.names=[])(hr:64≤A.room)(hR:NA q A e t cs) :
  e=0∧cs=[]∧HA t.1.A∧t.1.cq=[]∧t.1.brk=false∧vw t.1.A=kX (fun _=>none) gm (some (cD []))∧t.1.A.room=A.room∧t.2=⟨1,0,0,false⟩∧t.1.A.names.length=1∧t.1.A.used=32∧t.1.A.aV.length≤A.aV.length+14∧t.1.A.writes.length≤A.writes.length+14:=by
 obtain⟨e1,B,hO,hR⟩:=hR
 obtain⟨rfl,rfl⟩:=xE hn hO
 rw[if_neg ai]at hR
 obtain⟨s,jn,⟨e2,A1,j1,hO1,hR⟩,rfl⟩:=hR
 simp only at hO1 hR
 have mU:=GC hn
 have hu0:B.used=0:=by unfold Ab.used;rw[hn];rfl
 have Jr:=xF hO1
 obtain⟨rfl,k1,k2,k3,k4,k5⟩:=EV h wE uy AF (by rw[mU]) (by rw[mU]) (by rw[hn];simp) ai hO1
 rw[mU]at k2
 rw[if_neg ai,k5]at hR
 obtain⟨e3,s2,rs,⟨rfl,rfl,rfl,rfl⟩,hR⟩:=hR
 rw[if_neg ai]at hR
 obtain⟨A3,hC,rfl⟩:=hR
 simp only at hC
 subst k4
 unfold sD at hC
 rw[if_neg (by simp),if_neg (by simp),if_neg (by simp)]at hC
 obtain⟨y,hP,rfl,rfl⟩:=hC
 obtain⟨hu1,hn1⟩:=h.q4 k1 (k:=gm) (c:=cD []) (by rw[mU]) (by rw[k2,mU])
 have Hu:=zY hP
 simp only at Hu
 obtain⟨rfl,m1,m2,m3,m4⟩:=ID k1 wE uy AF (by rw[k2,kr _ _ AF]) (by rw[hn1,hn];simp) (by rw[pA];omega) (by rw[pA,hu1,k3,hu0,pA];omega) hP
 have sI:vw y.1=kX (fun _=>none) gm (some (cD [])):=by
  rw[m2,k2]
  funext m
  grind [kX]
 obtain⟨hu2,hn2⟩:=h.q4 m1 (k:=gm) (c:=cD []) (by rw[mU]) (by rw[sI,mU])
 grind [pA]
structure QD(t:SJ):Prop where
 ha:HA t.1.A
 cq:t.1.cq=[]
 brk:t.1.brk=false
 v:vw t.1.A=kX (fun _=>none) gm (some (cD []))
 st:t.1.A.aV.length≤100
 wr:t.1.A.writes.length≤100
 jn:t.2=⟨1,0,0,false⟩
def QD.new{room:Nat}{cs:List TC}(hr:64≤room)(hR:NA q (Ab.new room) e t cs):e=0∧cs=[]∧QD t:=by
 obtain⟨h1,h2,h3,h4,h5,h6,h7,h8,h9,h10,Q6,h12⟩:=J6 (HA.new room) rfl hr hR
 have e1:(Ab.new room).aV.length=1:=rfl
 have e2:(Ab.new room).writes.length=0:=rfl
 exact⟨h1,h2,h3,h4,h5,h6,ai,ai,h8⟩
def QD.noF(h:QD t){n:ByteArray}(hn:n≠gm):nZ t.1.A n=false:=by
 rw[PL,h.v,kr _ _ hn]
 rfl
def QD.image(h:QD t)(d:Dg)(hn:eS kI d≠gm):gf t.1.A d=none:=by
 have h1:=h.noF hn
 unfold nZ at h1
 unfold gf gg
 cases hl:t.1.A.look (eS kI d)with
 | none=>rfl
 | some f=>rw[hl]at h1;cases h1
def QD.YL(h:QD t)(hn:gT kI gm=none):lL t.1.A=[]:=by
 unfold lL
 rw[List.filterMap_eq_nil_iff]
 intro n hm
 have h1:=(Fe h.ha n).1 hm
 rw[h.v]at h1
 by_cases hp:n=gm
 ·rw[hp];exact hn
 ·rw[kr _ _ hp]at h1;cases h1
def QD.begin{x:Bl}{t':SJ}{vB:List Tk}{Oq:Bool}(h:QD t)(hr:bJ x=true)(hq:q<x.size)(hn:fB x≠gm)(hR:ac0 q x [] t false e vB Oq t'):e=11∧vB=[]∧Oq=false∧t'=t:=by
 rcases hR with⟨h1,_⟩|⟨_,h1,_⟩|⟨_,_,zy,hR,hts⟩
 ·cases h1
 ·simp at h1
 obtain⟨e1,s1,⟨hB,ZC⟩,hc⟩:=hR
 unfold e7 at hB
 have hu:(0:Int)≤nO t.1:=by
  unfold nO
  rw[h.cq]
  simp
 rw[h.brk,if_neg (by simp),hr,if_neg (by simp),h.cq,h.noF hn,if_neg (by simp[yz]),if_pos ai]at hB
 obtain⟨rfl,hs⟩:=hB
 have ht:s1=t:=Prod.ext hs ZC
 subst ht
 rcases hc with⟨_,rfl,rfl⟩|⟨h0,_⟩
 ·refine⟨rfl,?_,zy.trans rfl,rfl⟩
  rcases hts with⟨_,h1⟩|⟨h1,_⟩
  ·exact h1
  ·omega
 ·omega
def wrap_u64(x:Int):0≤IntKind.u64.wrap x∧IntKind.u64.wrap x<18446744073709551616:=by
 simp[IntKind.wrap,IntKind.bits,IntKind.signed]
 omega
def Ef(a b:Int):Int:=IntKind.u64.wrap ((BitVec.ofInt IntKind.u64.bits a ^^^ BitVec.ofInt IntKind.u64.bits b).toNat:Int)
def Eu(a:Int)(k:Int):Int:=a/2 ^ (min k.toNat IntKind.u64.bits)
def oG(z:Int):Int :=
 Ef (IntKind.u64.wrap (Ef (IntKind.u64.wrap (Ef z (Eu z 30)*13787848793156543929)) (Eu (IntKind.u64.wrap (Ef z (Eu z 30)*13787848793156543929)) 27)*10723151780598845931))
  (Eu (IntKind.u64.wrap (Ef (IntKind.u64.wrap (Ef z (Eu z 30)*13787848793156543929)) (Eu (IntKind.u64.wrap (Ef z (Eu z 30)*13787848793156543929)) 27)*10723151780598845931)) 31)
def gz(s:Int):Int:=IntKind.u64.wrap (s+11400714819323198485)
def nw(z:Int):0≤oG z∧oG z<18446744073709551616:=wrap_u64 _
def gW(x n:Nat):Nat:=(x/4294967296*n+x%4294967296*n/4294967296)/4294967296
def tM{x n:Nat}(hx:x<18446744073709551616)(hn:0<n):gW x n<n:=by
 unfold gW
 rw[Nat.div_lt_iff_lt_mul (by decide)]
 have h1:x/4294967296*n≤4294967295*n:=Nat.mul_le_mul_right n ai
 have h2:x%4294967296*n≤4294967295*n:=Nat.mul_le_mul_right n ai
 have h3:x%4294967296*n/4294967296<n:=by omega
 omega
def LY{x n:Nat}(hx:x<18446744073709551616)(hn:n<4294967296):x%4294967296*n<18446744073709551616∧x/4294967296*n<18446744073709551616-4294967296∧x/4294967296*n+x%4294967296*n/4294967296<18446744073709551616:=by
 have h1:x/4294967296*n≤4294967295*4294967295:=Nat.mul_le_mul ai ai
 have h2:x%4294967296*n≤4294967295*4294967295:=Nat.mul_le_mul ai ai
 omega
attribute [local irreducible] J K au Ends ae aB aI bB aW aS a7 aX bF
def Gg(a b:Nat)(ha:a<18446744073709551616)(hb:b<4294967296):au Tryz.prog 174 [.int .u64 (a:Int),.int .u64 (b:Int)] [] (fun r H=>(∃lo,r = .tuple #[.int .u64 ((gW a b:Nat):Int),.int .u64 lo])∧H=[]):=by
 obtain⟨p1,p2,p3⟩:=LY ha hb
 have hm:∀x:Nat,x<18446744073709551616→IntKind.u64.wrap ((BitVec.ofInt IntKind.u64.bits (x:Int) &&& BitVec.ofInt IntKind.u64.bits 4294967295).toNat:Int)=((x%4294967296:Nat):Int):=fun x hx=>by
  have:=sd x 32 ai ai
  rw[show((2 ^ 32-1:Nat):Int)=4294967295 from rfl,show x%2 ^ 32=x%4294967296 from rfl]at this
  exact this
 have hs:∀x:Nat,(x:Int)/2 ^ (min (Int.toNat 32) IntKind.u64.bits)=((x/4294967296:Nat):Int):=fun x=>by show(x:Int)/4294967296=_;omega
 refine au.ak Tryz.func174 Tryz.ntmps174 fun G F R hE=>?_
 refine go ?_
 refine aG 6 (.int .u64 ((a%4294967296:Nat):Int)) rfl (congrArg (Value.int .u64) (hm a ha)) ?_
 refine iI zr zr zr ai ?_
 refine aG 17 (.int .u64 ((a/4294967296:Nat):Int)) rfl (congrArg (Value.int .u64) (hs a)) (go ?_)
 refine aG 8 (.int .u64 (b:Int)) rfl (congrArg (Value.int .u64) ((hm b ai).trans (by rw[Nat.mod_eq_of_lt hb]))) ?_
 refine iI zr zr zr ai ?_
 refine aG 21 (.int .u64 0) rfl (congrArg (Value.int .u64) ((hs b).trans (by rw[Nat.div_eq_of_lt hb];rfl))) ?_
 refine go ?_
 refine eN zr zr zr (by rw[← Int.natCast_mul];simp only[fz];omega) ?_
 refine aG 24 (.int .u64 ((a%4294967296*b:Nat):Int)) rfl (by rw[Int.natCast_mul]) (go ?_)
 refine eN zr zr zr (by rw[← Int.natCast_mul];simp only[fz];omega) ?_
 refine aG 27 (.int .u64 ((a/4294967296*b:Nat):Int)) rfl (by rw[Int.natCast_mul]) (go ?_)
 refine iI zr zr zr ai ?_
 refine aG 29 (.int .u64 ((a%4294967296*b/4294967296:Nat):Int)) rfl (congrArg (Value.int .u64) (hs _)) ?_
 refine lU ?_
 refine DQ zr zr zr (by rw[← Int.natCast_add];simp only[fz];omega) ?_
 refine aG 30 (.int .u64 ((a/4294967296*b+a%4294967296*b/4294967296:Nat):Int)) rfl (by rw[Int.natCast_add]) (go ?_)
 refine aG 12 (.int .u64 (((a/4294967296*b+a%4294967296*b/4294967296)%4294967296:Nat):Int)) rfl (congrArg (Value.int .u64) (hm _ p3)) ?_
 refine iI zr zr zr ai ?_
 refine aG 34 (.int .u64 ((gW a b:Nat):Int)) rfl (congrArg (Value.int .u64) (hs _)) ?_
 have Hy:gW a b<4294967296:=by unfold gW;omega
 refine go ?_
 refine eN zr zr zr (by simp[fz]) ?_
 refine aG 38 (.int .u64 0) rfl (by simp) (go ?_)
 refine eN zr zr zr (by simp[fz]) ?_
 refine aG 42 (.int .u64 0) rfl (by simp) (go ?_)
 refine iI zr zr zr ai ?_
 refine aG 46 (.int .u64 0) rfl (congrArg (Value.int .u64) (by
  show(_+0:Int)/4294967296=0
  omega)) ?_
 refine go ?_
 refine Gm zr zr zr (go ?_)
 refine bq 4 ((.int .u64 ((gW a b:Nat):Int))) rfl ((congrArg (Value.int .u64) ai)) ?_
 refine ad hE Tryz.func174 zr zr ⟨⟨_,rfl⟩,rfl⟩
def lR(s:Int):au Tryz.prog 88 [.int .u64 s] [] (fun r H=>∃b,r=ptr b∧H=[ae b (cl [.int .u64 s] 293)]):=by
 refine au.ak Tryz.func88 Tryz.ntmps88 fun G F R hE=>?_
 refine go ?_
 refine bu zr zr bh ?_
 intro bx
 refine go ?_
 refine ad hE Tryz.func88 zr zr ⟨_,rfl,rfl⟩
def NO(b:Nat)(s:Int):au Tryz.prog 175 [ptr b] [ae b (cl [.int .u64 s] 293)] (fun r H=>r = .int .u64 (oG (gz s))∧H=[ae b (cl [.int .u64 (gz s)] 293)]):=by
 refine au.ak Tryz.func175 Tryz.ntmps175 fun G F R hE=>?_
 (repeat(first|refine er ?_|refine iI zr zr zr ai ?_|refine Gm zr zr zr ?_|refine Gr zr zr zr ?_))
 refine ad hE Tryz.func175 zr zr ⟨rfl,rfl⟩
def tX(b:Nat)(s:Int)(n:Nat)(hn:n<4294967296):au Tryz.prog 89 [ptr b,.int .u64 (n:Int)] [ae b (cl [.int .u64 s] 293)] (fun r H=>r = .int .u64 ((gW (oG (gz s)).toNat n:Nat):Int)∧H=[ae b (cl [.int .u64 (gz s)] 293)]):=by
 have hN:=NO b s
 have hr:=nw (gz s)
 obtain⟨x,hx⟩:∃x:Nat,oG (gz s)=(x:Int):=⟨(oG (gz s)).toNat,ai⟩
 rw[hx]at hN hr ⊢
 rw[Int.toNat_natCast]
 refine au.ak Tryz.func89 Tryz.ntmps89 fun G F R hE=>?_
 refine go ?_
 refine aw hN ?_
 refine go ?_
 refine aF (Gg x n ai hn) ?_
 rintro _ _⟨⟨lo,rfl⟩,rfl⟩
 refine go ?_
 refine ad hE Tryz.func89 zr zr ⟨rfl,rfl⟩
end Go.Proofs.YtlcoaflddajjcaaGreatDoor
namespace Go.Proofs.YtlcoaflddajjcaaGreatDoor
open Go Go.SL
def nP(l:List Int)(i k:Nat):List Int:=(l.set i (l.getD k 0)).set k (l.getD i 0)
def sV(l:List Int)(i k:Nat):(nP l i k).length=l.length:=by simp[nP]
def Eo{l:List Int}{i k:Nat}(hi:i<l.length)(hk:k<l.length):(nP l i k).Perm l:=by
 unfold nP
 rw[List.getD_eq_getElem?_getD,List.getD_eq_getElem?_getD,List.getElem?_eq_getElem hi,List.getElem?_eq_getElem hk,Option.getD_some,Option.getD_some]
 exact List.set_set_perm hi hk
def vN:Nat→Int→List Int→Int × List Int
 | 0,s,l=>(s,l)
 | i+1,s,l=>vN i (gz s) (nP l (i+1) (gW (oG (gz s)).toNat (i+2)))
def Dh(s:Int)(n:Nat)(h:0<n):gW (oG (gz s)).toNat n<n:=by
 have:=nw (gz s)
 exact tM ai h
def vM:∀(i:Nat) (s:Int) (l:List Int),i<l.length→(vN i s l).2.Perm l
 | 0,s,l,_=>List.Perm.refl _
 | i+1,s,l,h=>by
  rw[vN]
  have hk:=Dh s (i+2) ai
  exact(vM i _ _ (by rw[sV];omega)).trans (Eo h ai)
def lG(s:Int)(l:List Int):Int × List Int:=vN (l.length-1) s l
def Et(s:Int)(l:List Int):(lG s l).2.Perm l:=by
 unfold lG
 cases l with
 | nil=>exact List.Perm.refl _
 | cons x l=>exact vM _ _ _ (by simp)
attribute [local irreducible] J K au Ends ae aB aI bB aW aS a7 aX bF
def Dx(b:Nat)(s:Int)(A:HP)(v:Value)(l:List Int)(hv:Vw A v l.length (iV l))(hl:l.length≤1000000000) :
  au Tryz.prog 176 [ptr b,v] [ae b (cl [.int .u64 s] 293),A] (fun r H=>H=[aB 3 1 r (lG s l).2.length (iV (lG s l).2),ae b (cl [.int .u64 (lG s l).1] 293),A]):=by
 obtain⟨a,c,rfl⟩:=hv.shape
 refine au.ak Tryz.func176 Tryz.ntmps176 fun G F R hE=>?_
 refine go ?_
 refine aF (Kz A _ l hv ai) ?_
 rintro r _ rfl
 refine aH 0 rfl ?_
 rintro ra rc rfl
 refine go ?_
 ((refine bq 6 ((.int .i64 (if l.length=0 then -1 else((l.length-1:Nat):Int)))) rfl ((congrArg (Value.int .i64) (by split <;> omega))) ?_))
 refine bj (fun y:Nat × Int × List Int=>y.2.2.length=l.length∧(l.length=0→y.1=0)∧(0<l.length→y.1<l.length)∧vN y.1 y.2.1 y.2.2=lG s l) (fun y=>y.1)
  (fun y=>[(0,ptr b),(5,.slice ra l.length rc),(6,.int .i64 (if l.length=0 then -1 else(y.1:Int)))])
  (fun y=>aB 3 1 (.slice ra l.length rc) l.length (iV y.2.2)::ae b (cl [.int .u64 y.2.1] 293)::A::F) (l.length-1,s,l) ⟨rfl,by simp only;omega,by simp only;omega,rfl⟩ rfl bS ag ?_
 rintro⟨i,s1,l1⟩⟨wH,Ea,hi,hsh⟩ ih
 simp only at wH Ea hi hsh
 refine go ?_
 refine aq zr zr ?_ ?_
 case' refine_2 =>
  intro ep
  simp only at ep
  have hz:i=0:=by
   by_cases h:l.length=0
   ·exact Ea h
   ·rw[if_neg h]at ep;omega
  subst hz
  have hsh:lG s l=(s1,l1):=hsh.symm
  rw[hsh]at hE
  rw[← wH]
  refine go ?_
  refine aK hE Tryz.func176 rfl _ zr zr ag
 intro MZ
 simp only at MZ
 have fu:l.length≠0:=by intro h;rw[if_pos h]at MZ;omega
 rw[if_neg fu]at MZ ⊢
 obtain⟨i,rfl⟩:∃j,i=j+1:=⟨i-1,ai⟩
 have jL:=hi ai
 have hk:=Dh s1 (i+2) ai
 have hBe:=tX b s1 (i+2) ai
 obtain⟨k,hkd⟩:∃k,k=gW (oG (gz s1)).toNat (i+2):=⟨_,rfl⟩
 rw[← hkd]at hk hBe
 have abP:vN i (gz s1) (nP l1 (i+1) k)=lG s l:=by rw[← hsh,vN,hkd]
 obtain⟨x,hx⟩:∃x,l1[i+1]?=some x:=⟨l1[i+1]' ai,by simp⟩
 obtain⟨y,hy⟩:∃y,l1[k]?=some y:=⟨l1[k]' ai,by simp⟩
 have hsw:nP l1 (i+1) k=(l1.set (i+1) y).set k x:=by
  unfold nP
  rw[List.getD_eq_getElem?_getD,List.getD_eq_getElem?_getD,hx,hy];rfl
 refine go ?_
 ((refine aG 20 ((.int .u64 ((i+2:Nat):Int))) rfl ((congrArg (Value.int .u64) (by simp only;omega))) ?_))
 refine aw hBe ?_
 refine go ?_
 refine al (ao.pick [1] rfl) ?_
 refine eh 0 rfl ?_
 intro cW
 obtain⟨b3,o3,c3,He⟩:=cW.some (YK (l:=l1) (i:=i+1) ai)
 simp only[Value.slice.injEq,true_and]at He
 obtain⟨rfl,rfl⟩:=He
 refine aL (fun w=>Sat G w ([])) (cJ 0 7 (cJ 8 3 (.fork (.act 7 (.act 11 (.st 12 (.act 13 (.st 14 (.act 15 .nil)))))) (.act 11 (.act 7 (.st 12 (.act 13 (.st 14 (.act 15 .nil))))))))) rfl ah ah ah dv ?_
 refine go ?_
 refine bp k zr zr zr zr zr zr zr zr ai (go ?_)
 refine bp (i+1) zr zr zr zr zr zr zr zr ai ?_
 refine nM ?_ ?_
 ·refine go ?_
  refine aP ?_
  refine aQ 0 k zr zr zr cW rfl (jE hy) zr zr (go ?_)
  refine aP ?_
  refine aQ 0 (i+1) zr zr zr cW rfl (jE hx) zr zr (go ?_)
  refine bp (i+1) zr zr zr zr zr zr zr zr ai (go ?_)
  refine aY ?_
  refine gO (q:=i+1) 0 dv zr zr zr zr zr zr zr ai rfl (go ?_)
  refine bp k zr zr zr zr zr zr zr zr ai (go ?_)
  refine aY ?_
  refine gO (q:=k) 0 e8 zr zr zr zr zr zr zr ai rfl ?_
  rw[show((iV l1).set (i+1) (.int .i64 y)).set k (.int .i64 x)=iV (nP l1 (i+1) k)from by rw[hsw];simp[iV,List.map_set]]
  refine go ?_
  ((refine bq 6 ((.int .i64 (if l.length=0 then -1 else(i:Int)))) rfl ((congrArg (Value.int .i64) (by rw[if_neg fu];simp only;omega))) ?_))
  refine aM ih (i,gz s1,nP l1 (i+1) k) rfl ⟨by rw[sV];exact wH,fun h=>absurd h fu,fun _=>by simp only;omega,abP⟩ (by simp only;omega) bS ag
 ·refine go ?_
  refine aP ?_
  refine aQ 0 (i+1) zr zr zr cW rfl (jE hx) zr zr (go ?_)
  refine aP ?_
  refine aQ 0 k zr zr zr cW rfl (jE hy) zr zr (go ?_)
  refine bp (i+1) zr zr zr zr zr zr zr zr ai (go ?_)
  refine aY ?_
  refine gO (q:=i+1) 0 dv zr zr zr zr zr zr zr ai rfl (go ?_)
  refine bp k zr zr zr zr zr zr zr zr ai (go ?_)
  refine aY ?_
  refine gO (q:=k) 0 e8 zr zr zr zr zr zr zr ai rfl ?_
  rw[show((iV l1).set (i+1) (.int .i64 y)).set k (.int .i64 x)=iV (nP l1 (i+1) k)from by rw[hsw];simp[iV,List.map_set]]
  refine go ?_
  ((refine bq 6 ((.int .i64 (if l.length=0 then -1 else(i:Int)))) rfl ((congrArg (Value.int .i64) (by rw[if_neg fu];simp only;omega))) ?_))
  refine aM ih (i,gz s1,nP l1 (i+1) k) rfl ⟨by rw[sV];exact wH,fun h=>absurd h fu,fun _=>by simp only;omega,abP⟩ (by simp only;omega) bS ag
end Go.Proofs.YtlcoaflddajjcaaGreatDoor
namespace Go.Proofs.YtlcoaflddajjcaaGreatDoor
open Go Go.SL
def cdM(x:Mem):Int:=x.inc*4+x.st
def code(V:VM)(id:Int):Int:=match mO V.ks id with
 | some x=>cdM x
 | none=>0
def acN(l:List Mem)(id:Int):Int:=match l with
 | []=>0
 | m::l=>if m.id=id then max (cdM m) (acN l id)else acN l id
def hJ(l:List Int):List Int:=l.mergeSort fun x y=>decide (x≤y)
def fD(l:List Int):(hJ l).length=l.length:=List.length_mergeSort _
def pE(l:List Int):(hJ l).Perm l:=List.mergeSort_perm l _
def ue(l:List Int):(hJ l).Pairwise (·≤·):=by
 have:=List.pairwise_mergeSort (le:=fun x y:Int=>decide (x≤y)) (fun a b c h1 h2=>by simp at *;omega) (fun a b=>by simp;omega) l
 exact this.imp (by simp)
def GS{a b:List Int}(h:a.Perm b):hJ a=hJ b :=
 List.Perm.eq_of_pairwise (fun x y _ _ h1 h2=>Int.le_antisymm h1 h2) (ue a) (ue b) ((pE a).trans (h.trans (pE b).symm))
def C6(k:Int)(n:Nat):Nat:=(max 0 (min k (n:Int))).toNat
def qb(s:Int)(l:List Int)(k:Int):List Int:=(lG s l).2.take (C6 k l.length)
def pS(V:VM)(cj seed:Int):List Mem:=(qb seed (hJ (V.ks.map Mem.id)) cj).map (fun id=>(mO V.ks id).getD ⟨0,0,0,0⟩)++[V.self]
def y4(s:Int)(l:List Int):(lG s l).2.length=l.length:=(Et s l).length_eq
def tj(s:Int)(l:List Int)(k:Int):(qb s l k).length=C6 k l.length:=by
 unfold qb C6
 rw[List.length_take,y4];omega
end Go.Proofs.YtlcoaflddajjcaaGreatDoor
namespace Go.Proofs.YtlcoaflddajjcaaGreatDoor
open Go Go.Shelf
def y1:Go.Shelf.Ren:=⟨fun|53=>154|64=>265|63=>264|78=>359|79=>360|70=>350|71=>351|72=>352|73=>353|74=>354|75=>355|59=>356|76=>357|77=>358|88=>422|89=>423|90=>424|91=>425|92=>426|68=>365|96=>465|n=>n,fun|22=>53|23=>3|3=>3|51=>220|0=>0|67=>221|69=>46|4=>4|61=>449|60=>448|44=>127|5=>5|9=>9|75=>496|79=>499|83=>529|84=>530|n=>n,fun|n=>n⟩
def aby:Go.Proofs.SlLaysN.n53 Tryz.prog y1:={
  mixed:=by kernel_rfl,
  f53:=⟨Tryz.f154.name,by decide,Tryz.func154.trans (congrArg some (by kernel_rfl))⟩,
  f59:=⟨Tryz.f356.name,by decide,Tryz.func356.trans (congrArg some (by kernel_rfl))⟩,
  f63:=⟨Tryz.f264.name,by decide,Tryz.func264.trans (congrArg some (by kernel_rfl))⟩,
  f64:=Tryz.func265.trans (congrArg some (by kernel_rfl)),
  f68:=⟨Tryz.f365.name,by decide,Tryz.func365.trans (congrArg some (by kernel_rfl))⟩,
  f70:=⟨Tryz.f350.name,by decide,Tryz.func350.trans (congrArg some (by kernel_rfl))⟩,
  f71:=⟨Tryz.f351.name,by decide,Tryz.func351.trans (congrArg some (by kernel_rfl))⟩,
  f72:=⟨Tryz.f352.name,by decide,Tryz.func352.trans (congrArg some (by kernel_rfl))⟩,
  f73:=⟨Tryz.f353.name,by decide,Tryz.func353.trans (congrArg some (by kernel_rfl))⟩,
  f74:=⟨Tryz.f354.name,by decide,Tryz.func354.trans (congrArg some (by kernel_rfl))⟩,
  f75:=⟨Tryz.f355.name,by decide,Tryz.func355.trans (congrArg some (by kernel_rfl))⟩,
  f76:=⟨Tryz.f357.name,by decide,Tryz.func357.trans (congrArg some (by kernel_rfl))⟩,
  f77:=⟨Tryz.f358.name,by decide,Tryz.func358.trans (congrArg some (by kernel_rfl))⟩,
  f78:=Tryz.func359.trans (congrArg some (by kernel_rfl)),
  f79:=Tryz.func360.trans (congrArg some (by kernel_rfl)),
  f88:=⟨Tryz.f422.name,by decide,Tryz.func422.trans (congrArg some (by kernel_rfl))⟩,
  f89:=Tryz.func423.trans (congrArg some (by kernel_rfl)),
  f90:=Tryz.func424.trans (congrArg some (by kernel_rfl)),
  f91:=⟨Tryz.f425.name,by decide,Tryz.func425.trans (congrArg some (by kernel_rfl))⟩,
  f92:=⟨Tryz.f426.name,by decide,Tryz.func426.trans (congrArg some (by kernel_rfl))⟩,
  f96:=⟨Tryz.f465.name,by decide,Tryz.func465.trans (congrArg some (by kernel_rfl))⟩,
  t0:=Tryz.underlying0,
  a0:=Tryz.isAgg0,
  z0:=Tryz.sizeOf0,
  v0:=Tryz.zeroValue0,
  t3:=Tryz.underlying3,
  a3:=Tryz.isAgg3,
  z3:=Tryz.sizeOf3,
  v3:=Tryz.zeroValue3,
  t4:=Tryz.underlying4,
  a4:=Tryz.isAgg4,
  z4:=Tryz.sizeOf4,
  v4:=Tryz.zeroValue4,
  t5:=Tryz.underlying5,
  a5:=Tryz.isAgg5,
  z5:=Tryz.sizeOf5,
  v5:=Tryz.zeroValue5,
  t9:=Tryz.underlying9,
  a9:=Tryz.isAgg9,
  z9:=Tryz.sizeOf9,
  v9:=Tryz.zeroValue9,
  t22:=Tryz.underlying53,
  a22:=Tryz.isAgg53,
  z22:=Tryz.sizeOf53,
  v22:=Tryz.zeroValue53,
  t23:=Tryz.underlying3,
  a23:=Tryz.isAgg3,
  z23:=Tryz.sizeOf3,
  v23:=Tryz.zeroValue3,
  t44:=Tryz.underlying127,
  a44:=Tryz.isAgg127,
  z44:=Tryz.sizeOf127,
  v44:=Tryz.zeroValue127,
  t51:=Tryz.underlying220,
  a51:=Tryz.isAgg220,
  z51:=Tryz.sizeOf220,
  v51:=Tryz.zeroValue220,
  t60:=Tryz.underlying448,
  a60:=Tryz.isAgg448,
  z60:=Tryz.sizeOf448,
  v60:=Tryz.zeroValue448,
  t61:=Tryz.underlying449,
  a61:=Tryz.isAgg449,
  z61:=Tryz.sizeOf449,
  v61:=Tryz.zeroValue449,
  t67:=Tryz.underlying221,
  a67:=Tryz.isAgg221,
  z67:=Tryz.sizeOf221,
  v67:=Tryz.zeroValue221,
  t69:=Tryz.underlying46,
  a69:=Tryz.isAgg46,
  z69:=Tryz.sizeOf46,
  v69:=Tryz.zeroValue46,
  t75:=Tryz.underlying496,
  a75:=Tryz.isAgg496,
  z75:=Tryz.sizeOf496,
  v75:=Tryz.zeroValue496,
  t79:=Tryz.underlying499,
  a79:=Tryz.isAgg499,
  z79:=Tryz.sizeOf499,
  v79:=Tryz.zeroValue499,
  t83:=Tryz.underlying529,
  a83:=Tryz.isAgg529,
  z83:=Tryz.sizeOf529,
  v83:=Tryz.zeroValue529,
  t84:=Tryz.underlying530,
  a84:=Tryz.isAgg530,
  z84:=Tryz.sizeOf530,
  v84:=Tryz.zeroValue530 }
end Go.Proofs.YtlcoaflddajjcaaGreatDoor
namespace Go.Proofs.YtlcoaflddajjcaaGreatDoor
open Go Go.SL
def oF{l r:List Int}(hl:l.Nodup)(hr:r.Nodup)(h:∀n,n∈l↔n∈r):l.length=r.length:=((List.perm_ext_iff_of_nodup hl hr).2 h).length_eq
attribute [local irreducible] J K au Ends ae aB aI bB aW aS a7 aX bF bQ II
def zl(bm:Nat):au Tryz.prog 91 [.map (some bm)] [] (fun r H=>∃bx,r = .func (.func 177) #[] #[ptr bx]∧H=[ae bx (cl [.map (some bm)] 166)]):=by
 refine au.ak Tryz.func91 Tryz.ntmps91 fun G F R hE=>?_
 refine go ?_
 refine bu zr zr bh ?_
 intro bx
 refine go ?_
 refine ad hE Tryz.func91 zr zr ⟨bx,rfl,rfl⟩
def wu(bx bm:Nat)(es:List (Int × Value))(iK:(es.map (·.1)).Nodup) :
  Ae 177 [ptr bx] es.length [ae bx (cl [.map (some bm)] 166),aI (Value.int .i64) bm es] [aI (Value.int .i64) bm es] (fun xs=>xs.Perm (es.map (·.1))):=by
 intro l Lp Inv hy
 refine au.ak Tryz.func177 Tryz.ntmps177 fun G F R hE=>?_
 refine al (ao.pick [3,0,2] rfl) (go ?_)
 refine nL (kv:=Value.int .i64) (es:=es) (U:=aU) 0 zr zr zr zr zr (fun _=>rfl) bh ?_
 intro it
 refine go ?_
 refine bj (fun s:List Int=>s.Nodup∧∀x∈s,x∈es.map (·.1)) (fun s=>es.length-s.length) (fun s=>[(0,.func (.yield l) #[] #[]),(5,.pointer (some ⟨it,0,none⟩))])
  (fun s=>bB (Value.int .i64) bm it es s::Lp::ae bx (cl [.map (some bm)] 166)::Inv s.reverse::F) [] ⟨List.nodup_nil,by simp⟩ rfl bS ag ?_
 rintro dn⟨nE,dj⟩ ih
 refine go ?_
 refine qR (kv:=Value.int .i64) (es:=es) 0 rfl k6.inj zr zr (fun _=>rfl) e8 bh ?_ ?_
 ·intro fI
  refine go ?_
  refine al (ao.head (B:=[aI (Value.int .i64) bm es]) (fun h hs=>by obtain⟨h',s,hm⟩:=jD h hs;exact⟨h',s,dG hm⟩)) ?_
  have hp:dn.reverse.Perm (es.map (·.1)):=(List.reverse_perm dn).trans ((List.perm_ext_iff_of_nodup nE iK).2 fun a=>⟨dj a,fun h=>by obtain⟨y,hy,rfl⟩:=List.mem_map.1 h;exact fI y hy⟩)
  refine bL hE Tryz.func177 rfl _ rfl ⟨_,hp,rfl⟩ ag
 ·intro key v eR mK
  have hk:key∈es.map (·.1):=List.mem_map.2 ⟨_,eR,rfl⟩
  have cL:dn.length<es.length:=by
   have h1:((List.filter (fun x=>decide (x∈dn)) (es.map (·.1)))).length≤(es.map (·.1)).length:=List.length_filter_le _ _
   have h2:dn.length=(List.filter (fun x=>decide (x∈dn)) (es.map (·.1))).length:=oF nE (iK.sublist List.filter_sublist) (fun n=>by
    simp only[List.mem_filter,decide_eq_true_eq]
    exact⟨fun h=>⟨dj n h,h⟩,fun h=>h.2⟩)
   rw[List.length_map]at h1
   rcases Nat.lt_or_ge dn.length es.length with h|h
   ·exact h
   ·exfalso
    have h3:(List.filter (fun x=>decide (x∈dn)) (es.map (·.1))).length=(es.map (·.1)).length:=by rw[List.length_map];omega
    have h4:=List.filter_eq_self.1 ((List.filter_sublist (p:=fun x=>decide (x∈dn)) (l:=es.map (·.1))).eq_of_length h3) key hk
    exact mK (of_decide_eq_true h4)
  refine go ?_
  refine nN (kv:=Value.int .i64) (es:=es) 0 rfl k6.inj zr zr eR (go ?_)
  refine kE zr zr zr (hy dn.reverse key (by rw[List.length_reverse];exact cL)) ag ?_ jk
  rintro _ _⟨rfl,rfl⟩
  rw[show dn.reverse++[key]=(key::dn).reverse from by simp]
  refine go ?_
  refine aM ih (key::dn) rfl (⟨List.nodup_cons.2 ⟨mK,nE⟩,fun x hx=>by rcases List.mem_cons.1 hx with rfl|h;exact hk;exact dj x h⟩) (by show _-(key::dn).length<_;simp only[List.length_cons];omega) bS ag
def tQ(v:Value)(l:List Int)(hl:l.length≤1000000000):au Tryz.prog 154 [v] [aB 3 1 v l.length (iV l)] (fun r H=>r = .tuple #[]∧H=[aB 3 1 v l.length (iV (hJ l))]) :=
 BX (ρ:=y1) aby 3 v l ah ai
def lS(g:FuncId)(cap:List Value)(N:Nat)(Pre Post:List HP)(Q:List Int→Prop)(hN:N≤1000000000)(hi:Ae g cap N Pre Post Q)(hQ:∀xs,Q xs→xs.length≤1000000000) :
  au Tryz.prog 76 [.func (.func g) #[] cap.toArray] Pre (fun r H=>∃xs,Q xs∧H=aB 3 1 r xs.length (iV (hJ xs))::Post):=by
 refine au.ak Tryz.func76 Tryz.ntmps76 fun G F R hE=>?_
 refine go ?_
 refine aF (By g cap N Pre Post Q hN hi) ?_
 rintro w _⟨xs,hq,rfl⟩
 refine aH 0 rfl ?_
 rintro wa wc rfl
 refine go ?_
 refine aw (tQ (.slice wa xs.length wc) xs (hQ xs hq)) ?_
 refine go ?_
 refine ad hE Tryz.func76 zr zr ⟨xs,hq,rfl⟩
end Go.Proofs.YtlcoaflddajjcaaGreatDoor
namespace Go.Proofs.YtlcoaflddajjcaaGreatDoor
open Go Go.SL
def fU(kb:Nat)(lim fC cj:Int):HP:=fun h=>∃km:Nat,True∧Sep [ae kb (cl [.int .i64 lim,.int .i64 fC,.int .i64 cj,.map (some km)] 171),aI (Value.int .i64) km [] ] h
def Df(kb:Nat)(lim fC cj:Int):∀h,fU kb lim fC cj h→∃km:Nat,True∧Sep [ae kb (cl [.int .i64 lim,.int .i64 fC,.int .i64 cj,.map (some km)] 171),aI (Value.int .i64) km [] ] h:=fun h hs=>hs
def tL(kb km:Nat)(lim fC cj:Int)(H:List HP):ao (ae kb (cl [.int .i64 lim,.int .i64 fC,.int .i64 cj,.map (some km)] 171)::aI (Value.int .i64) km []::H) (fU kb lim fC cj::H) :=
 ao.fold (A:=fU kb lim fC cj) (B:=[_,_]) fun h hs=>⟨h,sub.refl h,km,trivial,hs⟩
def adg(mo:Option Nat):HP:=match mo with
 | none=>emp
 | some m=>aI (Value.int .i64) m []
def whN(hb:Nat)(bG r:Int):HP:=fun h=>∃mo:Option Nat,True∧Sep [ae hb (cl [.int .i64 bG,.int .i64 3,.int .i64 r,.int .i64 0,.map mo] 174),adg mo] h
attribute [local irreducible] J K au Ends ae aB aI bB aW aS a7 aX bF bQ fU whN
def lE(n lo hi:Int):au Tryz.prog 68 [.int .i64 n,.int .i64 lo,.int .i64 hi] [] (fun r H=>r = .bool (j7 n lo hi)∧H=[]):=by
 refine au.ak Tryz.func68 Tryz.ntmps68 fun G F R hE=>?_
 repeat'(first|(with_reducible intro jg)|refine er ?_|refine dP zr zr zr zr ?_ ?_|fail)
 ·((refine ad hE Tryz.func68 zr zr ⟨(by unfold j7;rw[decide_eq_true (show lo≤n from jg),Bool.true_and];rfl),rfl⟩))
 ·((refine ad hE Tryz.func68 zr zr ⟨(by unfold j7;rw[decide_eq_false (show ¬lo≤n from jg),Bool.false_and];rfl),rfl⟩))
def oV(n lo hi:Int):au Tryz.prog 260 [.int .i64 n,.int .i64 lo,.int .i64 hi] [] (fun r H=>r = .bool (j7 n lo hi)∧H=[]):=by
 refine au.ak Tryz.func260 Tryz.ntmps260 fun G F R hE=>?_
 repeat'(first|(with_reducible intro jg)|refine er ?_|refine dP zr zr zr zr ?_ ?_|fail)
 ·((refine ad hE Tryz.func260 zr zr ⟨(by unfold j7;rw[decide_eq_true (show lo≤n from jg),Bool.true_and];rfl),rfl⟩))
 ·((refine ad hE Tryz.func260 zr zr ⟨(by unfold j7;rw[decide_eq_false (show ¬lo≤n from jg),Bool.false_and];rfl),rfl⟩))
def jP(n lo hi:Int):au Tryz.prog 21 [.int .i64 n,.int .i64 lo,.int .i64 hi] [] (fun r H=>r = .bool (j7 n lo hi)∧H=[]):=by
 refine au.ak Tryz.func21 Tryz.ntmps21 fun G F R hE=>?_
 repeat'(first|(with_reducible intro jg)|refine er ?_|refine dP zr zr zr zr ?_ ?_|fail)
 ·((refine ad hE Tryz.func21 zr zr ⟨(by unfold j7;rw[decide_eq_true (show lo≤n from jg),Bool.true_and];rfl),rfl⟩))
 ·((refine ad hE Tryz.func21 zr zr ⟨(by unfold j7;rw[decide_eq_false (show ¬lo≤n from jg),Bool.false_and];rfl),rfl⟩))
def De(lim fC cj:Int)(h1:j7 lim 1 100=true)(h2:j7 fC 1 1048576=true)(h3:j7 cj 1 64=true) :
  au Tryz.prog 29 [.int .i64 lim,.int .i64 fC,.int .i64 cj] [] (fun r H=>∃kb,r = .tuple #[ptr kb,.int .i64 0]∧H=[fU kb lim fC cj]):=by
 refine au.ak Tryz.func29 Tryz.ntmps29 fun G F R hE=>?_
 refine go ?_
 refine aw (lE lim 1 100) ?_
 rw[h1]
 refine go ?_
 refine aw (lE fC 1 1048576) ?_
 rw[h2]
 refine go ?_
 refine aw (lE cj 1 64) ?_
 rw[h3]
 refine go ?_
 refine eG rfl bh ?_
 intro km
 refine go ?_
 refine bu zr zr bh ?_
 intro kb
 refine go ?_
 refine al (ao.trans (ao.pick [1] rfl) (ao.head (B:=[aI (Value.int .i64) km [] ]) (fun h hs=>⟨h,sub.refl h,dG (gA _ km h hs)⟩))) ?_
 refine al (ao.trans (ao.pick [1,0] rfl) (tL kb km lim fC cj _)) ?_
 refine ad hE Tryz.func29 zr zr ⟨kb,rfl,rfl⟩
def A8(n bR:Int)(h1:1≤n∧n≤1024)(h2:1≤bR∧bR≤64):au Tryz.prog 149 [.int .i64 n,.int .i64 bR] [] (fun r H=>∃b,r = .tuple #[ptr b,.int .i64 0]∧H=[]):=by
 obtain⟨m,rfl⟩:∃m:Nat,n=m:=⟨n.toNat,ai⟩
 refine au.ak Tryz.func149 Tryz.ntmps149 fun G F R hE=>?_
 repeat'(first|(with_reducible intro jg)|refine er ?_|refine dP zr zr zr zr ?_ ?_|refine aq zr zr ?_ ?_)
 any_goals (exfalso;omega)
 refine eG rfl bh ?_
 intro bm
 refine go ?_
 refine il (p:=m) (q:=m) zr zr zr zr zr zr zr zr zr (Nat.le_refl _) ai (by show 8*_≤_;omega) bh ?_
 intro row
 refine go ?_
 refine bu zr zr bh ?_
 intro b
 refine go ?_
 refine al (H':=F) ag ?_
 refine ad hE Tryz.func149 zr zr ⟨b,rfl,rfl⟩
def ys(cj each pat:Int)(h1:j7 cj 1 256=true)(h2:j7 each 1 cj=true)(h3:j7 pat 1 1048576=true):au Tryz.prog 150 [.int .i64 cj,.int .i64 each,.int .i64 pat] [] (fun r H=>∃b,r = .tuple #[ptr b,.int .i64 0]∧H=[]):=by
 refine au.ak Tryz.func150 Tryz.ntmps150 fun G F R hE=>?_
 refine go ?_
 refine aw (oV cj 1 256) ?_
 rw[h1]
 refine go ?_
 refine aw (oV each 1 cj) ?_
 rw[h2]
 refine go ?_
 refine aw (oV pat 1 1048576) ?_
 rw[h3]
 refine go ?_
 refine eG rfl bh ?_
 intro bm
 refine go ?_
 refine bu zr zr bh ?_
 intro b
 refine go ?_
 refine al (H':=F) ag ?_
 refine ad hE Tryz.func150 zr zr ⟨b,rfl,rfl⟩
def C7(n bR cj each pat:Int)(h1:1≤n∧n≤1024)(h2:1≤bR∧bR≤64)(h3:j7 cj 1 256=true)(h4:j7 each 1 cj=true)(h5:j7 pat 1 1048576=true) :
  au Tryz.prog 69 [.int .i64 n,.int .i64 bR,.int .i64 cj,.int .i64 each,.int .i64 pat] [] (fun r H=>∃b,r = .tuple #[ptr b,.int .i64 0]∧H=[]):=by
 refine au.ak Tryz.func69 Tryz.ntmps69 fun G F R hE=>?_
 refine go ?_
 refine aF (A8 n bR h1 h2) ?_
 rintro _ _⟨b1,rfl,rfl⟩
 refine go ?_
 refine aF (ys cj each pat h3 h4 h5) ?_
 rintro _ _⟨b2,rfl,rfl⟩
 refine go ?_
 refine bu zr zr bh ?_
 intro b
 refine go ?_
 refine al (H':=F) ag ?_
 refine ad hE Tryz.func69 zr zr ⟨b,rfl,rfl⟩
end Go.Proofs.YtlcoaflddajjcaaGreatDoor
namespace Go.Proofs.YtlcoaflddajjcaaGreatDoor
open Go Go.SL
attribute [local irreducible] J K au Ends ae aB aI bB aW aS a7 aX bF bQ II
def JE(bm:Nat):au Tryz.prog 77 [.map (some bm)] [] (fun r H=>∃bx,r = .func (.func 155) #[] #[ptr bx]∧H=[ae bx (cl [.map (some bm)] 90)]):=by
 refine au.ak Tryz.func77 Tryz.ntmps77 fun G F R hE=>?_
 refine go ?_
 refine bu zr zr bh ?_
 intro bx
 refine go ?_
 refine ad hE Tryz.func77 zr zr ⟨bx,rfl,rfl⟩
def FF(bx bm:Nat)(es:List (Int × Value))(iK:(es.map (·.1)).Nodup) :
  Ae 155 [ptr bx] es.length [ae bx (cl [.map (some bm)] 90),aI (Value.int .i64) bm es] [aI (Value.int .i64) bm es] (fun xs=>xs.Perm (es.map (·.1))):=by
 intro l Lp Inv hy
 refine au.ak Tryz.func155 Tryz.ntmps155 fun G F R hE=>?_
 refine al (ao.pick [3,0,2] rfl) (go ?_)
 refine nL (kv:=Value.int .i64) (es:=es) (U:=aU) 0 zr zr zr zr zr (fun _=>rfl) bh ?_
 intro it
 refine go ?_
 refine bj (fun s:List Int=>s.Nodup∧∀x∈s,x∈es.map (·.1)) (fun s=>es.length-s.length) (fun s=>[(0,.func (.yield l) #[] #[]),(5,.pointer (some ⟨it,0,none⟩))])
  (fun s=>bB (Value.int .i64) bm it es s::Lp::ae bx (cl [.map (some bm)] 90)::Inv s.reverse::F) [] ⟨List.nodup_nil,by simp⟩ rfl bS ag ?_
 rintro dn⟨nE,dj⟩ ih
 refine go ?_
 refine qR (kv:=Value.int .i64) (es:=es) 0 rfl k6.inj zr zr (fun _=>rfl) e8 bh ?_ ?_
 ·intro fI
  refine go ?_
  refine al (ao.head (B:=[aI (Value.int .i64) bm es]) (fun h hs=>by obtain⟨h',s,hm⟩:=jD h hs;exact⟨h',s,dG hm⟩)) ?_
  have hp:dn.reverse.Perm (es.map (·.1)):=(List.reverse_perm dn).trans ((List.perm_ext_iff_of_nodup nE iK).2 fun a=>⟨dj a,fun h=>by obtain⟨y,hy,rfl⟩:=List.mem_map.1 h;exact fI y hy⟩)
  refine bL hE Tryz.func155 rfl _ rfl ⟨_,hp,rfl⟩ ag
 ·intro key v eR mK
  have hk:key∈es.map (·.1):=List.mem_map.2 ⟨_,eR,rfl⟩
  have cL:dn.length<es.length:=by
   have h1:((List.filter (fun x=>decide (x∈dn)) (es.map (·.1)))).length≤(es.map (·.1)).length:=List.length_filter_le _ _
   have h2:dn.length=(List.filter (fun x=>decide (x∈dn)) (es.map (·.1))).length:=oF nE (iK.sublist List.filter_sublist) (fun n=>by
    simp only[List.mem_filter,decide_eq_true_eq]
    exact⟨fun h=>⟨dj n h,h⟩,fun h=>h.2⟩)
   rw[List.length_map]at h1
   rcases Nat.lt_or_ge dn.length es.length with h|h
   ·exact h
   ·exfalso
    have h3:(List.filter (fun x=>decide (x∈dn)) (es.map (·.1))).length=(es.map (·.1)).length:=by rw[List.length_map];omega
    have h4:=List.filter_eq_self.1 ((List.filter_sublist (p:=fun x=>decide (x∈dn)) (l:=es.map (·.1))).eq_of_length h3) key hk
    exact mK (of_decide_eq_true h4)
  refine go ?_
  refine nN (kv:=Value.int .i64) (es:=es) 0 rfl k6.inj zr zr eR (go ?_)
  refine kE zr zr zr (hy dn.reverse key (by rw[List.length_reverse];exact cL)) ag ?_ jk
  rintro _ _⟨rfl,rfl⟩
  rw[show dn.reverse++[key]=(key::dn).reverse from by simp]
  refine go ?_
  refine aM ih (key::dn) rfl (⟨List.nodup_cons.2 ⟨mK,nE⟩,fun x hx=>by rcases List.mem_cons.1 hx with rfl|h;exact hk;exact dj x h⟩) (by show _-(key::dn).length<_;simp only[List.length_cons];omega) bS ag
def I3(bm:Nat):au Tryz.prog 152 [.map (some bm)] [] (fun r H=>∃bx,r = .func (.func 262) #[] #[ptr bx]∧H=[ae bx (cl [.map (some bm)] 169)]):=by
 refine au.ak Tryz.func152 Tryz.ntmps152 fun G F R hE=>?_
 refine go ?_
 refine bu zr zr bh ?_
 intro bx
 refine go ?_
 refine ad hE Tryz.func152 zr zr ⟨bx,rfl,rfl⟩
def Fi(bx bm:Nat)(es:List (Int × Value))(iK:(es.map (·.1)).Nodup) :
  Ae 262 [ptr bx] es.length [ae bx (cl [.map (some bm)] 169),aI (Value.int .i64) bm es] [aI (Value.int .i64) bm es] (fun xs=>xs.Perm (es.map (·.1))):=by
 intro l Lp Inv hy
 refine au.ak Tryz.func262 Tryz.ntmps262 fun G F R hE=>?_
 refine al (ao.pick [3,0,2] rfl) (go ?_)
 refine nL (kv:=Value.int .i64) (es:=es) (U:=aU) 0 zr zr zr zr zr (fun _=>rfl) bh ?_
 intro it
 refine go ?_
 refine bj (fun s:List Int=>s.Nodup∧∀x∈s,x∈es.map (·.1)) (fun s=>es.length-s.length) (fun s=>[(0,.func (.yield l) #[] #[]),(5,.pointer (some ⟨it,0,none⟩))])
  (fun s=>bB (Value.int .i64) bm it es s::Lp::ae bx (cl [.map (some bm)] 169)::Inv s.reverse::F) [] ⟨List.nodup_nil,by simp⟩ rfl bS ag ?_
 rintro dn⟨nE,dj⟩ ih
 refine go ?_
 refine qR (kv:=Value.int .i64) (es:=es) 0 rfl k6.inj zr zr (fun _=>rfl) e8 bh ?_ ?_
 ·intro fI
  refine go ?_
  refine al (ao.head (B:=[aI (Value.int .i64) bm es]) (fun h hs=>by obtain⟨h',s,hm⟩:=jD h hs;exact⟨h',s,dG hm⟩)) ?_
  have hp:dn.reverse.Perm (es.map (·.1)):=(List.reverse_perm dn).trans ((List.perm_ext_iff_of_nodup nE iK).2 fun a=>⟨dj a,fun h=>by obtain⟨y,hy,rfl⟩:=List.mem_map.1 h;exact fI y hy⟩)
  refine bL hE Tryz.func262 rfl _ rfl ⟨_,hp,rfl⟩ ag
 ·intro key v eR mK
  have hk:key∈es.map (·.1):=List.mem_map.2 ⟨_,eR,rfl⟩
  have cL:dn.length<es.length:=by
   have h1:((List.filter (fun x=>decide (x∈dn)) (es.map (·.1)))).length≤(es.map (·.1)).length:=List.length_filter_le _ _
   have h2:dn.length=(List.filter (fun x=>decide (x∈dn)) (es.map (·.1))).length:=oF nE (iK.sublist List.filter_sublist) (fun n=>by
    simp only[List.mem_filter,decide_eq_true_eq]
    exact⟨fun h=>⟨dj n h,h⟩,fun h=>h.2⟩)
   rw[List.length_map]at h1
   rcases Nat.lt_or_ge dn.length es.length with h|h
   ·exact h
   ·exfalso
    have h3:(List.filter (fun x=>decide (x∈dn)) (es.map (·.1))).length=(es.map (·.1)).length:=by rw[List.length_map];omega
    have h4:=List.filter_eq_self.1 ((List.filter_sublist (p:=fun x=>decide (x∈dn)) (l:=es.map (·.1))).eq_of_length h3) key hk
    exact mK (of_decide_eq_true h4)
  refine go ?_
  refine nN (kv:=Value.int .i64) (es:=es) 0 rfl k6.inj zr zr eR (go ?_)
  refine kE zr zr zr (hy dn.reverse key (by rw[List.length_reverse];exact cL)) ag ?_ jk
  rintro _ _⟨rfl,rfl⟩
  rw[show dn.reverse++[key]=(key::dn).reverse from by simp]
  refine go ?_
  refine aM ih (key::dn) rfl (⟨List.nodup_cons.2 ⟨mK,nE⟩,fun x hx=>by rcases List.mem_cons.1 hx with rfl|h;exact hk;exact dj x h⟩) (by show _-(key::dn).length<_;simp only[List.length_cons];omega) bS ag
end Go.Proofs.YtlcoaflddajjcaaGreatDoor
namespace Go.Proofs.YtlcoaflddajjcaaGreatDoor
open Go Go.SL
def MI(bs:Nat)(ks:List Mem):HP:=fun h=>∃v:Value,True∧Sep [ae bs (cl [v] 54),aB 131 4 v ks.length (mV ks)] h
attribute [local irreducible] J K au Ends ae aB aI bB aW aS a7 aX bF bQ II MI
end Go.Proofs.YtlcoaflddajjcaaGreatDoor
namespace Go.Proofs.YtlcoaflddajjcaaGreatDoor
open Go Go.SL
attribute [local irreducible] J K au Ends ae aB aI bB aW aS a7 aX bF bQ II
def Vw.ZG{A:HP}{a:Option Addr}{m c:Nat}{l:List Int}(h:Vw A (.slice a m c) m (iV l))(n:Nat)(hn:n≤l.length):Vw A (.slice (sliceAt a c 0 1) n c) n (iV (l.take n)):=by
 obtain⟨a',cap,he,h0|⟨b,o,ha,hc⟩⟩:=h
 ·have:l=[]:=by cases l with|nil=>rfl|cons x l=>simp[iV]at h0
  subst this
  exact⟨_,_,rfl,.inl (by simp[iV])⟩
 ·simp only[Value.slice.injEq]at he
  obtain⟨rfl,-,rfl⟩:=he
  subst ha
  have hs:sliceAt (some ⟨b,o,none⟩) c 0 1=some ⟨b,o,none⟩:=by
   unfold sliceAt
   split
   ·rfl
   ·simp[Addr.add]
  refine⟨_,_,rfl,.inr ⟨b,o,hs,fun h' hA j x hj=>hc h' hA j x ?_⟩⟩
  rw[show iV (l.take n)=(iV l).take n from by simp[iV,List.map_take],List.getElem?_take]at hj
  split at hj
  ·exact hj
  ·cases hj
def Ga(b:Nat)(s:Int)(A:HP)(v:Value)(l:List Int)(hv:Vw A v l.length (iV l))(hl:l.length≤1000000000)(k:Int) :
  au Tryz.prog 90 [ptr b,v,.int .i64 k] [ae b (cl [.int .u64 s] 293),A] (fun r H=>∃(a:Option Addr) (c:Nat) (Y:HP),r = .slice a (qb s l k).length c∧Vw Y r (qb s l k).length (iV (qb s l k))∧H=[Y,ae b (cl [.int .u64 (lG s l).1] 293),A]):=by
 obtain⟨a,c,rfl⟩:=hv.shape
 have dL:=y4 s l
 have aeK:=tj s l k
 refine au.ak Tryz.func90 Tryz.ntmps90 fun G F R hE=>?_
 refine go ?_
 refine aF (Dx b s A _ l hv hl) ?_
 rintro r _ rfl
 refine aH 0 rfl ?_
 rintro ra rc rfl
 refine Bt 0 rfl ?_
 intro CK fY
 refine go ?_
 obtain⟨n,hn⟩:∃n,n=C6 k (lG s l).2.length:=⟨_,rfl⟩
 have MQ:n≤(lG s l).2.length:=by rw[hn];unfold C6;omega
 have hsn:(qb s l k)=(lG s l).2.take n:=by unfold qb;rw[hn,dL]
 ((refine aG 16 ((.int .i64 (n:Int))) rfl ((congrArg (Value.int .i64) (by rw[hn];unfold C6;omega))) ?_))
 refine bw (p:=0) (q:=(n:Int)) zr zr zr zr zr zr zr ai ai (.inr ai) ?_
 have Fm:=Vw.ZG CK n MQ
 have hnn:n=(qb s l k).length:=by rw[hsn,List.length_take];omega
 ((refine aG 17 ((.slice (sliceAt ra rc 0 1) n rc)) rfl ((by rw[show((n:Int)).toNat=n from by omega];rfl)) ?_))
 refine go ?_
 rw[← hsn]at Fm
 rw[hnn]at Fm ⊢
 refine ad hE Tryz.func90 zr zr ⟨_,_,_,rfl,Fm,rfl⟩
def Gossip_any(bv:Nat)(V:VM)(iK:(V.ks.map Mem.id).Nodup)(hlen:V.ks.length≤1000000)(cj:Int)(seed:Int) :
  au Tryz.prog 43 [ptr bv,.int .i64 cj,.int .u64 seed] [bQ bv V] (fun r H=>H=[aB 131 4 r (pS V cj seed).length (mV (pS V cj seed)),bQ bv V]):=by
 refine au.ak Tryz.func43 Tryz.ntmps43 fun G F R hE=>?_
 refine cX (kT bv V) ?_
 rintro bm -
 refine go ?_
 refine aL (fun w=>Sat G w ([ae bv (cl (nv V.self++[.int .i64 V.cj,.map (some bm)]) 168)])) (.st 0 (cJ 2 4 (.st 8 (.st 11 (.act 1 (.act 6 (.act 7 (.act 9 (.st 10 .nil))))))))) rfl ah ah ah dv ?_
 refine go ?_
 ((refine de zr zr zr zr (lR seed) ag ?_ (fun _ _ w hp hw=>by obtain⟨_,rfl,rfl⟩:=hp;exact hw.cu ag)))
 rintro _ _⟨bd,rfl,rfl⟩
 refine go ?_
 ((refine de zr zr zr zr (zl bm) ag ?_ (fun _ _ w hp hw=>by obtain⟨_,rfl,rfl⟩:=hp;exact hw.cu ag)))
 rintro _ _⟨bx,rfl,rfl⟩
 refine go ?_
 have n9:(kM V.ks).map (·.1)=V.ks.map Mem.id:=r5 V.ks
 have qf:(kM V.ks).length=V.ks.length:=List.length_map _
 ((refine cT (lS 177 [ptr bx] (kM V.ks).length [ae bx (cl [.map (some bm)] 166),aI (Value.int .i64) bm (kM V.ks)] [aI (Value.int .i64) bm (kM V.ks)] (fun xs=>xs.Perm ((kM V.ks).map (·.1))) ai (wu bx bm (kM V.ks) (by rw[n9];exact iK)) (fun xs hx=>by rw[hx.length_eq,List.length_map];omega)) ?_))
 rintro r _⟨xs,I9,rfl⟩
 rw[n9]at I9
 have KH:hJ xs=hJ (V.ks.map Mem.id):=GS I9
 rw[KH,show xs.length=(hJ (V.ks.map Mem.id)).length from by rw[fD,I9.length_eq]]
 obtain⟨ids,nY⟩:∃ids,ids=hJ (V.ks.map Mem.id):=⟨_,rfl⟩
 rw[← nY]
 have ace:ids.length=V.ks.length:=by rw[nY,fD,List.length_map]
 refine aH 0 rfl ?_
 rintro ra rc rfl
 refine dH 0 rfl ?_
 intro CK
 refine go ?_
 refine cT (Ga bd seed _ _ ids CK ai cj) ?_
 rintro _ _⟨sa,sc,Y,rfl,Pc,rfl⟩
 refine go ?_
 obtain⟨ss,YW⟩:∃ss,ss=qb seed ids cj:=⟨_,rfl⟩
 have aeI:ss.length≤1000000:=by rw[YW,tj];unfold C6;omega
 have ad3:pS V cj seed=ss.map (fun id=>(mO V.ks id).getD ⟨0,0,0,0⟩)++[V.self]:=by rw[YW,nY];rfl
 rw[← YW]at Pc ⊢
 refine bj (fun y:Nat × List Mem × Option Addr × Nat=>y.1≤ss.length∧y.2.1=(ss.take y.1).map (fun id=>(mO V.ks id).getD ⟨0,0,0,0⟩)) (fun y=>ss.length-y.1)
  (fun y=>[(0,ptr bv),(7,.slice y.2.2.1 y.2.1.length y.2.2.2),(19,.slice sa ss.length sc),(20,.int .i64 (ss.length:Int)),(21,.int .i64 (y.1:Int))])
  (fun y=>aB 131 4 (.slice y.2.2.1 y.2.1.length y.2.2.2) y.2.1.length (mV y.2.1)::ae bv (cl (nv V.self++[.int .i64 V.cj,.map (some bm)]) 168)::aI (Value.int .i64) bm (kM V.ks)::Y::F) (0,[],none,0) ⟨Nat.zero_le _,rfl⟩ rfl bS (ao.trans (bg 131 4 none _) ag) ?_
 rintro⟨i,acc,a1,c1⟩⟨hi,eX⟩ ih
 simp only at hi eX
 have KO:acc.length=i:=by rw[eX,List.length_map,List.length_take];omega
 refine go ?_
 refine aq zr zr ?_ ?_
 case' refine_2 =>
  intro ep
  simp only at ep
  have jq:pS V cj seed=acc++[V.self]:=by rw[ad3,eX,List.take_of_length_le ai]
  rw[jq]at hE
  refine go ?_
  refine bP 1 zr zr zr zr zr zr (go ?_)
  refine aj (cs:=nv V.self) zr zr zr zr zr zr zr zr zr bh ?_
  intro row
  refine go ?_
  refine aJ (mm:=1) (news:=nv V.self) 1 0 rfl rfl rfl rfl rfl rfl rfl rfl rfl rfl rfl rfl (Vw.ae rfl) rfl (by intro v hv;simp[nv]at hv;rcases hv with rfl|rfl|rfl|rfl <;> rfl) (by simp only;omega) (by show(_+_)*32≤_;simp only;omega) (fun _=>rfl) bh ?_
  intro v1
  simp only
  rw[show mV acc++nv V.self=mV (acc++[V.self])from by simp[mV],show acc.length+1=(acc++[V.self]).length from by simp]
  refine aH 1 rfl ?_
  rintro ja jc rfl
  refine go ?_
  refine al (ao.trans (ao.pick [2,3] rfl) (iD bv bm V _)) ?_
  refine aK hE Tryz.func43 rfl _ zr zr ag
 intro cL
 simp only at cL
 have dA:i<ss.length:=by omega
 obtain⟨x,hx⟩:∃x,ss[i]?=some x:=⟨ss[i],by simp⟩
 obtain⟨b3,o3,c3,He⟩:=Pc.some (YK dA)
 simp only[Value.slice.injEq,true_and]at He
 obtain⟨rfl,rfl⟩:=He
 obtain⟨y,hy⟩:∃y,y=(mO V.ks x).getD ⟨0,0,0,0⟩:=⟨_,rfl⟩
 have ht:(ss.take (i+1)).map (fun id=>(mO V.ks id).getD ⟨0,0,0,0⟩)=acc++[y]:=by
  rw[List.take_add_one,hx,Option.toList_some,List.map_append,← eX,hy];rfl
 have CR:(cU (kM V.ks) x).getD (.agg #[.int .i64 0,.int .i64 0,.int .i64 0,.int .i64 0])=Qz y:=by
  rw[w4,hy]
  all_goals(cases mO V.ks x <;> rfl)
 refine go ?_
 refine bp i zr zr zr zr zr zr zr zr dA ?_
 refine aQ 3 i zr zr zr Pc rfl (jE hx) zr zr (go ?_)
 refine jK (es:=kM V.ks) (key:=x) 2 rfl k6 zr zr zr zr zr zr zr zr ?_
 rw[CR]
 refine go ?_
 refine aj (cs:=nv y) zr zr zr zr zr zr zr zr zr bh ?_
 intro row
 refine go ?_
 refine aJ (mm:=1) (news:=nv y) 1 0 rfl rfl rfl rfl rfl rfl rfl rfl rfl rfl rfl rfl (Vw.ae rfl) rfl (by intro v hv;simp[nv]at hv;rcases hv with rfl|rfl|rfl|rfl <;> rfl) (by simp only;omega) (by show(_+_)*32≤_;simp only;omega) (fun _=>rfl) bh ?_
 intro v1
 simp only
 rw[show mV acc++nv y=mV (acc++[y])from by simp[mV],show acc.length+1=(acc++[y]).length from by simp]
 refine aH 1 rfl ?_
 rintro ja jc rfl
 refine go ?_
 refine aM ih (i+1,acc++[y],ja,jc) rfl ⟨by simp only;omega,by simp only;rw[ht]⟩ (by simp only;omega) bS ag
attribute [local irreducible] MI
def getM(ks:List Mem)(id:Int):Mem:=(mO ks id).getD ⟨0,0,0,0⟩
def rY{ks:List Mem}{id:Int}(h:id∈ks.map Mem.id):getM ks id∈ks∧(getM ks id).id=id:=by
 obtain⟨x,hx,rfl⟩:=List.mem_map.1 h
 unfold getM mO
 cases hf:ks.find? (fun y=>decide (y.id=x.id))with
 | none=>have:=List.find?_eq_none.1 hf x hx;simp at this
 | some y=>exact⟨List.mem_of_find?_eq_some hf,by simpa using List.find?_some hf⟩
def Qq(bv:Nat)(V:VM)(iK:(V.ks.map Mem.id).Nodup)(hlen:V.ks.length≤1000000) :
  au Tryz.prog 74 [ptr bv] [bQ bv V] (fun r H=>∃L:List Mem,L.length=V.ks.length∧(∀x∈L,x∈V.ks)∧(L.map Mem.id).Nodup∧H=[aB 131 4 r L.length (mV L),bQ bv V]):=by
 refine au.ak Tryz.func74 Tryz.ntmps74 fun G F R hE=>?_
 refine cX (kT bv V) ?_
 rintro bm -
 refine go ?_
 refine aF (zl bm) ?_
 rintro _ _⟨bx,rfl,rfl⟩
 refine go ?_
 have n9:(kM V.ks).map (·.1)=V.ks.map Mem.id:=r5 V.ks
 have qf:(kM V.ks).length=V.ks.length:=List.length_map _
 ((refine aF (lS 177 [ptr bx] (kM V.ks).length [ae bx (cl [.map (some bm)] 166),aI (Value.int .i64) bm (kM V.ks)] [aI (Value.int .i64) bm (kM V.ks)] (fun xs=>xs.Perm ((kM V.ks).map (·.1))) ai (wu bx bm (kM V.ks) (by rw[n9];exact iK)) (fun xs h=>by rw[h.length_eq,List.length_map];omega)) ?_))
 rintro r _⟨xs,I9,rfl⟩
 rw[n9]at I9
 have KH:hJ xs=hJ (V.ks.map Mem.id):=GS I9
 rw[KH,show xs.length=(hJ (V.ks.map Mem.id)).length from by rw[fD,I9.length_eq]]
 obtain⟨ids,nY⟩:∃ids,ids=hJ (V.ks.map Mem.id):=⟨_,rfl⟩
 rw[← nY]
 have ace:ids.length=V.ks.length:=by rw[nY,fD,List.length_map]
 have acd:∀x∈ids,x∈V.ks.map Mem.id:=fun x hx=>(pE _).mem_iff.1 (nY ▸ hx)
 refine aH 0 rfl ?_
 rintro ra rc rfl
 refine dH 0 rfl ?_
 intro Pc
 refine go ?_
 refine bj (fun y:Nat × List Mem × Option Addr × Nat=>y.1≤ids.length∧y.2.1=(ids.take y.1).map (getM V.ks)) (fun y=>ids.length-y.1)
  (fun y=>[(0,ptr bv),(3,.slice y.2.2.1 y.2.1.length y.2.2.2),(11,.slice ra ids.length rc),(12,.int .i64 (ids.length:Int)),(13,.int .i64 (y.1:Int))])
  (fun y=>aB 131 4 (.slice y.2.2.1 y.2.1.length y.2.2.2) y.2.1.length (mV y.2.1)::ae bv (cl (nv V.self++[.int .i64 V.cj,.map (some bm)]) 168)::aI (Value.int .i64) bm (kM V.ks)::aB 3 1 (.slice ra ids.length rc) ids.length (iV ids)::F) (0,[],none,0) ⟨Nat.zero_le _,rfl⟩ rfl bS (ao.trans (bg 131 4 none _) ag) ?_
 rintro⟨i,acc,a1,c1⟩⟨hi,eX⟩ ih
 simp only at hi eX
 have KO:acc.length=i:=by rw[eX,List.length_map,List.length_take];omega
 refine go ?_
 refine aq zr zr ?_ ?_
 case' refine_2 =>
  intro ep
  simp only at ep
  rw[List.take_of_length_le ai]at eX
  have MQ:(acc.map Mem.id).Nodup:=by
   rw[eX,List.map_map]
   have:ids.map (Mem.id ∘ getM V.ks)=ids:=by
    conv=>rhs;rw[← List.map_id ids]
    exact List.map_congr_left fun z hz=>(rY (acd z hz)).2
   rw[this,nY]
   exact(pE _).nodup_iff.2 iK
  refine go ?_
  refine al (ao.trans (ao.pick [1,2] rfl) (iD bv bm V _)) ?_
  ((refine ad hE Tryz.func74 zr zr ⟨acc,by rw[eX,List.length_map,ace],fun x hx=>by rw[eX]at hx;obtain⟨z,hz,rfl⟩:=List.mem_map.1 hx;exact(rY (acd z hz)).1,MQ,rfl⟩))
 intro cL
 simp only at cL
 have dA:i<ids.length:=by omega
 obtain⟨x,hx⟩:∃x,ids[i]?=some x:=⟨ids[i],by simp⟩
 obtain⟨b3,o3,c3,He⟩:=Pc.some (YK dA)
 simp only[Value.slice.injEq,true_and]at He
 obtain⟨rfl,rfl⟩:=He
 obtain⟨y,hy⟩:∃y,y=getM V.ks x:=⟨_,rfl⟩
 have ht:(ids.take (i+1)).map (getM V.ks)=acc++[y]:=by
  rw[List.take_add_one,hx,Option.toList_some,List.map_append,← eX,hy];rfl
 have CR:(cU (kM V.ks) x).getD (.agg #[.int .i64 0,.int .i64 0,.int .i64 0,.int .i64 0])=Qz y:=by
  rw[w4,hy]
  unfold getM
  all_goals(cases mO V.ks x <;> rfl)
 refine go ?_
 refine bp i zr zr zr zr zr zr zr zr dA ?_
 refine aQ 3 i zr zr zr Pc rfl (jE hx) zr zr (go ?_)
 refine jK (es:=kM V.ks) (key:=x) 2 rfl k6 zr zr zr zr zr zr zr zr ?_
 rw[CR]
 refine go ?_
 refine aj (cs:=nv y) zr zr zr zr zr zr zr zr zr bh ?_
 intro row
 refine go ?_
 refine aJ (mm:=1) (news:=nv y) 1 0 rfl rfl rfl rfl rfl rfl rfl rfl rfl rfl rfl rfl (Vw.ae rfl) rfl (by intro v hv;simp[nv]at hv;rcases hv with rfl|rfl|rfl|rfl <;> rfl) (by simp only;omega) (by show(_+_)*32≤_;simp only;omega) (fun _=>rfl) bh ?_
 intro v1
 simp only
 rw[show mV acc++nv y=mV (acc++[y])from by simp[mV],show acc.length+1=(acc++[y]).length from by simp]
 refine aH 1 rfl ?_
 rintro ja jc rfl
 refine go ?_
 refine aM ih (i+1,acc++[y],ja,jc) rfl ⟨by simp only;omega,by simp only;rw[ht]⟩ (by simp only;omega) bS ag
end Go.Proofs.YtlcoaflddajjcaaGreatDoor
namespace Go.Proofs.YtlcoaflddajjcaaGreatDoor
open Go Go.SL
def FP(ks:List Mem)(id:Int):List Mem:=ks.filter fun x => !decide (x.id=id)
def P1(ks:List Mem)(id:Int):se (kM ks) id=kM (FP ks id):=by
 unfold se kM FP
 rw[List.filter_map]
 rfl
attribute [local irreducible] J K au Ends ae aB aI bB aW aS a7 aX bF bQ II MI
end Go.Proofs.YtlcoaflddajjcaaGreatDoor
namespace Go.Proofs.YtlcoaflddajjcaaGreatDoor
open Go Go.SL
structure yA(V:VM):Prop where
 nd:(V.ks.map Mem.id).Nodup
 len:(V.ks.length:Int)≤V.cj
 cj:1≤V.cj∧V.cj≤64
 inc : -1000000000000≤V.self.inc∧V.self.inc≤1000000000000
 sn:∀x∈V.ks,0≤x.since∧x.since≤1099511627776
def yA.small{V:VM}(h:yA V):V.ks.length≤64:=by have:=h.len;have:=h.cj;omega
def OI{ks:List Mem}{m x:Mem}(h:x∈p5 ks m):x=m∨x∈ks:=by
 unfold p5 at h
 split at h
 ·obtain⟨y,hy,rfl⟩:=List.mem_map.1 h
  split
  ·exact .inl rfl
  ·exact .inr hy
 ·rcases List.mem_append.1 h with h|h
  ·exact .inr h
  ·exact .inl (List.mem_singleton.1 h)
attribute [local irreducible] J K au Ends ae aB aI bB aW aS a7 aX bF bQ II MI
def JD{ks:List Mem}{id:Int}:(cU (kM ks) id).getD (.agg #[.int .i64 0,.int .i64 0,.int .i64 0,.int .i64 0]) = .agg (nv (getM ks id)).toArray:=by
 rw[w4]
 unfold getM
 cases mO ks id <;> rfl
def IV(bv:Nat)(V:VM)(id st now:Int)(Jo:id∈V.ks.map Mem.id) :
  au Tryz.prog 75 [ptr bv,.int .i64 id,.int .i64 st,.int .i64 now] [bQ bv V] (fun r H=>r = .tuple #[]∧H=[bQ bv { V with ks:=p5 V.ks { getM V.ks id with st:=st,since:=now } }]):=by
 have hy:=(rY Jo).2
 refine au.ak Tryz.func75 Tryz.ntmps75 fun G F R hE=>?_
 refine cX (kT bv V) ?_
 rintro bm -
 refine go ?_
 refine jK (es:=kM V.ks) (key:=id) 1 rfl k6 zr zr zr zr zr zr zr zr ?_
 rw[JD]
 obtain⟨y,YM⟩:∃y,y=getM V.ks id:=⟨_,rfl⟩
 rw[← YM]at hE hy ⊢
 refine go ?_
 refine az zr zr zr bh ?_
 intro b8
 refine go ?_
 refine aL (fun w=>Sat G w ([ae bv (cl (nv V.self++[.int .i64 V.cj,.map (some bm)]) 168),ae b8 (cl (nv { y with st:=st,since:=now }) 131)])) (cJ 0 6 (.act 6 .nil)) rfl ah ah ah dv ?_
 refine go ?_
 refine aP ?_
 refine cC (U:=aU) 1 zr zr zr zr zr zr (go ?_)
 refine eB (es:=kM V.ks) (key:=id) (v:=Qz { y with st:=st,since:=now }) 2 k6 e8 rfl rfl rfl rfl rfl rfl rfl rfl ?_
 rw[show jG (kM V.ks) id (Qz { y with st:=st,since:=now })=kM (p5 V.ks { y with st:=st,since:=now })from by rw[← P0];simp only;rw[hy]]
 refine go ?_
 refine al (ao.trans ag (iD bv bm { V with ks:=p5 V.ks { y with st:=st,since:=now } } _)) ?_
 refine bL hE Tryz.func75 rfl _ rfl ⟨rfl,rfl⟩ ag
def EP(x:Mem):au Tryz.prog 87 [.agg (nv x).toArray] [] (fun r H=>∃b:Bool,r = .bool b∧H=[]):=by
 refine au.ak Tryz.func87 Tryz.ntmps87 fun G F R hE=>?_
 refine aD rfl ?_
 refine bu zr zr bh ?_
 intro bx
 refine go ?_
 refine ad hE Tryz.func87 zr zr ⟨_,rfl,rfl⟩
end Go.Proofs.YtlcoaflddajjcaaGreatDoor
namespace Go.Proofs.YtlcoaflddajjcaaGreatDoor
open Go Go.SL
def yA.turn{V:VM}(h:yA V){id st now:Int}(Jo:id∈V.ks.map Mem.id)(hn:0≤now∧now≤1099511627776) :
  yA { V with ks:=p5 V.ks { getM V.ks id with st:=st,since:=now } }∧(p5 V.ks { getM V.ks id with st:=st,since:=now }).length=V.ks.length∧(p5 V.ks { getM V.ks id with st:=st,since:=now }).map Mem.id=V.ks.map Mem.id:=by
 have hy:=(rY Jo).2
 obtain⟨y,YM⟩:∃y:Mem,y={ getM V.ks id with st:=st,since:=now }:=⟨_,rfl⟩
 have hyi:y.id=id:=by rw[YM];exact hy
 have hys:y.since=now:=by rw[YM]
 rw[← YM]
 have hs:p5 V.ks y=V.ks.map fun x=>if x.id=y.id then y else x:=by
  unfold p5
  rw[if_pos (by rw[hyi];exact Jo)]
 have nY:(p5 V.ks y).map Mem.id=V.ks.map Mem.id:=by
  rw[hs,List.map_map]
  refine List.map_congr_left fun x _=>?_
  simp only[Function.comp]
  split
  ·rename_i h;exact h.symm
  ·rfl
 have hlen:(p5 V.ks y).length=V.ks.length:=by rw[hs,List.length_map]
 refine⟨⟨by rw[nY];exact h.nd,by simp only;rw[hlen];exact h.len,h.cj,h.inc,fun x hx=>?_⟩,hlen,nY⟩
 rcases OI hx with rfl|hx
 ·rw[hys];exact hn
 ·exact h.sn x hx
def yA.del{V:VM}(h:yA V)(id:Int):yA { V with ks:=FP V.ks id }∧(FP V.ks id).length≤V.ks.length:=by
 have hl:=List.length_filter_le (fun x:Mem => !decide (x.id=id)) V.ks
 have hlen:=h.len
 exact⟨⟨h.nd.sublist (List.Sublist.map _ List.filter_sublist),by simp only;unfold FP;omega,h.cj,h.inc,fun x hx=>h.sn x (List.mem_filter.1 hx).1⟩,hl⟩
attribute [local irreducible] J K au Ends ae aB aI bB aW aS a7 aX bF bQ II MI
def z8(bv:Nat)(V:VM)(hV:yA V)(now pat:Int) :
    au Tryz.prog 38 [ptr bv,.int .i64 now,.int .i64 pat] [bQ bv V] (fun r H=>∃(rv:Value) (e:Int) (V':VM),r = .tuple #[rv,.int .i64 e]∧H=[bQ bv V']∧yA V'∧V'.cj=V.cj∧V'.ks.length≤V.ks.length):=by
  have xW:=hV.small
  refine au.ak Tryz.func38 Tryz.ntmps38 fun G F R hE=>?_
  refine go ?_
  refine aw (lJ now 0 1099511627776) ?_
  cases h1:j7 now 0 1099511627776 with
  | false =>
    refine go ?_
    refine ad hE Tryz.func38 zr zr ⟨_,_,V,rfl,rfl,hV,rfl,Nat.le_refl _⟩
  | true =>
  refine go ?_
  refine aw (lJ pat 1 1048576) ?_
  cases h2:j7 pat 1 1048576 with
  | false =>
    refine go ?_
    refine ad hE Tryz.func38 zr zr ⟨_,_,V,rfl,rfl,hV,rfl,Nat.le_refl _⟩
  | true =>
  obtain⟨n1,n2⟩:=AQ.1 h1
  obtain⟨p1,p2⟩:=AQ.1 h2
  refine go ?_
  refine aF (Qq bv V hV.nd ai) ?_
  rintro r _⟨L,hLl,hLm,hLn,rfl⟩
  refine aH 0 rfl ?_
  rintro la lc rfl
  refine dH 0 rfl ?_
  intro hvL
  refine go ?_
  refine bj (fun y:Nat × VM × List Int × Option Addr × Nat=>y.1≤L.length∧yA y.2.1∧y.2.1.cj=V.cj∧y.2.1.ks.length≤V.ks.length∧(∀x∈L.drop y.1,x.id∈y.2.1.ks.map Mem.id)∧y.2.2.1.length≤y.1) (fun y=>L.length-y.1)
    (fun y=>[(0,ptr bv),(0+1,.int .i64 now),(0+1+1,.int .i64 pat),(8,.slice y.2.2.2.1 y.2.2.1.length y.2.2.2.2),(21,.slice la L.length lc),(22,.int .i64 (L.length:Int)),(23,.int .i64 (y.1:Int))])
    (fun y=>aB 3 1 (.slice y.2.2.2.1 y.2.2.1.length y.2.2.2.2) y.2.2.1.length (iV y.2.2.1)::bQ bv y.2.1::aB 131 4 (.slice la L.length lc) L.length (mV L)::F) (0,V,[],none,0) ⟨Nat.zero_le _,hV,rfl,Nat.le_refl _,fun x hx=>List.mem_map.2 ⟨x,hLm x hx,rfl⟩,Nat.le_refl _⟩ rfl bS (ao.trans (bg 3 1 none _) ag) ?_
  rintro⟨i,W,acc,aa,ac⟩⟨hi,hW,Zy,wR,nY,eX⟩ ih
  simp only at hi hW Zy wR nY eX
  refine go ?_
  refine aq zr zr ?_ ?_
  case' refine_2 =>
    intro _
    refine go ?_
    refine ad hE Tryz.func38 zr zr ⟨_,_,W,rfl,rfl,hW,Zy,wR⟩
  intro cL
  have dA:i<L.length:=by simp only at cL;omega
  obtain⟨x,hx⟩:∃x,L[i]?=some x:=⟨L[i],by simp⟩
  have Pa:∀(j:Nat) (v:Value),(nv x)[j]?=some v→(mV L)[i*4+j]?=some v:=fun j v hj=>by
    have h4:j<4:=by rcases Nat.lt_or_ge j 4 with h|h;exact h;rw[List.getElem?_eq_none (by rw[nu];exact h)]at hj;cases hj
    exact(cM nu hx j h4).trans hj
  obtain⟨bb,oo,cc,dL⟩:=hvL.some (by rw[← List.length_pos_iff,YG];omega)
  simp only[Value.slice.injEq,true_and]at dL
  obtain⟨rfl,rfl⟩:=dL
  obtain⟨sn1,sn2⟩:=hV.sn x (hLm x (List.mem_of_getElem? hx))
  have iX:L.drop i=x::L.drop (i+1):=by
    rw[List.drop_eq_getElem_cons dA]
    congr 1
    rw[List.getElem?_eq_getElem dA]at hx
    exact Option.some.inj hx
  have abI:x.id∈W.ks.map Mem.id:=nY x (by rw[iX];exact List.mem_cons_self ..)
  have wF:∀z∈L.drop (i+1),z.id∈W.ks.map Mem.id∧z.id≠x.id:=fun z hz=>by
    refine⟨nY z (by rw[iX];exact List.mem_cons_of_mem _ hz),fun he=>?_⟩
    have h:=hLn.sublist (List.Sublist.map Mem.id (List.drop_sublist i L))
    rw[iX,List.map_cons,List.nodup_cons]at h
    exact h.1 (by rw[← he];exact List.mem_map.2 ⟨z,hz,rfl⟩)
  refine go ?_
  refine bW i 4 zr zr zr zr zr zr zr zr dA ?_
  refine cd (U:=aU) (es:=nv x) 2 (i*4) zr zr zr hvL rfl Pa zr zr zr (go ?_)
  refine az zr zr zr bh ?_
  intro b10
  refine go ?_
  refine dP zr zr zr zr ?_ ?_
  · intro hd3
    refine go ?_
    refine eN zr zr zr (by simp only[fz];omega) ?_
    refine go ?_
    refine aq zr zr ?_ ?_
    · intro acw
      refine al (ao.pick [2] rfl) ?_
      refine cX (kT bv W) ?_
      rintro bm -
      refine aL (fun w=>Sat G w ([ae bv (cl (nv W.self++[.int .i64 W.cj,.map (some bm)]) 168),ae b10 (cl (nv x) 131)])) (cJ 0 6 (.act 6 .nil)) rfl ah ah ah dv ?_
      refine go ?_
      refine sy (U:=aU) (es:=kM W.ks) (key:=x.id) 1 k6 e8 zr zr zr zr zr zr zr ?_
      rw[P1]
      refine go ?_
      obtain⟨d1,d2⟩:=hW.del x.id
      refine al (ao.trans ag (iD bv bm { W with ks:=FP W.ks x.id } _)) ?_
      refine aM ih (i+1,{ W with ks:=FP W.ks x.id },acc,aa,ac) rfl ⟨by simp only;omega,d1,Zy,by simp only;omega,fun z hz=>by
        obtain⟨g1,g2⟩:=wF z hz
        obtain⟨w,hw,he⟩:=List.mem_map.1 g1
        exact List.mem_map.2 ⟨w,List.mem_filter.2 ⟨hw,by simpa[he]using g2⟩,he⟩,by simp only;omega⟩ (by simp only;omega) bS ag
    · intro acw
      refine go ?_
      refine dP zr zr zr zr ?_ ?_
      · intro h2';exfalso;omega
      · intro _
        refine go ?_
        refine aM ih (i+1,W,acc,aa,ac) rfl ⟨by simp only;omega,hW,Zy,wR,fun z hz=>(wF z hz).1,by simp only;omega⟩ (by simp only;omega) bS ag
  · intro hd3
    refine go ?_
    refine dP zr zr zr zr ?_ ?_
    · intro h2'
      refine go ?_
      refine aq zr zr ?_ ?_
      · intro acw
        obtain⟨t1,t2,t3⟩:=hW.turn (st:=3) abI ⟨n1,n2⟩
        refine go ?_
        have htn:=IV bv W x.id 3 now abI
        refine aw htn ?_
        refine go ?_
        refine aj (cs:=iV [x.id]) zr zr zr zr zr zr zr zr zr bh ?_
        intro row
        refine go ?_
        refine aN (H':=ae row (cl (iV [x.id]) 3)::aB 3 1 (.slice aa acc.length ac) acc.length (iV acc)::bQ bv { W with ks:=p5 W.ks { getM W.ks x.id with st:=3,since:=now } }::aB 131 4 (.slice (some ⟨bb,oo,none⟩) L.length lc) L.length (mV L)::F) ag ?_
        refine aJ (mm:=1) (news:=iV [x.id]) 1 0 zr zr zr zr zr zr zr zr zr zr zr zr (Vw.ae rfl) rfl (tu _) ai (by show(_+1)*8≤_;omega) (fun _=>rfl) bh ?_
        intro v1
        rw[show iV acc++iV [x.id]=iV (acc++[x.id])from by simp[iV],show acc.length+1=(acc++[x.id]).length from by simp]
        refine aH 1 rfl ?_
        rintro ja jc rfl
        refine go ?_
        refine aM ih (i+1,{ W with ks:=p5 W.ks { getM W.ks x.id with st:=3,since:=now } },acc++[x.id],ja,jc) rfl ⟨by simp only;omega,t1,Zy,by have:=t2;simp only at this ⊢;omega,fun z hz=>by simp only;rw[t3];exact(wF z hz).1,by simp only[List.length_append,List.length_singleton];omega⟩ (by simp only;omega) bS ag
      · intro _
        refine go ?_
        refine aM ih (i+1,W,acc,aa,ac) rfl ⟨by simp only;omega,hW,Zy,wR,fun z hz=>(wF z hz).1,by simp only;omega⟩ (by simp only;omega) bS ag
    · intro _
      refine go ?_
      refine aM ih (i+1,W,acc,aa,ac) rfl ⟨by simp only;omega,hW,Zy,wR,fun z hz=>(wF z hz).1,by simp only;omega⟩ (by simp only;omega) bS ag
def Mf(bv:Nat)(V:VM)(hV:yA V) :
  au Tryz.prog 86 [ptr bv,.func (.func 87) #[] #[] ] [bQ bv V] (fun r H=>∃l:List Int,l.length≤V.ks.length∧H=[aB 3 1 r l.length (iV l),bQ bv V]):=by
 have xW:=hV.small
 have iK:=hV.nd
 have hek:=r5 V.ks
 refine au.ak Tryz.func86 Tryz.ntmps86 fun G F R hE=>?_
 refine cX (kT bv V) ?_
 rintro bm -
 refine go ?_
 refine nL (kv:=Value.int .i64) (es:=kM V.ks) (U:=aU) 1 zr zr zr zr zr (fun _=>rfl) bh ?_
 intro it
 refine go ?_
 refine bj (fun y:List Mem × List Int × Option Addr × Nat=>(y.1.map Mem.id).Nodup∧(∀x∈y.1,x∈V.ks)∧y.2.1.length≤y.1.length) (fun y=>V.ks.length-y.1.length)
  (fun y=>[(0,ptr bv),(0+1,.func (.func 87) #[] #[]),(5,.slice y.2.2.1 y.2.1.length y.2.2.2),(12,.pointer (some ⟨it,0,none⟩))])
  (fun y=>bB (Value.int .i64) bm it (kM V.ks) (y.1.map Mem.id)::aB 3 1 (.slice y.2.2.1 y.2.1.length y.2.2.2) y.2.1.length (iV y.2.1)::ae bv (cl (nv V.self++[.int .i64 V.cj,.map (some bm)]) 168)::F) ([],[],none,0) ⟨List.nodup_nil,by simp,Nat.le_refl _⟩ rfl bS (ao.trans (bg 3 1 none _) ag) ?_
 rintro⟨dn,acc,aa,ac⟩⟨nE,dj,eX⟩ ih
 simp only at nE dj eX
 have CV:dn.length≤V.ks.length:=by
  have:=nE.length_le_of_subset (l₂:=V.ks.map Mem.id) fun n hn=>by
   obtain⟨x,hx,rfl⟩:=List.mem_map.1 hn
   exact List.mem_map.2 ⟨x,dj x hx,rfl⟩
  simpa using this
 refine go ?_
 refine qR (kv:=Value.int .i64) (es:=kM V.ks) 0 rfl k6.inj zr zr (fun _=>rfl) e8 bh ?_ ?_
 ·intro fI
  refine go ?_
  refine aN (ao.head (B:=[aI (Value.int .i64) bm (kM V.ks)]) (fun h hs=>by obtain⟨h',s,hm⟩:=jD h hs;exact⟨h',s,dG hm⟩)) ?_
  refine aw (tQ _ acc ai) ?_
  refine go ?_
  refine al (ao.trans (H2:=ae bv (cl (nv V.self++[.int .i64 V.cj,.map (some bm)]) 168)::aI (Value.int .i64) bm (kM V.ks)::aB 3 1 (.slice aa acc.length ac) acc.length (iV (hJ acc))::F) ag (iD bv bm V _)) ?_
  have Jd:=fD acc
  refine al (H':=aB 3 1 (.slice aa acc.length ac) (hJ acc).length (iV (hJ acc))::bQ bv V::F) (by rw[Jd];exact ag) ?_
  refine ad hE Tryz.func86 zr zr ⟨hJ acc,ai,rfl⟩
 ·intro key v eR mK
  obtain⟨y,hy1,QH⟩:=List.mem_map.1 eR
  simp only[Prod.mk.injEq]at QH
  obtain⟨rfl,rfl⟩:=QH
  have Zm:((y::dn).map Mem.id).Nodup:=List.nodup_cons.2 ⟨mK,nE⟩
  have MC:∀x∈y::dn,x∈V.ks:=fun x hx=>by
   rcases List.mem_cons.1 hx with rfl|h
   ·exact hy1
   ·exact dj x h
  have cL:dn.length<V.ks.length:=by
   have h1:=Zm.length_le_of_subset (l₂:=V.ks.map Mem.id) fun n hn=>by
    obtain⟨x,hx,rfl⟩:=List.mem_map.1 hn
    exact List.mem_map.2 ⟨x,MC x hx,rfl⟩
   simp only[List.length_map,List.length_cons]at h1
   omega
  refine go ?_
  refine nN (kv:=Value.int .i64) (es:=kM V.ks) 0 rfl k6.inj zr zr eR ?_
  unfold Qz
  refine go ?_
  refine az zr zr zr bh ?_
  intro b7
  refine go ?_
  refine bP 0 zr zr zr zr zr zr (go ?_)
  refine aF (EP y) ?_
  rintro _ _⟨b,rfl,rfl⟩
  cases b with
  | false =>
   refine go ?_
   refine aM ih (y::dn,acc,aa,ac) rfl ⟨Zm,MC,by simp only[List.length_cons];omega⟩ (by show _-(y::dn).length<_;simp only[List.length_cons];omega) bS ag
  | true =>
   refine go ?_
   refine aj (cs:=iV [y.id]) zr zr zr zr zr zr zr zr zr bh ?_
   intro row
   refine go ?_
   refine aN (H':=ae row (cl (iV [y.id]) 3)::aB 3 1 (.slice aa acc.length ac) acc.length (iV acc)::bB (Value.int .i64) bm it (kM V.ks) (y.id::dn.map Mem.id)::ae bv (cl (nv V.self++[.int .i64 V.cj,.map (some bm)]) 168)::F) ag ?_
   refine aJ (mm:=1) (news:=iV [y.id]) 1 0 zr zr zr zr zr zr zr zr zr zr zr zr (Vw.ae rfl) rfl (tu _) ai (by show(_+1)*8≤_;omega) (fun _=>rfl) bh ?_
   intro v1
   rw[show iV acc++iV [y.id]=iV (acc++[y.id])from by simp[iV],show acc.length+1=(acc++[y.id]).length from by simp]
   refine aH 1 rfl ?_
   rintro ja jc rfl
   refine go ?_
   refine aM ih (y::dn,acc++[y.id],ja,jc) rfl ⟨Zm,MC,by simp only[List.length_cons,List.length_append,List.length_nil];omega⟩ (by show _-(y::dn).length<_;simp only[List.length_cons];omega) bS ag
def z6(bv:Nat)(V:VM)(hV:yA V)(seed:Int) :
  au Tryz.prog 42 [ptr bv,.int .u64 seed] [bQ bv V] (fun r H=>∃(id:Int) (b:Bool),r = .tuple #[.int .i64 id,.bool b]∧H=[bQ bv V]∧(V.ks=[]→b=false)):=by
 have xW:=hV.small
 refine au.ak Tryz.func42 Tryz.ntmps42 fun G F R hE=>?_
 refine go ?_
 refine aF (Mf bv V hV) ?_
 rintro r _⟨l,hl,rfl⟩
 refine aH 0 rfl ?_
 rintro la lc rfl
 refine dH 0 rfl ?_
 intro hvl
 refine go ?_
 refine aq zr zr ?_ ?_
 ·intro h0
  refine go ?_
  refine ad hE Tryz.func42 zr zr ⟨_,false,rfl,rfl,fun _=>rfl⟩
 intro h0
 have ML:0<l.length:=by omega
 have oN:=tM (x:=(oG (gz seed)).toNat) (n:=l.length) (by have:=nw (gz seed);omega) ML
 have Jw:=fun b=>tX b seed l.length ai
 generalize hd:gW (oG (gz seed)).toNat l.length=d at oN Jw
 obtain⟨x,hx⟩:∃x,l[d]?=some x:=⟨l[d],by simp[oN]⟩
 obtain⟨bb,oo,cc,dL⟩:=hvl.some (YK ML)
 simp only[Value.slice.injEq,true_and]at dL
 obtain⟨rfl,rfl⟩:=dL
 refine go ?_
 refine aF (lR seed) ?_
 rintro _ _⟨bs,rfl,rfl⟩
 refine go ?_
 refine aw (Jw bs) ?_
 refine go ?_
 refine bp d zr zr zr zr zr zr zr zr oN ?_
 refine aQ 1 d zr zr zr hvl rfl (jE hx) zr zr (go ?_)
 ((refine ad hE Tryz.func42 zr zr ⟨_,true,rfl,rfl,fun h=>by rw[h]at hl;simp only[List.length_nil]at hl;omega⟩))
end Go.Proofs.YtlcoaflddajjcaaGreatDoor
namespace Go.SL
section
variable{P:Program}{f:FuncId}{n:Nat}{R:Ending→World→Prop}{G:ct}{k:List Item}{L:eH}{H:List HP}
def eQ{k0:List Item}{c:Code}(hk:fZ 1000 k0 = .mk (.code (.loop c)::k))(h:K P f n R G (.code c :: .inLoop c::k) L H):K P f n R G k0 L H :=
 fp 1000 hk (mj (fun a cs w=>stepR_loop) h)
def cV{k0:List Item}{c:Code}(hk:fZ 1000 k0 = .mk (.inLoop c::k))(h:K P f n R G (.code c :: .inLoop c::k) L H):K P f n R G k0 L H :=
 fp 1000 hk (mj (fun a cs w=>stepR_inLoop) h)
end
end Go.SL
namespace Go.Proofs.YtlcoaflddajjcaaGreatDoor
open Go Go.SL
attribute [local irreducible] J K au Ends ae aB aI bB aW aS a7 aX bF bQ II fU
def Gi(kb:Nat)(lim fC cj:Int):au Tryz.prog 73 [ptr kb] [fU kb lim fC cj] (fun r H=>H=[aB 3 1 r 0 [],fU kb lim fC cj]):=by
 refine au.ak Tryz.func73 Tryz.ntmps73 fun G F R hE=>?_
 refine cX (Df kb lim fC cj) ?_
 rintro km -
 refine go ?_
 refine aF (I3 km) ?_
 rintro _ _⟨bx,rfl,rfl⟩
 refine go ?_
 ((refine aF (lS 262 [ptr bx] 0 [ae bx (cl [.map (some km)] 169),aI (Value.int .i64) km [] ] [aI (Value.int .i64) km [] ] (fun xs=>xs.Perm (([]:List (Int × Value)).map (·.1))) ai (Fi bx km [] List.nodup_nil) (fun xs h=>by rw[h.length_eq];simp)) ?_))
 rintro r _⟨xs,I9,rfl⟩
 obtain rfl:xs=[]:=List.Perm.eq_nil I9
 have e:hJ []=[]:=by simp[hJ]
 rw[e]
 refine go ?_
 refine al (ao.trans (H2:=ae kb (cl [.int .i64 lim,.int .i64 fC,.int .i64 cj,.map (some km)] 171)::aI (Value.int .i64) km []::aB 3 1 r 0 []::F) ag (tL kb km lim fC cj _)) ?_
 refine aK hE Tryz.func73 rfl _ zr zr ag
def uK(kb:Nat)(lim fC cj now:Int):au Tryz.prog 37 [ptr kb,.int .i64 now] [fU kb lim fC cj] (fun r H=>∃(rv:Value) (e:Int),r = .tuple #[rv,.int .i64 e]∧H=[fU kb lim fC cj]):=by
 refine au.ak Tryz.func37 Tryz.ntmps37 fun G F R hE=>?_
 refine go ?_
 refine aw (lE now 0 1099511627776) ?_
 cases h:j7 now 0 1099511627776 with
 | false =>
  refine go ?_
  refine ad hE Tryz.func37 zr zr ⟨_,_,rfl,rfl⟩
 | true =>
  refine go ?_
  refine aF (Gi kb lim fC cj) ?_
  rintro r _ rfl
  refine aH 0 rfl ?_
  rintro ra rc rfl
  refine go ?_
  refine eQ rfl (go ?_)
  refine ad hE Tryz.func37 zr zr ⟨_,_,rfl,rfl⟩
def D6(kb:Nat)(lim fC cj id now:Int):au Tryz.prog 99 [ptr kb,.int .i64 id,.int .i64 now] [fU kb lim fC cj] (fun r H=>r = .bool false∧H=[fU kb lim fC cj]):=by
 refine au.ak Tryz.func99 Tryz.ntmps99 fun G F R hE=>?_
 refine cX (Df kb lim fC cj) ?_
 rintro km -
 refine go ?_
 refine jK (es:=[]) (key:=id) 1 rfl k6 zr zr zr zr zr zr zr zr (go ?_)
 refine al (ao.trans ag (tL kb km lim fC cj _)) ?_
 refine ad hE Tryz.func99 zr zr ⟨rfl,rfl⟩
end Go.Proofs.YtlcoaflddajjcaaGreatDoor
namespace Go.Proofs.YtlcoaflddajjcaaGreatDoor
open Go Go.SL
attribute [local irreducible] J K au Ends ae aB aI bB aW aS a7 aX bF Sha.chunks Sha.chunk Sha.rounds Sha.sched ej cz GI dq aC
def Gt(bs bd:Nat)(q:Int)(mb:Nat)(brk:Bool)(A:Ab):au Tryz.prog 46 [ptr bs] [ae bs (cl (dg bd q mb brk) 146),aC bd A]
  (fun r H=>H=[aB 32 32 r (lL A).length ((lL A).flatMap dC),ae bs (cl (dg bd q mb brk) 146),aC bd A]):=by
 refine au.ak Tryz.func46 Tryz.ntmps46 fun G F R hE=>?_
 refine sm (bd:=bd) (A:=A) 1 rfl ?_
 intro FB
 have CN:=nt FB
 obtain⟨l,hl⟩:∃l,l=eW A:=⟨_,rfl⟩
 have j9:lL A=l.filterMap (gT kI):=by unfold lL;rw[hl]
 have tA:=pj bd A
 rw[← hl]at tA CN
 rw[j9]at hE
 refine go ?_
 refine aF tA ?_
 rintro r _ rfl
 refine aH 0 rfl ?_
 rintro ra rc rfl
 refine dH 0 rfl ?_
 intro cW
 refine go ?_
 refine al (bg 32 32 none _) ?_
 refine bj (fun y:Nat × List Dg × Option Addr × Nat=>y.1≤l.length∧y.2.1=(l.take y.1).filterMap (gT kI)) (fun y=>l.length-y.1)
  (fun y=>[(0,ptr bs),(3,.slice y.2.2.1 y.2.1.length y.2.2.2),(12,.slice ra l.length rc),(13,.int .i64 (l.length:Int)),(14,.int .i64 (y.1:Int))])
  (fun y=>aB 32 32 (.slice y.2.2.1 y.2.1.length y.2.2.2) y.2.1.length (y.2.1.flatMap dC)::aB 9 1 (.slice ra l.length rc) l.length (l.map Value.string)::ae bs (cl (dg bd q mb brk) 146)::aC bd A::F) (0,[],none,0) ⟨Nat.zero_le _,rfl⟩ rfl bS ag ?_
 rintro⟨i,acc,xa,xc⟩⟨hi,eX⟩ ih
 simp only at hi eX
 have KO:acc.length≤200:=by
  have h1:=List.length_filterMap_le (gT kI) (l.take i)
  rw[← eX,List.length_take]at h1
  omega
 dsimp only
 refine go ?_
 refine aq zr zr ?_ ?_
 ·intro cL
  have dA:i<l.length:=by omega
  obtain⟨nm,hx⟩:∃x,l[i]?=some x:=⟨l[i],by simp⟩
  have gS:(l.take (i+1)).filterMap (gT kI)=acc++(match gT kI nm with|none=>[]|some d=>[d]):=by
   rw[List.take_add_one,hx,List.filterMap_append,eX]
   congr 1
   cases hh:gT kI nm <;> simp[hh]
  have dt:(l.map Value.string)[i]?=some (.string nm):=by rw[List.getElem?_map,hx];rfl
  obtain⟨b,o,eY,dL⟩:=cW.some (by intro h;rw[h]at dt;simp at dt)
  simp only[Value.slice.injEq]at dL
  obtain⟨rfl,_,rfl⟩:=dL
  refine go ?_
  refine bW i 1 zr zr zr zr zr zr zr zr dA ?_
  refine aP ?_
  refine aQ 1 (i*1) zr zr zr cW rfl (by rw[Nat.mul_one];exact dt) zr zr ?_
  refine go ?_
  refine aw (wP kI nm (by decide)) ?_
  cases hh:gT kI nm with
  | none =>
   rw[hh]at gS
   simp only[List.append_nil]at gS
   simp only[wQ]
   unfold dV
   refine go ?_
   refine az zr zr zr bh ?_
   intro b9
   refine go ?_
   refine aM ih (i+1,acc,xa,xc) rfl ⟨by simp only;omega,gS.symm⟩ (by simp only;omega) bS ag
  | some d =>
   rw[hh]at gS
   simp only at gS
   simp only[wQ]
   unfold dV
   refine go ?_
   refine az zr zr zr bh ?_
   intro b9
   refine go ?_
   refine aO (U:=aU) (l:=dC d) 0 zr zr zr zr zr zr ?_
   refine aj (cs:=dC d) zr zr zr zr zr zr zr zr zr bh ?_
   intro row
   refine go ?_
   refine aJ (mm:=1) (news:=dC d) 2 0 zr zr zr zr zr zr zr zr zr zr zr zr (Vw.ae rfl) rfl (by rw[dW];exact cB _) ai (by show(_+1)*32≤_;omega) (fun _=>rfl) bh ?_
   intro v1
   rw[show acc.flatMap dC++dC d=(acc++[d]).flatMap dC from by simp,show acc.length+1=(acc++[d]).length from by simp]
   refine aH 2 rfl ?_
   rintro Od Oc rfl
   refine go ?_
   refine aM ih (i+1,acc++[d],Od,Oc) rfl ⟨by simp only;omega,gS.symm⟩ (by simp only;omega) bS ag
 ·intro ep
  have qY:i=l.length:=by omega
  rw[qY,List.take_length]at eX
  rw[← eX]at hE
  clear ih
  refine go ?_
  refine aK hE Tryz.func46 rfl _ zr zr ag
end Go.Proofs.YtlcoaflddajjcaaGreatDoor
namespace Go.Proofs.YtlcoaflddajjcaaGreatDoor
open Go Go.SL
attribute [local irreducible] J K au Ends ae aB aI bB aW aS a7 aX bF aC da
def xR(a:Option Addr)(c:Nat)(fv:Value):au Tryz.prog 70 [.slice a 0 c,fv] [] (fun r H=>r = .int .i64 (-1)∧H=[]):=by
 refine au.ak Tryz.func70 Tryz.ntmps70 fun G F R hE=>?_
 refine go ?_
 refine eQ rfl (go ?_)
 refine ad hE Tryz.func70 zr zr ⟨rfl,rfl⟩
section
variable(nb:Nat)(id:Int)(S:sP)(st tb bv kb hb ms mg:Nat)(pv:Value)(br:Bool)
def JJ(d:Dg)(a:Option Addr)(c:Nat)(hp:pv = .slice a 0 c):au Tryz.prog 34 [ptr nb,dV d] [ae nb (cl (cy id S st tb bv kb hb pv ms mg br) 98)] (fun r H=>r = .int .i64 (-1)∧H=[ae nb (cl (cy id S st tb bv kb hb pv ms mg br) 98)]):=by
 subst hp
 unfold dV
 refine au.ak Tryz.func34 Tryz.ntmps34 fun G F R hE=>?_
 refine aD rfl ?_
 refine bu zr zr bh ?_
 intro b3
 refine go ?_
 refine aw (xR a c _) ?_
 refine go ?_
 refine ad hE Tryz.func34 zr zr ⟨rfl,rfl⟩
end
end Go.Proofs.YtlcoaflddajjcaaGreatDoor
namespace Go.Proofs.YtlcoaflddajjcaaGreatDoor
open Go Go.SL
def P6{ts:List Tk}(h:kO ts=[]):ts=[]:=by
 unfold kO at h
 exact List.map_eq_nil_iff.1 h
theorem Nd{A:Ab}(h:HA A)(hn:A.names=[])(hw:A.writes.length≤700000000):∀B,pg A 0 B→B.writes.length≤700000000∧(jT B gm).length≤900000∧(∀x∈jT B gm,x.length≤1000000)∧((jT B gm).foldl fM []).length≤100:=by
 grind [xE,jT,gm,FM,GC]
attribute [local irreducible] J K au Ends ae aB aI bB aW aS a7 aX bF Sha.chunks Sha.chunk Sha.rounds Sha.sched ej cz GI dq aC da bC
end Go.Proofs.YtlcoaflddajjcaaGreatDoor
namespace Go.Proofs.YtlcoaflddajjcaaGreatDoor
open Go Go.SL
structure aev(A:Ab):Prop where
 noF:∀d,nZ A (eS kB d)=false
 YE:∀d,gf A d=none
 im:lL A=[]
theorem QD.nil{t:SJ}(h:QD t):aev t.1.A:=⟨fun d=>h.noF (lP kB d),fun d=>h.image d (lP kI d),h.YL (by
  cases hh:gT kI gm with
  | none=>rfl
  | some d=>exact absurd (Jx.1 hh).symm (lP kI d))⟩
structure NH(S:sP):Prop where
 q:1≤S.aT∧S.aT≤1073741824
 bR:1≤S.bR∧S.bR≤64
 cj:1≤S.cj∧S.cj≤256
 each:1≤S.each∧S.each≤S.cj
 pat:1≤S.pat∧S.pat≤1048576
 lim:1≤S.lim∧S.lim≤100
 fC:1≤S.fC∧S.fC≤1048576
 bG:1≤S.bG∧S.bG≤16
def j6{n lo hi:Int}(h:lo≤n∧n≤hi):j7 n lo hi=true:=by
 unfold j7
 rw[decide_eq_true h.1,decide_eq_true h.2]
 rfl
attribute [local irreducible] J K au Ends ae aB aI bB aW aS a7 aX bF aC da
def Bb(X:HP)(hK:pY X)(bd:Nat)(q:Int)(hq:1≤q∧q≤1073741824)(room:Nat):au Tryz.prog 23 [ptr bd,.int .i64 q] [aC bd (Ab.new room),X]
  (fun r H=>∃bs mb,pg (Ab.new room) 0 (Ab.new room)∧r = .tuple #[ptr bs,.int .i64 0]∧H=[ae bs (cl (dg bd q mb false) 146),aI dV mb (du []),aC bd (Ab.new room),X]):=by
 refine au.post (Kh X hK bd q (Ab.new room) (by show 1≤_;omega)) fun v H h=>?_
 rcases h with⟨h,_⟩|⟨_,h,_⟩|⟨_,_,e,B,ho,hc⟩
 ·exfalso;omega
 ·cases h
 obtain⟨rfl,rfl⟩:=xE rfl ho
 rcases hc with⟨h,_⟩|⟨_,_,bs,mb,h1,h2⟩
 ·exact absurd rfl h
 ·exact⟨bs,mb,ho,h1,h2⟩
def AH(X:HP)(hK:pY X)(bs bd:Nat)(q:Int)(hq:1≤q∧q≤1073741824)(mb room:Nat)(hr:64≤room)(ho:pg (Ab.new room) 0 (Ab.new room)):au Tryz.prog 25 [ptr bd,ptr bs] [ae bs (cl (dg bd q mb false) 146),aI dV mb (du []),aC bd (Ab.new room),X]
  (fun r H=>∃(t:SJ) (tb jb:Nat) (tv:Value),QD t∧r = .tuple #[ptr tb,.int .i64 0]∧H=fq tb bs jb tv [] false++[da bs bd jb q mb [] t,X]):=by
 obtain⟨b1,b2,b3,b4⟩:=Nd (HA.new room) rfl (by show 0≤_;omega) (Ab.new room) ho
 refine au.post (Ki X hK bs bd q ⟨ai,hq.2⟩ mb ⟨Ab.new room,[],false⟩ ⟨by simp,by simp⟩ (by simp) (by show 1≤_;omega) (by show 0≤_;omega) b2 b3 b4) fun v H h=>?_
 obtain⟨e,t,jn,cs,hO,hc⟩:=h
 obtain⟨rfl,rfl,hq⟩:=QD.new (t:=(t,jn)) hr (⟨0,Ab.new room,ho,by rw[if_neg ai];exact⟨t,jn,hO,rfl⟩⟩:NA q (Ab.new room) e (t,jn) cs)
 rcases hc with⟨h,_⟩|⟨_,tb,jb,tv,ts,CW,h1,h2⟩
 ·exact absurd rfl h
 ·have:=P6 CW
  subst this
  exact⟨(t,jn),tb,jb,tv,hq,h1,h2⟩
attribute [local irreducible] bQ fU
section
variable(nb:Nat)(id:Int)(S:sP)(st tb bv kb hb ms mg:Nat)(pv:Value)(br:Bool)
def kV(bd:Nat)(q:Int)(mb:Nat)(bk:Bool)(A:Ab)(d:Dg)(tz:gf A d=none):au Tryz.prog 35 [ptr nb,dV d] [ae nb (cl (cy id S st tb bv kb hb pv ms mg br) 98),ae st (cl (dg bd q mb bk) 146),aC bd A]
  (fun r H=>r = .bool false∧H=[ae nb (cl (cy id S st tb bv kb hb pv ms mg br) 98),ae st (cl (dg bd q mb bk) 146),aC bd A]):=by
 have hi:=xT st bd q mb bk A d
 rw[tz]at hi
 unfold dV tt at hi
 unfold dV
 refine au.ak Tryz.func35 Tryz.ntmps35 fun G F R hE=>?_
 refine aD rfl ?_
 refine bu zr zr bh ?_
 intro b3
 refine go ?_
 refine aL (fun w=>Sat G w ([ae nb (cl (cy id S st tb bv kb hb pv ms mg br) 98),ae b3 (cl (dC d) 32)])) (cJ 0 5 (.fork (.act 5 (cJ 6 3 (.act 9 (.act 10 (.st 11 .nil))))) (.act 9 (.act 5 (cJ 6 3 (.act 10 (.st 11 .nil))))))) rfl ah ah ah dv ?_
 refine go ?_
 refine bX (U:=aU) (l:=dC d) 1 zr zr zr zr zr zr (go ?_)
 refine nM ?_ ?_
 ·((refine de zr zr zr zr (hi) ag ?_ (fun _ _ w hp hw=>by obtain⟨_,rfl,rfl⟩:=hp;exact hw.cu ag)))
  rintro _ _⟨rv,rfl,rfl⟩
  refine aH 0 rfl ?_
  rintro ra rc rfl
  refine go ?_
  refine az zr zr zr (fun _ _ hw=>hw.cu ag) ?_
  intro b5
  refine go ?_
  (refine aY ?_;(refine bN 0 dv zr zr zr zr zr zr zr zr zr ?_))
  refine go ?_
  refine ad hE Tryz.func35 zr zr ⟨rfl,rfl⟩
 ·refine az zr zr zr (fun _ _ hw=>hw.cu ag) ?_
  intro b5
  refine go ?_
  ((refine de zr zr zr zr (hi) ag ?_ (fun _ _ w hp hw=>by obtain⟨_,rfl,rfl⟩:=hp;exact hw.cu ag)))
  rintro _ _⟨rv,rfl,rfl⟩
  refine aH 0 rfl ?_
  rintro ra rc rfl
  refine go ?_
  (refine aY ?_;(refine bN 3 dv zr zr zr zr zr zr zr zr zr ?_))
  refine go ?_
  refine ad hE Tryz.func35 zr zr ⟨rfl,rfl⟩
end
end Go.Proofs.YtlcoaflddajjcaaGreatDoor
namespace Go.Proofs.YtlcoaflddajjcaaGreatDoor
open Go Go.SL
def uR(d:Dg):List Value := .int .i64 0::mC BB { mY.zero with kind:=9,hash:=d }
def AI(t:Int)(v:MV)(m:mY)(h1:v.i.oneCell'=true)(h2:v.b.oneCell'=true)(h3:v.p.oneCell'=true)(h4:v.m.oneCell'=true):∀u∈Value.int .i64 t::mC v m,u.oneCell'=true:=by
 intro u hu
 unfold mC at hu
 rcases List.mem_cons.1 hu with rfl|hu
 ·rfl
 rcases List.mem_cons.1 hu with rfl|hu
 ·rfl
 rcases List.mem_append.1 hu with hu|hu
 ·exact FR [m.hash] u (by simpa using hu)
 ·simp only[List.mem_cons,List.not_mem_nil,or_false]at hu
  rcases hu with rfl|rfl|rfl|rfl|rfl|rfl
  ·rfl
  ·exact h1
  ·exact h2
  ·exact h3
  ·exact h4
  ·rfl
def G0(d:Dg)(at_:Int):List Value:=dC d++[.pointer none,.int .i64 at_,.int .i64 0]
structure Qg where
 a:Option Addr
 c:Nat
 pb:Nat
 d:Dg
def plA:Option Qg→Option Addr
 | none=>none
 | some p=>p.a
def plK:Option Qg→Nat
 | none=>0
 | some p=>p.c
def Z8:Option Qg→Nat
 | none=>0
 | some _=>1
def IH(op:Option Qg):Value := .slice (plA op) (Z8 op) (plK op)
def Qx:Option Qg→HP
 | none=>emp
 | some p=>star (aB 118 1 (.slice p.a 1 p.c) 1 [ptr p.pb]) (ae p.pb (cl (G0 p.d (-1)) 117))
def plO:Option Qg→List Value
 | none=>[]
 | some p=>uR p.d
attribute [local irreducible] J K au Ends ae aB aI bB aW aS a7 aX bF aC da bQ fU bC
def zZ(nb:Nat)(id:Int)(S:sP)(st tb bv kb hb ms mg:Nat)(bd:Nat)(q:Int)(mb:Nat)(bk:Bool)(A:Ab)(d:Dg)(tz:gf A d=none) :
  au Tryz.prog 10 [ptr nb,dV d] [ae nb (cl (cy id S st tb bv kb hb (.slice none 0 0) ms mg false) 98),ae st (cl (dg bd q mb bk) 146),aC bd A]
  (fun r H=>∃p:Qg,p.d=d∧r = .int .i64 0∧H=[ae nb (cl (cy id S st tb bv kb hb (IH (some p)) ms mg false) 98),Qx (some p),ae st (cl (dg bd q mb bk) 146),aC bd A]):=by
 have Hb:=kV nb id S st tb bv kb hb ms mg (.slice none 0 0) false bd q mb bk A d tz
 have xY:=JJ nb id S st tb bv kb hb ms mg (.slice none 0 0) false d none 0 rfl
 unfold dV at Hb xY ⊢
 refine au.ak Tryz.func10 Tryz.ntmps10 fun G F R hE=>?_
 refine aD rfl ?_
 refine bu zr zr bh ?_
 intro b3
 refine go ?_
 refine aO (U:=aU) (l:=dC d) 0 zr zr zr zr zr zr (go ?_)
 refine aw xY ?_
 refine aN (H':=ae b3 (cl (dC d) 32)::ae nb (cl (cy id S st tb bv kb hb (.slice none 0 0) ms mg false) 98)::ae st (cl (dg bd q mb bk) 146)::aC bd A::F) ag (go ?_)
 refine aO (U:=aU) (l:=dC d) 0 zr zr zr zr zr zr (go ?_)
 refine aw Hb ?_
 refine aN (H':=ae b3 (cl (dC d) 32)::ae nb (cl (cy id S st tb bv kb hb (.slice none 0 0) ms mg false) 98)::ae st (cl (dg bd q mb bk) 146)::aC bd A::F) ag (go ?_)
 refine aL (fun w=>Sat G w ([ae nb (cl (cy id S st tb bv kb hb (.slice none 0 0) ms mg false) 98),ae b3 (cl (dC d) 32)])) (cJ 0 7 (.act 7 (.act 8 (.act 9 (.st 10 (.st 11 (.act 12 .nil))))))) rfl ah ah ah dv ?_
 refine go ?_
 refine bX (U:=aU) (l:=dC d) 1 zr zr zr zr zr zr (go ?_)
 refine bu zr zr (fun _ w hw=>hw.cu ag) ?_
 intro pb
 refine go ?_
 refine aj (cs:=[ptr pb]) zr zr zr zr zr zr zr zr zr (fun _ w hw=>hw.cu ag) ?_
 intro row
 refine go ?_
 refine aN (bg 118 1 none _) ?_
 refine aJ (mm:=1) (news:=[ptr pb]) 0 1 rfl rfl rfl rfl rfl rfl rfl rfl rfl rfl rfl rfl (Vw.ae rfl) rfl (by intro v hv;simp at hv;subst hv;rfl) ai (by decide) (fun _=>rfl) (fun _ w hw=>hw.cu ag) ?_
 intro v2
 refine aH 0 rfl ?_
 rintro la lc rfl
 refine go ?_
 (refine aY ?_;(refine bN 4 e8 zr zr zr zr zr zr zr zr zr ?_))
 refine go ?_
 refine al (H':=Qx (some ⟨la,lc,pb,d⟩)::ae nb (cl (cy id S st tb bv kb hb (.slice la 1 lc) ms mg false) 98)::ae st (cl (dg bd q mb bk) 146)::aC bd A::F) (ao.trans (H2:=aB 118 1 (.slice la 1 lc) 1 [ptr pb]::ae pb (cl (G0 d (-1)) 117)::ae nb (cl (cy id S st tb bv kb hb (.slice la 1 lc) ms mg false) 98)::ae st (cl (dg bd q mb bk) 146)::aC bd A::F) ag (ao.join _ _ _)) ?_
 refine ad hE Tryz.func10 zr zr ⟨⟨la,lc,pb,d⟩,rfl,rfl,rfl⟩
section
variable(nb:Nat)(id:Int)(S:sP)(st tb bv kb hb ms mg:Nat)(pv:Value)(br:Bool)
def yM(pb:Nat)(d:Dg)(now seed:Int)(bd:Nat)(q:Int)(mb:Nat)(bk:Bool)(A:Ab)(tz:gf A d=none) :
  au Tryz.prog 40 [ptr nb,ptr pb,.int .i64 now,.int .u64 seed] [ae nb (cl (cy id S st tb bv kb hb pv ms mg br) 98),ae pb (cl (G0 d (-1)) 117),ae st (cl (dg bd q mb bk) 146),aC bd A]
  (fun r H=>∃rb:Nat,r = .tuple #[.slice (some ⟨rb,0,none⟩) 1 1,.bool false,.int .i64 0]∧H=[ae rb (cl (uR d) 58),ae nb (cl (cy id S st tb bv kb hb pv ms mg br) 98),ae pb (cl (G0 d now) 117),ae st (cl (dg bd q mb bk) 146),aC bd A]):=by
 have Hb:=kV nb id S st tb bv kb hb ms mg pv br bd q mb bk A d tz
 have hmg:=Cv 9 d
 unfold dV at Hb hmg
 refine au.ak Tryz.func40 Tryz.ntmps40 fun G F R hE=>?_
 refine aD rfl ?_
 refine bu zr zr bh ?_
 intro b4
 refine go ?_
 refine aL (fun w=>Sat G w ([ae b4 (cl [ptr nb] 39),ae pb (cl (G0 d (-1)) 117)])) (cJ 0 5 (.act 5 (.st 6 .nil))) rfl ah ah ah dv ?_
 refine go ?_
 refine cC (U:=aU) (cs:=dC d) 1 zr zr zr zr zr zr (go ?_)
 refine bE Hb ?_
 refine go ?_
 refine aL (fun w=>Sat G w ([ae b4 (cl [ptr nb] 39),ae pb (cl (G0 d (-1)) 117)])) (cJ 0 12 (.act 12 (.st 13 (.st 14 .nil)))) rfl ah ah ah dv ?_
 refine go ?_
 refine bE (Nh nb id S st tb bv kb hb ms mg pv br now) ?_
 refine aN (H':=ae pb (cl (G0 d (-1)) 117)::ae nb (cl (cy id S st tb bv kb hb pv ms mg br) 98)::ae st (cl (dg bd q mb bk) 146)::aC bd A::F) ag (go ?_)
 refine bP (cs:=dC d) 0 zr zr zr zr zr zr (go ?_)
 refine aw hmg ?_
 refine go ?_
 refine aj (cs:=uR d) zr zr zr zr zr zr zr zr zr bh ?_
 intro rb
 refine go ?_
 refine ad hE Tryz.func40 zr zr ⟨rb,rfl,rfl⟩
def sk(bd:Nat)(q:Int)(mb:Nat)(bk:Bool)(A:Ab)(tz:lL A=[]):au Tryz.prog 14 [ptr nb] [ae nb (cl (cy id S st tb bv kb hb pv ms mg br) 98),ae st (cl (dg bd q mb bk) 146),aC bd A]
  (fun r H=>∃a c,r = .slice a 0 c∧H=[ae nb (cl (cy id S st tb bv kb hb pv ms mg br) 98),ae st (cl (dg bd q mb bk) 146),aC bd A]):=by
 have hi:=Gt st bd q mb bk A
 rw[tz]at hi
 refine au.ak Tryz.func14 Tryz.ntmps14 fun G F R hE=>?_
 refine go ?_
 refine aF hi ?_
 rintro r _ rfl
 refine aH 0 rfl ?_
 rintro ra rc rfl
 refine go ?_
 refine ad hE Tryz.func14 zr zr ⟨ra,rc,rfl,rfl⟩
end
end Go.Proofs.YtlcoaflddajjcaaGreatDoor
