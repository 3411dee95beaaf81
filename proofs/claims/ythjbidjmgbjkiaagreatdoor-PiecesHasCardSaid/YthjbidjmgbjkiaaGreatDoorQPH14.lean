/- Texts of one claim, joined: Yo, Ys, Yu, Yv, Yw, Yy, Yp, Yq, Yr, EngS, EngW, Vh0, Yx, Za. -/
import Derived.Test.YthjbidjmgbjkiaaGreatDoorQPH3
import Derived.Test.YthjbidjmgbjkiaaGreatDoorQPH5
import Derived.Test.YthjbidjmgbjkiaaGreatDoorQPH6
import Derived.Test.YthjbidjmgbjkiaaGreatDoorQPH8
import Derived.Test.YthjbidjmgbjkiaaGreatDoorQPH9
import Derived.Test.YthjbidjmgbjkiaaGreatDoorQPH10
import Derived.Test.YthjbidjmgbjkiaaGreatDoorQPH11
import Derived.Test.YthjbidjmgbjkiaaGreatDoorQPH12
import Derived.Test.YthjbidjmgbjkiaaGreatDoorQPH13
import Derived.OpenShut
import Derived.Deep.Slices
import Derived.DataElems
set_option linter.unusedSimpArgs false
set_option linter.unusedVariables false
namespace Go.Proofs.YthjbidjmgbjkiaaGreatDoor
open Go Go.SL
theorem Aq.aa6{M:UI}{ls:List (List UInt8)}(h:Aq M ls){A:HP}{cs:List Value}{Zp:List (List UInt8)}(hl:cs.length=Zp.length)(hx:∀(i:Nat) (x:List UInt8),Zp[i]?=some x→∃cv,cs[i]?=some cv∧dR A cv x):Aq ⟨M.cs++cs,Sep [A,M.Z]⟩ (ls++Zp):=by
 obtain⟨h1,h2⟩:=h
 refine⟨by simp[h1,hl],fun i y hy=>?_⟩
 simp only
 rw[List.getElem?_append]at hy ⊢
 rw[h1]
 split at hy
 ·rename_i cO
  rw[if_pos cO]
  obtain⟨XS,h3,h4⟩:=h2 i y hy
  exact⟨XS,h3,h4.mono (aW (i:=1) rfl)⟩
 ·rename_i eQ
  rw[if_neg eQ]
  obtain⟨XS,h3,h4⟩:=hx _ y hy
  exact⟨XS,h3,h4.mono (aW (i:=0) rfl)⟩
attribute [local irreducible] J K aD Ends ag az aL bK aZ aQ aV bg bQ aC bS tX
set_option maxRecDepth 20000 in
set_option maxHeartbeats 4000000 in
theorem IS(X:HP)(hK:mX X)(bs bd:Nat)(q:Int)(hq:0≤q∧q≤1073741824)(mb:Nat)(s:ek)(Lo:mU s.aT)(jV:s.aT.length≤900000)(cE:s.A.aH.length≤700000000)(eA:s.A.writes.length≤700000000)(qS:(iG s.A dX).length≤900000)(MM:∀x∈iG s.A dX,x.length≤1000000)(rE:((iG s.A dX).foldl fu []).length≤100) :
    aD Tryz.prog 22 [ptr bd,ptr bs] (bT bs bd q mb s++[X])
    (fun r H=>∃(e:Nat) (t:ek) (jn:JN) (cs:List TC),Au q s e t jn cs∧((e≠0∧r = .tuple #[.pointer none,.int .i64 (e:Int)]∧H=bT bs bd q mb t++[X])∨(e=0∧∃tb jb tv ts,kz ts=cs∧r = .tuple #[ptr tb,.int .i64 0]∧H=dg tb bs jb tv ts false++[bS bs bd jb q mb [] (t,jn),X]))):=by
  obtain⟨A,aT,brk⟩:=s
  have YE:=Mb bd dX A (by decide) (by simp only at cE;omega) (by simp only at eA;omega)
  have WG:dX=⟨#[112,105,101,99,101,115]⟩:=rfl
  rw[WG]at YE
  simp only at Lo jV cE eA qS rE MM
  refine aD.enter Tryz.func22 ak rfl Tryz.ntmps22 zr zr ?_
  intro G F R hE
  refine aj (H':=aC bd A::ag bs (cl (dK bd q mb brk) 108)::aL dV mb (cW aT)::X::F) (by unfold bT;exact ad) ?_
  refine go ?_
  ((refine ah zr zr zr zr (YE) ad ?_ bE))
  rintro _ _⟨e1,A1,j1,hO,⟨Lm,rfl,rfl⟩|⟨rfl,jb,lv,rfl,rfl⟩⟩
  · rw[← WG]at hO
    refine go ?_
    refine aw zr zr ?_ ?_
    case' refine_2=>(intro h;exfalso;omega)
    intro _
    refine go ?_
    refine aj (H':=bT bs bd q mb ⟨A1,aT,brk⟩++(X::F)) (by unfold bT;exact ad) ?_
    ((refine ae hE Tryz.func22 rfl _ rfl ⟨e1,⟨A1,aT,brk⟩,j1,[],⟨e1,A1,j1,hO,by rw[if_pos Lm];exact⟨rfl,rfl⟩⟩,.inl ⟨Lm,rfl,rfl⟩⟩ ad))
  rw[← WG]at hO
  have hog:=wR hO
  obtain⟨ls,OW⟩:∃ls,ls=iG A dX:=⟨_,rfl⟩
  rw[← WG,← OW]
  rw[← OW]at qS MM rE
  (refine nN ?_)
  refine gL rfl ?_
  refine aj (H':=tX lv ls::aC bd A1::oz jb bd dX j1::ag bs (cl (dK bd q mb brk) 108)::aL dV mb (cW aT)::X::F) (by rw[WG];exact ad) ?_
  refine dM (Ei lv ls) ?_
  rintro⟨cs,M⟩ hRR
  refine Pe 0 hRR rfl ?_
  intro lG
  obtain⟨Z,hZ⟩:∃Z,Z=Sep [az 39 1 lv ls.length cs,aV 5 M]:=⟨_,rfl⟩
  refine aj (aq.bL [az 39 1 lv ls.length cs,aV 5 M] _) ?_
  rw[← hZ]at lG ⊢
  clear hZ hRR M cs
  obtain⟨cs,dj,lz,⟨la,lc,rfl,hlc⟩,nL⟩:=lG
  refine go ?_
  refine bq zr zr bp ?_
  intro tb
  refine go ?_
  refine aj (aq.trans (bw 80 1 none _) (Fw _)) ?_
  refine bo (fun y:Nat × List Tk × Value=>y.1≤ls.length∧kz y.2.1=(ls.take y.1).foldl fu []∧y.2.1.length≤y.1) (fun y=>ls.length-y.1)
    (fun y=>[(0,ptr bd),(1,ptr bs),(6,ptr jb),(9,ptr tb),(37,.slice la ls.length lc),(38,.int .i64 (ls.length:Int)),(39,.int .i64 (y.1:Int))])
    (fun y=>Z::ag tb (cl [ptr bs,ptr jb,y.2.2,.bool false] 78)::az 80 1 y.2.2 y.2.1.length (y.2.1.map bP)::aP y.2.1::aC bd A1::oz jb bd dX j1::ag bs (cl (dK bd q mb brk) 108)::aL dV mb (cW aT)::X::F) (0,[],.slice none 0 0) ⟨Nat.zero_le _,rfl,Nat.le_refl _⟩ rfl bY ad ?_
  rintro⟨i,ts,tv⟩⟨hi,xr,ZW⟩ ih
  simp only at hi xr ZW
  dsimp only
  refine go ?_
  refine aw zr zr ?_ ?_
  · intro cO
    have fU:i<ls.length:=by omega
    obtain⟨x,hx⟩:∃x,ls[i]?=some x:=⟨ls[i],by simp⟩
    obtain⟨cv,qd,uz⟩:=nL i x hx
    have iZ:ls.take (i+1)=ls.take i++[x]:=by rw[List.take_add_one,hx];rfl
    have lF:∀y∈ts,lI y.c:=fun y hy=>((vb (ls.take i)).1 y.c (by rw[← xr];exact List.mem_map.2 ⟨y,hy,rfl⟩)).1
    have OI:=JH Z tb bs jb tv false ts cv x uz (by have:=MM x (List.mem_of_getElem? hx);omega) ai (fun y hy=>Nat.le_trans (lF y hy).1 ai) (fun y hy=>(lF y hy).2.1)
    unfold dg at OI
    obtain⟨bb,oo,cc,he⟩:=dj.some (by intro h;rw[h]at qd;cases qd)
    simp only[Value.slice.injEq,true_and]at he
    obtain⟨rfl,rfl⟩:=he
    obtain⟨xa,xc,rfl,_⟩:=uz.2
    refine go ?_
    refine cK (U:=ao) i zr zr zr zr zr zr zr zr fU ?_
    refine aJ ?_
    refine bB (U:=ao) 0 i zr zr zr dj rfl qd zr zr ?_
    refine go ?_
    ((refine ah zr zr zr zr (OI) ad ?_ bE))
    rintro _ _⟨rfl,gW,lM,aaP,rfl⟩
    refine go ?_
    have Xz:kz gW=(ls.take (i+1)).foldl fu []:=by rw[aaP,xr,iZ,List.foldl_append];rfl
    have qC:gW.length≤i+1:=by
      have:=(vb (ls.take (i+1))).2
      rw[← Xz,Gi,List.length_take]at this
      omega
    refine aO ih (i+1,gW,lM) rfl ⟨by simp only;omega,Xz,qC⟩ (by simp only;omega) bY ad
  intro eQ
  have sJ:i=ls.length:=by omega
  subst sJ
  rw[List.take_length]at xr
  clear ih
  have htr:∀y∈ts,L3 y.c:=fun y hy=>(vb ls).1 y.c (by rw[← xr];exact List.mem_map.2 ⟨y,hy,rfl⟩)
  have ZY:ts.length≤100:=by rw[← Gi,xr];exact rE
  refine aj (aq.pick [2] rfl) ?_
  ((refine db 0 rfl ?_))
  rintro ta tc rfl
  refine cM 0 rfl ?_
  intro Wl
  refine aj (H':=ag tb (cl [ptr bs,ptr jb,.slice ta ts.length tc,.bool false] 78)::az 80 1 (.slice ta ts.length tc) ts.length (ts.map bP)::aP ts::aC bd A1::oz jb bd dX j1::ag bs (cl (dK bd q mb brk) 108)::aL dV mb (cW aT)::X::F) ad ?_
  refine go ?_
  have aaR:∀H,aq (H) (az 80 1 (.slice none 0 0) 0 []::aP []::az 39 1 (.slice none 0 0) 0 []::Sep []::H):=fun H=>aq.trans (aq.bL [] H) (aq.trans (bw 39 1 none _) (aq.trans (Fw _) (bw 80 1 none _)))
  refine aj (H':=bT bs bd q mb ⟨A1,aT,brk⟩++(oz jb bd dX j1::aP ts::az 80 1 (.slice ta ts.length tc) ts.length (ts.map bP)::ag tb (cl [ptr bs,ptr jb,.slice none 0 0,.bool false] 78)::X::F)) (by unfold bT;exact ad) ?_
  refine aj (qH bs bd jb q mb (⟨A1,aT,brk⟩,j1) _) ?_
  refine aj (aaR _) ?_
  refine bo (fun z:Nat × ek × List Tk × Value × List (List UInt8) × UI × Option Addr × Nat=>z.1≤ts.length∧(∀e t cs rs,sr q (kz (ts.drop z.1)) z.2.1 (kz z.2.2.1) z.2.2.2.2.1 e t cs rs→sr q (kz ts) ⟨A1,aT,brk⟩ [] [] e t cs rs)∧(mU z.2.1.aT∧z.2.1.aT.length≤aT.length+z.1)∧(z.2.1.A.aH.length≤A1.aH.length+2*z.1∧z.2.1.A.writes.length≤A1.writes.length+2*z.1)∧z.2.2.1.length≤z.1∧Aq z.2.2.2.2.2.1 z.2.2.2.2.1∧(∀x∈z.2.2.2.2.1,x.length≤760)∧z.2.2.2.2.1.length≤1025*z.1) (fun z=>ts.length-z.1)
    (fun z=>[(0,ptr bd),(1,ptr bs),(6,ptr jb),(9,ptr tb),(13,.slice z.2.2.2.2.2.2.1 z.2.2.2.2.2.1.cs.length z.2.2.2.2.2.2.2),(54,.slice ta ts.length tc),(55,.int .i64 (ts.length:Int)),(56,.int .i64 (z.1:Int))])
    (fun z=>az 80 1 z.2.2.2.1 z.2.2.1.length (z.2.2.1.map bP)::aP z.2.2.1::az 39 1 (.slice z.2.2.2.2.2.2.1 z.2.2.2.2.2.1.cs.length z.2.2.2.2.2.2.2) z.2.2.2.2.2.1.cs.length z.2.2.2.2.2.1.cs::z.2.2.2.2.2.1.Z::bS bs bd jb q mb [] (z.2.1,j1)::aP (ts.drop z.1)::az 80 1 (.slice ta ts.length tc) ts.length (ts.map bP)::ag tb (cl [ptr bs,ptr jb,z.2.2.2.1,.bool false] 78)::X::F) (0,⟨A1,aT,brk⟩,[],.slice none 0 0,[],⟨[],Sep []⟩,none,0) ⟨Nat.zero_le _,fun _ _ _ _ h=>h,⟨Lo,by simp⟩,⟨by simp,by simp⟩,Nat.le_refl _,⟨rfl,fun i x h=>by cases h⟩,fun x h=>(by cases h),by simp⟩ rfl bY ad ?_
  rintro⟨i,s,us,uv,rs,M,oa,oc⟩⟨hi,UC,⟨nM,aaT⟩,⟨fA,Z3⟩,ZS,hM,F3,aaa⟩ ih
  simp only at hi UC nM aaT fA Z3 ZS hM F3 aaa
  dsimp only
  have Y2:=hM.1
  refine go ?_
  refine aw zr zr ?_ ?_
  case' refine_2 =>
    intro eQ
    have sJ:i=ts.length:=by omega
    subst sJ
    clear ih
    have jT:=UC 0 s (kz us) rs (by rw[List.drop_length];exact⟨rfl,rfl,rfl,rfl⟩)
    refine aj (H':=az 39 1 (.slice oa M.cs.length oc) M.cs.length M.cs::M.Z::bS bs bd jb q mb [] (s,j1)::az 80 1 uv us.length (us.map bP)::aP us::ag tb (cl [ptr bs,ptr jb,uv,.bool false] 78)::X::F) ad ?_
    refine lr 0 rfl ?_
    intro iy
    refine cM 0 rfl ?_
    intro KQ
    have lG:qi (Sep [az 39 1 (.slice oa M.cs.length oc) M.cs.length M.cs,M.Z]) (.slice oa M.cs.length oc) rs:=by
      rw[Y2]at KQ iy ⊢
      exact qi.Yn KQ iy Y2 hM.2
    have hfb:=we rs (1025*100) F3 ai
    have hcm:=C7 jb bd dX (by decide) s.A j1 _ _ rs lG ai ai ai ai
    refine aj (aq.bL [az 39 1 (.slice oa M.cs.length oc) M.cs.length M.cs,M.Z] _) ?_
    refine aj (H':=bS bs bd jb q mb [] (s,j1)::Sep [az 39 1 (.slice oa M.cs.length oc) M.cs.length M.cs,M.Z]::az 80 1 uv us.length (us.map bP)::aP us::ag tb (cl [ptr bs,ptr jb,uv,.bool false] 78)::X::F) ad ?_
    refine aj (Ap bs bd jb q mb (s,j1) _) ?_
    unfold bT
    refine go ?_
    ((refine ah zr zr zr zr (hcm) ad ?_ bE))
    rintro _ _⟨e3,A3,jn,rfl,rfl,hCR⟩
    have XK:Au q ⟨A,aT,brk⟩ e3 ⟨A3,s.aT,s.brk⟩ jn (kz us):=⟨0,A1,j1,hO,by
      rw[if_neg ai]
      refine⟨0,s,rs,by rw[← OW];rw[xr]at jT;exact jT,?_⟩
      rw[if_neg ai]
      exact⟨A3,hCR,rfl⟩⟩
    by_cases O2:e3=0
    · subst O2
      refine go ?_
      refine aj (H':=bT bs bd q mb ⟨A3,s.aT,s.brk⟩++(oz jb bd dX jn::ag tb (cl [ptr bs,ptr jb,uv,.bool false] 78)::az 80 1 uv us.length (us.map bP)::aP us::X::F)) (by unfold bT;exact ad) ?_
      refine aj (qH bs bd jb q mb (⟨A3,s.aT,s.brk⟩,jn) _) ?_
      refine aj (H':=dg tb bs jb uv us false++([bS bs bd jb q mb [] (⟨A3,s.aT,s.brk⟩,jn),X]++F)) (by unfold dg;exact ad) ?_
      ((refine ae hE Tryz.func22 rfl _ rfl ⟨0,⟨A3,s.aT,s.brk⟩,jn,kz us,XK,.inr ⟨rfl,tb,jb,uv,us,rfl,rfl,rfl⟩⟩ ad))
    · refine go ?_
      refine aw zr zr ?_ ?_
      case' refine_2=>(intro h;exfalso;omega)
      intro _
      refine go ?_
      refine aj (H':=bT bs bd q mb ⟨A3,s.aT,s.brk⟩++(X::F)) (by unfold bT;exact ad) ?_
      ((refine ae hE Tryz.func22 rfl _ rfl ⟨e3,⟨A3,s.aT,s.brk⟩,jn,kz us,XK,.inl ⟨O2,rfl,rfl⟩⟩ ad))
  intro cO
  have fU:i<ts.length:=by omega
  obtain⟨y,hy⟩:∃y,ts[i]?=some y:=⟨ts[i],by simp⟩
  have Yq:=htr y (List.mem_of_getElem? hy)
  have Je:=jF (x:=y.x) Yq.2
  have k8:ts.drop i=y::ts.drop (i+1):=by
    obtain⟨h1,h2⟩:=List.getElem?_eq_some_iff.1 hy
    rw[List.drop_eq_getElem_cons h1,h2]
  have Tt:kz (ts.drop i)=y.c::kz (ts.drop (i+1)):=by rw[k8];rfl
  rw[Tt]at UC
  have pU:=zp [] (ts.drop (i+1)) y
  simp only[List.nil_append]at pU
  rw[← k8]at pU
  have XF:=Dh bs bd q hq mb s y.x nM ai ai
  unfold dQ at XF
  obtain⟨MT,MA,cc9,Xv⟩:=Wl.some (JF fU)
  simp only[Value.slice.injEq,true_and]at Xv
  obtain⟨rfl,rfl⟩:=Xv
  refine aj (H':=aP (ts.drop i)::az 80 1 (.slice (some ⟨MT,MA,none⟩) ts.length tc) ts.length (ts.map bP)::bS bs bd jb q mb [] (s,j1)::az 80 1 uv us.length (us.map bP)::aP us::az 39 1 (.slice oa M.cs.length oc) M.cs.length M.cs::M.Z::ag tb (cl [ptr bs,ptr jb,uv,.bool false] 78)::X::F) ad ?_
  refine aj (pU _) ?_
  refine dM (eG y) ?_
  rintro⟨wv,TQ,N⟩ hz
  have gg:∀H,aq (ag y.yb (cl (iY y) 83)::ag y.sb (cl [.int .i64 (y.n:Int),wv] 101)::az 102 1 wv y.ws.length (qV y.ws)::aL (Value.int .i64) y.mb TQ::aV 36 N::H) (mV y::H):=fun H=>aq.trans (H2:=ki y (wv,TQ,N)++H) (by unfold ki;exact ad) (gB hz _)
  refine aj (H':=bS bs bd jb q mb [] (s,j1)::ag y.yb (cl (iY y) 83)::ag y.sb (cl [.int .i64 (y.n:Int),wv] 101)::az 102 1 wv y.ws.length (qV y.ws)::aL (Value.int .i64) y.mb TQ::aV 36 N::az 80 1 (.slice (some ⟨MT,MA,none⟩) ts.length tc) ts.length (ts.map bP)::aP (ts.drop (i+1))::az 80 1 uv us.length (us.map bP)::aP us::az 39 1 (.slice oa M.cs.length oc) M.cs.length M.cs::M.Z::ag tb (cl [ptr bs,ptr jb,uv,.bool false] 78)::X::F) (by unfold ki;exact ad) ?_
  refine aj (Ap bs bd jb q mb (s,j1) _) ?_
  refine aj (H':=az 80 1 (.slice (some ⟨MT,MA,none⟩) ts.length tc) ts.length (ts.map bP)::ag y.yb (cl (iY y) 83)::ag y.sb (cl [.int .i64 (y.n:Int),wv] 101)::az 102 1 wv y.ws.length (qV y.ws)::aL (Value.int .i64) y.mb TQ::aV 36 N::(bT bs bd q mb s++(oz jb bd dX j1::aP (ts.drop (i+1))::az 80 1 uv us.length (us.map bP)::aP us::az 39 1 (.slice oa M.cs.length oc) M.cs.length M.cs::M.Z::ag tb (cl [ptr bs,ptr jb,uv,.bool false] 78)::X::F))) ad ?_
  refine go ?_
  refine cK (U:=ao) i zr zr zr zr zr zr zr zr fU ?_
  refine aJ ?_
  refine bB (U:=ao) 0 i zr zr zr Wl rfl (ph hy) zr zr ?_
  refine go ?_
  refine ef (U:=ao) (cs:=bn y.x) 1 zr zr zr zr zr zr ?_
  refine go ?_
  ((refine ah zr zr zr zr (XF) ad ?_ bE))
  rintro _ _⟨e1,s1,rfl,rfl,XM⟩
  (refine nN ?_)
  refine gL rfl ?_
  have NN:=nM.begin ai Yq.2 XM
  have Uy:=jZ XM
  refine aj (aq.trans (H2:=ag y.yb (cl (iY y) 83)::ag y.sb (cl [.int .i64 (y.n:Int),wv] 101)::az 102 1 wv y.ws.length (qV y.ws)::aL (Value.int .i64) y.mb TQ::aV 36 N::az 80 1 (.slice (some ⟨MT,MA,none⟩) ts.length tc) ts.length (ts.map bP)::aP (ts.drop (i+1))::(bT bs bd q mb s1++(oz jb bd dX j1::az 80 1 uv us.length (us.map bP)::aP us::az 39 1 (.slice oa M.cs.length oc) M.cs.length M.cs::M.Z::ag tb (cl [ptr bs,ptr jb,uv,.bool false] 78)::X::F))) ad (gg _)) ?_
  by_cases FY:e1=5∨e1=11
  · have qb:∀e t cs FC,sr q (kz (ts.drop (i+1))) s1 (kz us) rs e t cs FC→sr q (kz ts) ⟨A1,aT,brk⟩ [] [] e t cs FC:=fun e t cs FC h=>UC e t cs FC ⟨e1,s1,XM,by rw[if_pos FY];exact h⟩
    refine aj (aq.trans ad (qH bs bd jb q mb (s1,j1) (aP (ts.drop (i+1))::az 80 1 (.slice (some ⟨MT,MA,none⟩) ts.length tc) ts.length (ts.map bP)::az 80 1 uv us.length (us.map bP)::aP us::az 39 1 (.slice oa M.cs.length oc) M.cs.length M.cs::M.Z::ag tb (cl [ptr bs,ptr jb,uv,.bool false] 78)::X::F))) ?_
    rcases FY with rfl|rfl
    all_goals(
      refine go ?_
      refine aO ih (i+1,s1,us,uv,rs,M,oa,oc) rfl ⟨by simp only;omega,qb,⟨NN.1,by simp only;have:=NN.2;omega⟩,⟨by simp only;have:=Uy.1;omega,by simp only;have:=Uy.2;omega⟩,by simp only;omega,hM,F3,by simp only;omega⟩ (by simp only;omega) bY ad)
  by_cases pG:e1=0
  case neg =>
    have O1:=UC e1 s1 [] [] ⟨e1,s1,XM,by rw[if_neg FY,if_pos pG];exact⟨rfl,rfl⟩⟩
    rw[xr]at O1
    have XJ:Au q ⟨A,aT,brk⟩ e1 s1 j1 []:=by
      refine⟨0,A1,j1,hO,?_⟩
      rw[if_neg ai]
      refine⟨e1,s1,[],by rw[← OW];exact O1,?_⟩
      rw[if_pos pG]
      exact⟨rfl,rfl⟩
    refine go ?_
    ((refine aB 68 ((.bool false)) rfl ((congrArg Value.bool (decide_eq_false ai))) ?_))
    refine go ?_
    ((refine bj 71 ((.bool false)) rfl ((congrArg Value.bool (decide_eq_false ai))) ?_))
    refine go ?_
    refine aw zr zr ?_ ?_
    case' refine_2=>(intro h;exfalso;omega)
    intro _
    refine go ?_
    refine aj (H':=bT bs bd q mb s1++(X::F)) ad ?_
    ((refine ae hE Tryz.func22 rfl _ rfl ⟨e1,s1,j1,[],XJ,.inl ⟨pG,rfl,rfl⟩⟩ ad))
  subst pG
  refine X8 5 rfl ?_
  intro aab
  have hRd:∀nm at_ n,(s1.A.read nm at_ n).1.length≤1048576:=fun nm at_ n=>Bo s1.A aab nm at_ n
  obtain⟨H4,qC⟩:=HX s1 y.c Yq
  have qb:∀e t cs FC,sr q (kz (ts.drop (i+1))) s1 (kz us++[(jR s1 y.c).1]) (rs++(jR s1 y.c).2) e t cs FC→sr q (kz ts) ⟨A1,aT,brk⟩ [] [] e t cs FC:=fun e t cs FC h=>UC e t cs FC ⟨0,s1,XM,by rw[if_neg FY,if_neg ai];exact h⟩
  have Xe:=fun tv=>KZ X hK tb bs jb bd tv false q mb (s1,j1) hRd y Yq.1 ai ai
  refine aj (aq.trans ad (qH bs bd jb q mb (s1,j1) (az 80 1 uv us.length (us.map bP)::ag tb (cl [ptr bs,ptr jb,uv,.bool false] 78)::mV y::X::az 39 1 (.slice oa M.cs.length oc) M.cs.length M.cs::M.Z::az 80 1 (.slice (some ⟨MT,MA,none⟩) ts.length tc) ts.length (ts.map bP)::aP (ts.drop (i+1))::aP us::F))) ?_
  ((refine db 1 rfl ?_))
  rintro ua uc rfl
  refine aj (H':=ag tb (cl [ptr bs,ptr jb,.slice ua us.length uc,.bool false] 78)::az 80 1 (.slice ua us.length uc) us.length (us.map bP)::mV y::bS bs bd jb q mb [] (s1,j1)::X::az 39 1 (.slice oa M.cs.length oc) M.cs.length M.cs::M.Z::az 80 1 (.slice (some ⟨MT,MA,none⟩) ts.length tc) ts.length (ts.map bP)::aP (ts.drop (i+1))::aP us::F) ad ?_
  refine go ?_
  refine au (U:=ao) (cs:=[ptr y.yb]) zr zr zr zr zr zr zr zr zr bp ?_
  intro r1
  refine go ?_
  refine bh (U:=ao) (mm:=1) (news:=[ptr y.yb]) 2 0 rfl rfl rfl rfl rfl rfl rfl rfl rfl rfl rfl rfl (Vw.ag rfl) rfl (by intro v hv;simp at hv;rw[hv];rfl) ai (by show(_+_)*8≤_;omega) (fun _=>rfl) bp ?_
  intro v1
  ((refine aM 2 rfl ?_))
  rintro va vc rfl
  refine go ?_
  ((refine ah zr zr zr zr (Xe (.slice va (us.length+1) vc)) ad ?_ bE))
  rintro r9 _⟨y',Z2,Zz,Wj,WY,rfl⟩
  obtain⟨Dx,tm,Tp,⟨ra,rc,rfl,MH⟩,Tl⟩:=WY
  simp only at Wj tm Tp Tl MH
  have Cm:=hM.aa6 Tp Tl
  have fC:∀v∈Dx,v.oneCell'=true:=fun v hv=>by
    obtain⟨j,hj,rfl⟩:=List.getElem_of_mem hv
    obtain⟨x,hx⟩:∃x,(jR s1 y.c).2[j]?=some x:=⟨(jR s1 y.c).2[j]' ai,by simp⟩
    obtain⟨cv,h1,h2⟩:=Tl j x hx
    obtain⟨_,_,rfl,_⟩:=h2.2
    rw[List.getElem?_eq_getElem hj]at h1
    injection h1 with h1
    rw[h1];rfl
  ((refine aG (H':=az 39 1 (.slice oa M.cs.length oc) M.cs.length M.cs::Z2::ag tb (cl [ptr bs,ptr jb,.slice va (us.length+1) vc,.bool false] 78)::mV y'::bS bs bd jb q mb [] (s1,j1)::X::M.Z::az 80 1 (.slice (some ⟨MT,MA,none⟩) ts.length tc) ts.length (ts.map bP)::aP (ts.drop (i+1))::aP us::az 80 1 (.slice va (us.length+1) vc) (us.length+1) (us.map bP++[ptr y.yb])::F) ad ?_))
  refine go ?_
  refine bh (U:=ao) (mm:=(jR s1 y.c).2.length) (news:=Dx) 0 1 zr zr zr zr zr zr zr zr zr zr zr zr tm (by show _=_*1;omega) fC ai (by show(_+_)*24≤_;omega) (fun _=>rfl) bp ?_
  intro v2
  ((refine aM 0 rfl ?_))
  rintro wa wc rfl
  refine go ?_
  have MK:us.map bP++[ptr y.yb]=(us++[y']).map bP:=by rw[← Zz];simp[bP]
  have yF:us.length+1=(us++[y']).length:=by simp
  have XB:(M.cs++Dx).length=M.cs.length+(jR s1 y.c).2.length:=by rw[List.length_append,Tp]
  have qR:=sM us [] y'
  rw[List.append_nil]at qR
  rw[MK,yF]
  refine aj (H':=mV y'::aP us::Z2::M.Z::az 39 1 (.slice wa (M.cs++Dx).length wc) (M.cs++Dx).length (M.cs++Dx)::bS bs bd jb q mb [] (s1,j1)::X::az 80 1 (.slice (some ⟨MT,MA,none⟩) ts.length tc) ts.length (ts.map bP)::aP (ts.drop (i+1))::az 80 1 (.slice va (us++[y']).length vc) (us++[y']).length ((us++[y']).map bP)::ag tb (cl [ptr bs,ptr jb,.slice va (us++[y']).length vc,.bool false] 78)::F) (by rw[XB];exact ad) ?_
  refine aj (qR _) ?_
  refine aj (H':=Z2::M.Z::aP (us++[y'])::az 39 1 (.slice wa (M.cs++Dx).length wc) (M.cs++Dx).length (M.cs++Dx)::bS bs bd jb q mb [] (s1,j1)::X::az 80 1 (.slice (some ⟨MT,MA,none⟩) ts.length tc) ts.length (ts.map bP)::aP (ts.drop (i+1))::az 80 1 (.slice va (us++[y']).length vc) (us++[y']).length ((us++[y']).map bP)::ag tb (cl [ptr bs,ptr jb,.slice va (us++[y']).length vc,.bool false] 78)::F) ad ?_
  refine aj (aq.bL [Z2,M.Z] _) ?_
  have hcu:kz (us++[y'])=kz us++[(jR s1 y.c).1]:=by rw[Gj,Wj]
  rw[← hcu]at qb
  ((refine bj 13 ((.slice wa (M.cs++Dx).length wc)) rfl ((by rw[XB])) ?_))
  refine aO ih (i+1,s1,us++[y'],.slice va (us++[y']).length vc,rs++(jR s1 y.c).2,⟨M.cs++Dx,Sep [Z2,M.Z]⟩,wa,wc) rfl ⟨by simp only;omega,qb,⟨NN.1,by simp only;have:=NN.2;omega⟩,⟨by simp only;have:=Uy.1;omega,by simp only;have:=Uy.2;omega⟩,by simp only[List.length_append,List.length_singleton];omega,Cm,(fun x hx=>by
    rcases List.mem_append.1 hx with h|h
    · exact F3 x h
    · exact H4 x h),by simp only[List.length_append];omega⟩ (by simp only;omega) bY ad
end Go.Proofs.YthjbidjmgbjkiaaGreatDoor
namespace Go.Proofs.YthjbidjmgbjkiaaGreatDoor
open Go Go.SL
def LZ(q:Int)(A:Ab)(e:Nat)(t:SJ)(cs:List TC):Prop :=
 ∃e1 B,um A e1 B∧if e1≠0 then e=e1 else ∃s jn,Au q ⟨B,[],false⟩ e s jn cs∧t=(s,jn)
attribute [local irreducible] J K aD Ends ag az aL bK aZ aQ aV bg bQ aC bS tX
set_option maxRecDepth 20000 in
set_option maxHeartbeats 1000000 in
theorem xX(X:HP)(hK:mX X)(wb bd:Nat)(v1 v2:Value)(q:Int)(hq:1≤q∧q≤1073741824)(A:Ab)(ie:A.off=false)(cE:A.aH.length≤600000000)(hB:∀B,um A 0 B→B.writes.length≤700000000∧(iG B dX).length≤900000∧(∀x∈iG B dX,x.length≤1000000)∧((iG B dX).foldl fu []).length≤100) :
  aD Tryz.prog 7 [ptr wb,.int .i64 q] [ag wb (cl [ptr bd,v1,v2] 33),aC bd A,X]
  (fun r H=>∃(e:Nat) (t:SJ) (cs:List TC),LZ q A e t cs∧r = .int .i64 (e:Int)∧(e=0→∃bs mb tb jb tv ts,kz ts=cs∧H=ag wb (cl [ptr bd,ptr bs,ptr tb] 33)::dg tb bs jb tv ts false++[bS bs bd jb q mb [] t,X])∧(e≠0→∃L,H=L)):=by
 refine aD.enter Tryz.func7 ak rfl Tryz.ntmps7 zr zr ?_
 intro G F R hE
 refine go ?_
 ((refine ah zr zr zr zr (IQ X hK bd q A ai) ad ?_ bE))
 rintro _ _ (⟨h,_⟩|⟨_,h,_⟩|⟨_,_,e,B,ho,hc⟩)
 ·exfalso;omega
 ·rw[ie]at h;cases h
 rcases hc with⟨ct,rfl,rfl⟩|⟨rfl,hBl,bs,mb,rfl,rfl⟩
 ·refine go ?_
  refine aw zr zr ?_ ?_
  case' refine_2=>(intro h;exfalso;omega)
  intro _
  refine go ?_
  ((refine ae hE Tryz.func7 rfl _ rfl ⟨e,(⟨B,[],false⟩,⟨0,0,0,false⟩),[],⟨e,B,ho,by rw[if_pos ct]⟩,rfl,fun h=>absurd h ct,fun _=>⟨ag wb (cl [ptr bd,.pointer none,.pointer none] 33)::[aC bd B,X],rfl⟩⟩ ad))
 obtain⟨b1,b2,b3,b4⟩:=hB B ho
 have YE:=IS X hK bs bd q ⟨ai,hq.2⟩ mb ⟨B,[],false⟩ ⟨by simp,by simp⟩ (by simp) (by simp only;omega) (by simp only;omega) b2 b3 b4
 ((refine aG (H':=ag wb (cl [ptr bd,v1,v2] 33)::(bT bs bd q mb ⟨B,[],false⟩++(X::F))) ad ?_))
 refine go ?_
 refine aG (H':=bT bs bd q mb ⟨B,[],false⟩++(X::ag wb (cl [ptr bd,ptr bs,.pointer none] 33)::F)) (by unfold bT;exact ad) ?_
 ((refine ah zr zr zr zr (YE) ad ?_ bE))
 rintro _ _⟨e,t,jn,cs,hO,⟨ct,rfl,rfl⟩|⟨rfl,tb,jb,tv,ts,xr,rfl,rfl⟩⟩
 ·((refine aG (H':=ag wb (cl [ptr bd,ptr bs,.pointer none] 33)::(bT bs bd q mb t++(X::F))) ad ?_))
  refine go ?_
  ((refine ae hE Tryz.func7 rfl _ rfl ⟨e,(t,jn),cs,⟨0,B,ho,by rw[if_neg ai];exact⟨t,jn,hO,rfl⟩⟩,rfl,fun h=>absurd h ct,fun _=>⟨ag wb (cl [ptr bd,ptr bs,.pointer none] 33)::(bT bs bd q mb t++[X]),rfl⟩⟩ ad))
 ·((refine aG (H':=ag wb (cl [ptr bd,ptr bs,.pointer none] 33)::(dg tb bs jb tv ts false++([bS bs bd jb q mb [] (t,jn),X]++F))) ad ?_))
  unfold dg
  refine go ?_
  refine aj (H':=(ag wb (cl [ptr bd,ptr bs,ptr tb] 33)::dg tb bs jb tv ts false++[bS bs bd jb q mb [] (t,jn),X])++F) (by unfold dg;exact ad) ?_
  ((refine ae hE Tryz.func7 rfl _ rfl ⟨0,(t,jn),cs,⟨0,B,ho,by rw[if_neg ai];exact⟨t,jn,hO,rfl⟩⟩,rfl,fun _=>⟨bs,mb,tb,jb,tv,ts,xr,rfl⟩,fun h=>absurd rfl h⟩ ad))
end Go.Proofs.YthjbidjmgbjkiaaGreatDoor
namespace Go.Proofs.YthjbidjmgbjkiaaGreatDoor
open Go Go.SL
theorem zo{A:Ab}(h:A.names=[]):vw A=fun _=>none:=by
 funext n
 unfold vw Ab.look Ab.du
 rw[h];rfl
theorem EH{A:Ab}{nm:ByteArray}(h:HA A)(hv:vw A nm=none):iG A nm=[]:=by
 have yI:A.look nm=none:=by
  unfold vw at hv
  cases hx:A.look nm with
  | none=>rfl
  | some f=>rw[hx]at hv;cases hv
 have qA:(A.read nm 0 (A.size nm).1).1=[]:=by
  unfold Ab.read
  rw[if_neg (by rw[h.on];simp),yI]
 unfold iG
 rw[qA]
 rfl
theorem jh:(cu []).length=32:=by unfold cu;simp[mG]
theorem y8{q:Int}{A:Ab}{e:Nat}{t:SJ}{cs:List TC}(h:HA A)(hn:A.names=[])(hr:64≤A.room)(hR:LZ q A e t cs) :
  e=0∧cs=[]∧HA t.1.A∧t.1.aT=[]∧t.1.brk=false∧vw t.1.A=dk (fun _=>none) dX (some (cu []))∧t.1.A.room=A.room∧t.2=⟨1,0,0,false⟩∧t.1.A.names.length=1∧t.1.A.used=32∧t.1.A.aH.length≤A.aH.length+14∧t.1.A.writes.length≤A.writes.length+14:=by
 obtain⟨e1,B,hO,hR⟩:=hR
 obtain⟨rfl,rfl⟩:=CP hn hO
 rw[if_neg ai]at hR
 obtain⟨s,jn,⟨e2,A1,j1,hO1,hR⟩,rfl⟩:=hR
 simp only at hO1 hR
 have lD:=zo hn
 have hu0:B.used=0:=by unfold Ab.used;rw[hn];rfl
 have Jp:=wR hO1
 obtain⟨rfl,k1,k2,k3,k4,k5⟩:=Ea h jw ud zJ (by rw[lD]) (by rw[lD]) (by rw[hn];simp) ai hO1
 rw[lD]at k2
 rw[if_neg ai,k5]at hR
 obtain⟨e3,s2,rs,⟨rfl,rfl,rfl,rfl⟩,hR⟩:=hR
 rw[if_neg ai]at hR
 obtain⟨A3,hC,rfl⟩:=hR
 simp only at hC
 subst k4
 unfold sG at hC
 rw[if_neg (by simp),if_neg (by simp),if_neg (by simp)]at hC
 obtain⟨y,hP,rfl,rfl⟩:=hC
 obtain⟨Uk,Uu⟩:=h.qX k1 (k:=dX) (c:=cu []) (by rw[lD]) (by rw[k2,lD])
 have Du:=zb hP
 simp only at Du
 obtain⟨rfl,m1,m2,m3,m4⟩:=Hc k1 jw ud zJ (by rw[k2,bX _ _ zJ]) (by rw[Uu,hn];simp) (by rw[jh];omega) (by rw[jh,Uk,k3,hu0,jh];omega) hP
 have qP:vw y.1=dk (fun _=>none) dX (some (cu [])):=by
  rw[m2,k2]
  funext m
  unfold dk
  split <;> rfl
 obtain⟨SM,S5⟩:=h.qX m1 (k:=dX) (c:=cu []) (by rw[lD]) (by rw[qP,lD])
 refine⟨rfl,rfl,m1,rfl,rfl,qP,by simp only;rw[m3,k3],?_,by simp only;rw[S5,hn];rfl,by simp only;rw[SM,hu0,jh],by simp only;have:=Jp.1;have:=Du.1;omega,by simp only;have:=Jp.2;have:=Du.2;omega⟩
 simp only
 rw[show y.2.1=1 from by rw[m4],show y.2.2.1=0 from by rw[m4];rfl,show y.2.2.2=0 from by rw[m4];rfl]
 simp
theorem Ma{q:Int}(hq:0≤q){e:Nat}{t:SJ}{cs:List TC}(hR:LZ q (Ab.new 16777216) e t cs):e=0∧cs=[]∧pZ q 0 t []:=by
 obtain⟨rfl,rfl,a1,a2,a3,a4,a5,a6,a7,a8,a9,a10⟩:=y8 (HA.new _) rfl (by show 64≤16777216;omega) hR
 obtain⟨⟨A,aT,brk⟩,jn⟩:=t
 simp only at a1 a2 a3 a4 a5 a6 a7 a8 a9 a10
 subst a2 a3 a6
 have h0:=(fD.new hq).other a1 (c:=cu []) (by rw[zo (A:=Ab.new 16777216) rfl];exact a4) (by rw[jh];omega) a5
 refine⟨rfl,rfl,h0.1,by simp only;omega,by simp,⟨⟨cu [],by show vw A dX=_;rw[a4,cY],by rw[jh];omega⟩,1,0,0,rfl,ai,ai,ai⟩,by simp,fun y hy=>(by cases hy),by simp,fun y hy=>(by cases hy),?_,?_⟩
 ·have:(Ab.new 16777216).aH.length=1:=rfl
  simp only;omega
 ·have:(Ab.new 16777216).writes.length=0:=rfl
  simp only;omega
structure HJ(m:Nat)(x:SJ):Prop where
 ha:HA x.1.A
 brk:x.1.brk=false
 room:x.1.A.room=1048576
 nl:x.1.A.names.length≤4
 small:∀n c,vw x.1.A n=some c→c.length≤100000
 fl:∃C,vw x.1.A dX=some C
 jn:∃(n c:Int) (s:Nat),x.2=⟨n,s,c,false⟩∧0≤n∧n≤m+1∧s≤1000*m
theorem HJ.used{m:Nat}{x:SJ}(h:HJ m x):x.1.A.used≤400000:=by
 have h1:=uH h.ha 100000 h.small
 have h2:=h.nl
 have:x.1.A.names.length*100000≤4*100000:=Nat.mul_le_mul_right _ h2
 omega
theorem FM{m:Nat}{x y:SJ}{b:List UInt8}{e:Nat}(h:HJ m x)(hm:m<50)(hb:b.length≤900)(hR:gy (iE b) x e y) :
  e=0∧HJ (m+1) y∧y.1.aT=x.1.aT∧(∀nm,nm≠dX→vw y.1.A nm=vw x.1.A nm):=by
 have rD:=h.used
 obtain⟨C,hC⟩:=h.fl
 have hCl:=h.small _ _ hC
 obtain⟨⟨A,aT,brk⟩,jn⟩:=x
 obtain⟨n,c,s,Jm,MJ,Uu,hs⟩:=h.jn
 simp only at hC Jm
 subst Jm
 have hA:HA A:=h.ha
 have F1:A.room=1048576:=h.room
 have qB:A.names.length≤4:=h.nl
 have rF:∀n c,vw A n=some c→c.length≤100000:=h.small
 simp only at rD
 have nL:=oK b ai
 obtain⟨e1,x1,⟨AN,ug⟩,c1⟩:=hR
 obtain⟨a0,a1,a2,a3,a4⟩:=rY (A:=A) (n:=n) (c:=c) (s:=s) (b:=b) hA jw hC ai ai ai
 simp only at AN ug
 rw[a0]at AN
 subst AN
 rcases c1 with⟨ct,_⟩|⟨_,e2,x2,⟨A',x',oD,uN⟩,c2⟩
 ·exact absurd rfl ct
 rw[ug]at oD uN
 simp only at oD uN
 rw[a4]at oD
 have F5:(cB dX A ⟨n,s,c,false⟩ b).2.1.names.length=A.names.length:=hA.jP a1 (fun m=>by
  rw[a2];unfold dk
  split
  ·rename_i hm;rw[hm,hC];rfl
  ·rfl)
 have AK:∀nm c',vw (cB dX A ⟨n,s,c,false⟩ b).2.1 nm=some c'→c'.length≤100000:=fun nm c' kH=>by
  rw[a2]at kH
  unfold dk at kH
  split at kH
  ·injection kH with kH;rw[← kH,fb];omega
  ·exact rF _ _ kH
 have Uk:=uH a1 100000 AK
 rw[F5]at Uk
 have SM:A.names.length*100000≤4*100000:=Nat.mul_le_mul_right _ qB
 obtain⟨g0,g1,⟨C',g2,g3⟩,g4,n',c',g5,g6,g7⟩:=rV a1 jw (by rw[a2,cY]) MJ ai (by rw[a3];omega) oD
 subst g0
 rcases c2 with⟨ct,_⟩|⟨_,he,hy⟩
 ·exact absurd rfl ct
 rw[fb]at g3
 have uu:∀nm c',vw A' nm=some c'→c'.length≤100000:=fun nm c' kH=>by
  rw[g2]at kH
  unfold dk at kH
  split at kH
  ·injection kH with kH;rw[← kH];omega
  ·exact AK _ _ kH
 have aar:A'.names.length=A.names.length:=by
  rw[← F5]
  exact a1.jP g1 (fun m=>by
   rw[g2];unfold dk
   split
   ·rename_i hm;rw[hm,a2,cY];rfl
   ·rfl)
 rw[he,hy,uN]
 refine⟨rfl,⟨g1,h.brk,by show A'.room=_;rw[g4,a3];exact F1,by show A'.names.length≤4;omega,uu,⟨C',by show vw A' dX=_;rw[g2,cY]⟩,⟨n',c',s+(cy b).length,g5,ai,ai,ai⟩⟩,rfl,fun nm qB=>?_⟩
 show vw A' nm=vw A nm
 rw[g2,bX _ _ qB,a2,bX _ _ qB]
theorem yy{x:Bl}(h:cj x=1):iS x=⟨x,1,[0#64],fun _=>none⟩:=by unfold iS;rw[h];rfl
theorem Hm{x:Bl}(hx:fm [7] 16=some x):fW x 0 [7] []=true:=by
 obtain⟨hr,g8,qa,Ui⟩:=pN hx
 have gw:=AZ hr g8 qa
 have hc:cj x=1:=by unfold cj;rw[if_pos hr,g8,qa];rfl
 have BZ:x.root=cI [7]:=by
  unfold fm cS at hx
  rw[if_pos (by decide)]at hx
  simp only[Option.map_some,Option.some.injEq]at hx
  rw[← hx]
  rfl
 unfold fW
 rw[gw,hc]
 simp only[List.length_cons,List.length_nil,Nat.zero_add]
 rw[show decide ((((0+1:Nat)):Int)=1)=true from rfl,Bool.true_and]
 unfold j9
 refine decide_eq_true ⟨ai,rfl,?_⟩
 rw[BZ]
 rfl
theorem T1{x:Bl}(hx:fm [7] 16=some x){s t:SJ}{e:Nat}{ts:List Tk}{br:Bool}(h:HJ 0 s)(hb:s.1.aT=[])(hn:s.1.A.names.length≤1)(hv:∀n,n≠dX→vw s.1.A n=none)(hR:Ow 1000 x [] s false e ts br t) :
    ∃y:Tk,y.c=iS x∧ts=[y]∧br=false∧HJ 1 t∧di t.1.aT x.d=some x∧vw t.1.A (oI x.d)=some []:=by
  obtain⟨hr,g8,qa,Ui⟩:=pN hx
  rcases hR with⟨h1,_⟩|⟨_,h1,_⟩|⟨_,_,Jt,⟨e1,x1,⟨hS,hS2⟩,gp⟩,En⟩
  · cases h1
  · cases h1
  have rD:cw s.1=0:=by
    have hf:gV s.1.A=0:=by
      rw[eU h.ha]
      unfold qO
      have hz:∀k∈dG s.1.A,jv k ((vw s.1.A k).getD [])=0:=fun k hk=>by
        by_cases hp:k=dX
        · rw[hp,zN]
        · rw[hv k hp];unfold jv;split <;> rfl
      have:∀l:List ByteArray,(∀k∈l,jv k ((vw s.1.A k).getD [])=0)→(l.map fun k=>jv k ((vw s.1.A k).getD [])).sum=0:=by
        intro l
        induction l with
        | nil=>intro _;rfl
        | cons a l ih =>
          intro hl
          rw[List.map_cons,List.sum_cons,hl a (List.mem_cons_self ..),ih (fun k hk=>hl k (List.mem_cons_of_mem _ hk))]
      exact this _ hz
    unfold cw
    rw[hf,hb];rfl
  have Xp:fS x≠dX:=dz kS x.d
  have hfB:fB x≠dX:=dz kB x.d
  obtain⟨rfl,a1,b1,c1,v1,n1,r1⟩:=Df h.ha h.brk hr (by rw[hb];rfl) (hv _ hfB) (by rw[rD,g8];decide) (hv _ Xp) ai hS
  rcases gp with⟨ct,_⟩|⟨_,gp⟩
  · exact absurd rfl ct
  obtain⟨n,c,k,hj,Ev,B8,xq⟩:=h.jn
  obtain⟨C,hC⟩:=h.fl
  have h1:HJ 0 x1:=⟨a1,b1,by rw[r1];exact h.room,ai,fun n c hc=>by
    rw[v1]at hc
    split at hc
    · injection hc with hc;rw[← hc];simp
    · exact h.small _ _ hc,⟨C,by rw[v1,if_neg (fun e=>Xp e.symm)];exact hC⟩,n,c,k,by rw[hS2];exact hj,Ev,B8,xq⟩
  have jV:(bR x).length≤900:=by
    have:=gF 1 x.d (iA x) (by simp[iA]) (lk x (by rw[g8];decide) ai)
    unfold bR;omega
  obtain⟨rfl,h2,h3,h4⟩:=FM h1 ai jV gp
  rcases En with⟨ct,_⟩|⟨_,y,hy,rfl⟩
  · exact absurd rfl ct
  refine⟨y,hy,rfl,Jt,h2,?_,?_⟩
  · rw[h3,c1,hb];simp[di]
  · rw[← nG,h4 _ Xp,v1];exact if_pos rfl
theorem TZ{x:Bl}(hx:fm [7] 16=some x){s t:SJ}{e:Nat}{y:Tk}{ts:List Tk}{br:Bool}(h:HJ 1 s)(hy:y.c=iS x)(hb:di s.1.aT x.d=some x)(hv:vw s.1.A (oI x.d)=some [])(hR:Oi x 0 [7] [] [y] s false e ts br t) :
    e=0∧BF (eS ts x) = .tuple #[.int .i64 0,.int .i64 0]∧∃z:Tk,ts=[z]∧z.n=1∧z.ws.length=1:=by
  obtain⟨hr,g8,qa,Ui⟩:=pN hx
  have gw:=AZ hr g8 qa
  have hc:cj x=1:=by unfold cj;rw[if_pos hr,g8,qa];rfl
  obtain⟨yb,sb,mb,yx,yn,yws,ypf⟩:=y
  rw[yy hc]at hy
  unfold Tk.c at hy
  simp only[TC.mk.injEq]at hy
  obtain⟨rfl,rfl,rfl,rfl⟩:=hy
  have F7:eS [(⟨yb,sb,mb,yx,1,[0#64],fun _=>none⟩:Tk)] yx=some ⟨yb,sb,mb,yx,1,[0#64],fun _=>none⟩:=by
    unfold eS;simp
  have rI:fZ [0#64] 1 0=false:=by decide
  rcases hR with⟨h1,_⟩|⟨_,h1,_⟩|⟨_,k,z,hz,hk,Zu,hc⟩
  · cases h1
  · rw[F7]at h1;cases h1
  rw[F7]at hz
  injection hz with hz
  subst hz
  simp only at hc
  rcases hc with⟨h1,_⟩|⟨_,h1,_⟩|⟨_,_,h1,_⟩|⟨_,_,_,Jt,⟨e1,x1,⟨hS,hS2⟩,gp⟩,En⟩
  · exfalso;omega
  · rw[rI]at h1;cases h1
  · rw[Hm hx]at h1;cases h1
  have rD:=h.used
  have F1:=h.room
  have Xp:fS yx≠dX:=dz kS yx.d
  obtain⟨rfl,a1,b1,c1,v1,n1,r1⟩:=E4 h.ha h.brk hb gw rfl hv (by simp) (by simp;omega) hS
  rcases gp with⟨ct,_⟩|⟨_,e2,x2,⟨hY,hY2⟩,gp⟩
  · exact absurd rfl ct
  have lC:vw x1.1.A (fS yx)=some [7]:=by rw[v1,if_pos rfl];rfl
  unfold kh at hY
  have ho:di x1.1.aT yx.d=some yx:=by rw[c1];exact hb
  rw[mA b1,if_pos ho,if_neg ai]at hY
  obtain⟨B,⟨e3,A1,h1,c2⟩,pT⟩:=hY
  unfold kR at h1
  rw[show isName (fS yx)=true from jx yx]at h1
  obtain⟨rfl,g1,g2,g3⟩:=a1.yf lC h1
  rcases c2 with⟨ct,_⟩|⟨_,rfl,rfl⟩
  · exact absurd rfl ct
  rcases gp with⟨ct,_⟩|⟨_,gp⟩
  · exact absurd rfl ct
  obtain⟨n,c,k',hj,Ev,B8,xq⟩:=h.jn
  obtain⟨C,hC⟩:=h.fl
  have F5:B.names.length=s.1.A.names.length:=by
    rw[← n1]
    exact a1.jP g1 (fun m=>by rw[g2])
  have h2:HJ 1 x2:=by
    have e1:x2.1.A=B:=by rw[pT]
    have e2:x2.1.brk=false:=by rw[pT];simp[b1]
    exact⟨by rw[e1];exact g1,e2,by rw[e1,g3,r1];exact F1,by rw[e1,F5];exact h.nl,fun n c hc=>by
      rw[e1,g2,v1]at hc
      split at hc
      · injection hc with hc;rw[← hc];simp[fb]
      · exact h.small _ _ hc,⟨C,by rw[e1,g2,v1,if_neg (fun e=>Xp e.symm)];exact hC⟩,n,c,k',by rw[hY2,hS2];exact hj,Ev,B8,xq⟩
  have jV:(bH yx.d (0:Int).toNat []).length≤900:=by
    have:=gF 2 yx.d (er 0 []) (by simp[er]) (kZ 0 ai [])
    unfold bH
    unfold er at this
    simp only[Int.toNat_zero]
    omega
  obtain⟨rfl,-,-,-⟩:=FM h2 ai jV gp
  rcases En with⟨ct,_⟩|⟨_,rfl⟩
  · exact absurd rfl ct
  refine⟨rfl,?_⟩
  refine⟨?_,?_⟩
  rotate_left
  · have Ux:k=0:=by
      rcases Nat.eq_zero_or_pos k with h|h
      · exact h
      · rw[List.getElem?_eq_none (by simp;omega)]at hk;cases hk
    subst Ux
    exact⟨_,rfl,rfl,by simp[Tk.put,ju]⟩
  have Ux:k=0:=by
    rcases Nat.eq_zero_or_pos k with h|h
    · exact h
    · rw[List.getElem?_eq_none (by simp;omega)]at hk;cases hk
  subst Ux
  unfold eS
  simp only[List.set_cons_zero,Tk.put,List.find?_cons,decide_true]
  have h9:rW (ju [0#64] (0:Int).toNat true)=1:=by decide +kernel
  unfold BF
  simp only[h9]
  rfl
theorem I'{q:Int}{x:Bl}{ts gW:List Tk}{s t:SJ}{br lA:Bool}{e:Nat}(h:Ow q x ts s br e gW lA t):SJg 7 s t:=by
 rcases h with⟨_,_,_,_,rfl⟩|⟨_,_,_,_,_,rfl⟩|⟨_,_,_,⟨e1,x1,⟨h1,ug⟩,c1⟩,_⟩
 ·exact⟨ai,ai⟩
 ·exact⟨ai,ai⟩
 have g1:=jZ h1
 obtain⟨a,b⟩:=g1
 rcases c1 with⟨_,_,rfl⟩|⟨_,gp⟩
 ·exact⟨ai,ai⟩
 ·have g2:=pw gp
  obtain⟨c,d⟩:=g2
  exact⟨ai,ai⟩
theorem Gh{ts:List Tk}(h:kz ts=[]):ts=[]:=by
 unfold kz at h
 exact List.map_eq_nil_iff.1 h
theorem Cr{A:Ab}(h:HA A)(hn:A.names=[])(hw:A.writes.length≤700000000):∀B,um A 0 B→B.writes.length≤700000000∧(iG B dX).length≤900000∧(∀x∈iG B dX,x.length≤1000000)∧((iG B dX).foldl fu []).length≤100:=by
 intro B hO
 obtain⟨_,rfl⟩:=CP hn hO
 have hf:iG B dX=[]:=EH h (by rw[zo hn])
 rw[hf]
 exact⟨hw,by simp,by simp,by simp⟩
attribute [local irreducible] J K aD Ends ag az aL bK aZ aQ aV bg bQ Sha.chunks Sha.chunk Sha.rounds Sha.sched dA cd GI cI aC bS aP
set_option maxRecDepth 20000 in
set_option maxHeartbeats 2000000 in
theorem Iw(X:HP)(hK:mX X):aD Tryz.prog 4 [] [X] (fun r H=>r = .bool true∧H=[X]):=by
 obtain⟨x,hx⟩:=LL
 obtain⟨hr,g8,qa,Ui⟩:=pN hx
 have abf:x.size=1:=g8
 have Js:cj x=1:=by unfold cj;rw[if_pos hr,g8,qa];rfl
 refine aD.enter Tryz.func4 ak rfl Tryz.ntmps4 zr zr ?_
 intro G F R hE
 refine go ?_
 ((refine ah zr zr zr zr (E7 1048576 ai ai) ad ?_ bE))
 rintro _ _⟨bd,rfl,rfl⟩
 refine go ?_
 refine bq zr zr bp ?_
 intro wb
 refine go ?_
 ((refine ah zr zr zr zr (xX X hK wb bd (.pointer none) (.pointer none) 1000 ai (Ab.new 1048576) rfl (by show 1≤_;omega) (Cr (HA.new _) rfl (by show 0≤_;omega))) ad ?_ bE))
 rintro _ _⟨e0,t0,TQ,hW,rfl,hz,-⟩
 obtain⟨rfl,rfl,w1,w2,w3,w4,w5,w6,w7,w8,w9,w10⟩:=y8 (HA.new _) rfl (by show 64≤1048576;omega) hW
 obtain⟨bs,mb,tb,jb,tv,ts,xr,rfl⟩:=hz rfl
 have En:=Gh xr
 subst En
 have w9':t0.1.A.aH.length≤1+14:=w9
 have abe:t0.1.A.writes.length≤0+14:=w10
 have Z6:∀n c,vw t0.1.A n=some c→c.length≤100000:=fun n c hc=>by
  rw[w4]at hc
  unfold dk at hc
  split at hc
  ·injection hc with hc;rw[← hc,jh];omega
  ·cases hc
 have hJ0:HJ 0 t0:=⟨w1,w3,w5,ai,Z6,⟨_,by rw[w4,cY]⟩,1,0,0,w6,ai,ai,ai⟩
 unfold dg
 refine go ?_
 refine au (U:=ao) (cs:=bV [7]) zr zr zr zr zr zr zr zr zr bp ?_
 intro row
 have jV:=De _ _ [7] (FK row 7) (by decide) 16
 rw[hx]at jV
 ((refine go ?_;(refine ah zr zr zr zr (jV) ad ?_ bE)))
 rintro _ _⟨rfl,rfl⟩
 unfold dQ
 refine go ?_
 refine aN (U:=ao) zr zr zr bp ?_
 intro b6
 have nM:=xk tb bs jb bd tv 1000 ai mb [] false t0 x (by simp) ai ai (by rw[w2];exact⟨by simp,by simp⟩) ai ai 100 ai (fun t hS=>by
  have hg:=jZ hS.1
  obtain⟨n,c,s,hj,Ev,B8,xq⟩:=hJ0.jn
  refine⟨?_,?_,?_,?_⟩
  ·rw[hS.2,hj];exact Ev
  ·rw[hS.2,hj];exact⟨by simp only;omega,by simp only;omega⟩
  ·have:=hg.1;omega
  ·have:=hg.2;omega)
 unfold dg dQ at nM
 refine go ?_
 refine aF (fun w=>Sat G w ([ag wb (cl [ptr bd,ptr bs,ptr tb] 33),ag b6 (cl (bn x) 38)])) (.st 0 (.st 1 (.st 2 (.st 3 (.st 4 (.act 5 .nil)))))) rfl ak ak ak (fun w hw=>hw.aX ad) ?_
 refine go ?_
 refine bD (U:=ao) (l:=bn x) 1 zr zr zr zr zr zr ?_
 refine go ?_
 ((refine ah zr zr zr zr (nM) ad ?_ bE))
 rintro _ _⟨e1,iX,u7,br1,t1,rfl,rfl,hB⟩
 obtain⟨y,hy,rfl,rfl,hJ1,pV,lC⟩:=T1 hx hJ0 w2 ai (fun n hn=>by rw[w4,bX _ _ hn]) hB
 have hgB:=I' hB
 have aby:=hgB.1
 have abx:=hgB.2
 refine go ?_
 obtain⟨Y,hY⟩:∃Y,Y=Sep [X,ag row (cl (bV [7]) 5)]:=⟨_,rfl⟩
 have Y3:mX Y:=hY ▸ hK.mono (aW (i:=0) rfl)
 have hbY:dR Y (.slice (some ⟨row,0,none⟩) 1 1) [7]:=hY ▸ (FK row 7).mono (aW (i:=1) rfl)
 have xp:=hy
 rw[yy Js]at xp
 have BV:y.n=1:=congrArg TC.n xp
 have zQ:y.ws=[0#64]:=congrArg TC.ws xp
 have tp:=CO Y Y3 tb bs jb bd u7 1000 mb [y] false t1 x 0 ai _ [7] hbY (by simp) (.slice none 0 0) [] ⟨Vw.nil Y none 0,none,0,rfl,Nat.le_refl _⟩ (by simp) (fun z hz=>by rw[List.mem_singleton.1 hz,BV];omega) (fun z hz=>by rw[List.mem_singleton.1 hz,BV,zQ];simp) ai ai 100 ai (fun t u h1 h2=>by
  have g1:=mQ h1.1
  have g2:=qG h2.1
  have g11:=g1.1
  have g12:=g1.2
  have g21:=g2.1
  have g22:=g2.2
  obtain⟨n,c,s,hj,Ev,B8,xq⟩:=hJ1.jn
  refine⟨?_,?_,ai,ai⟩
  ·rw[h2.2,h1.2,hj];exact Ev
  ·rw[h2.2,h1.2,hj];exact⟨by simp only;omega,by simp only;omega⟩)
 unfold dg dQ at tp
 refine aj (aq.trans (H2:=X::ag row (cl (bV [7]) 5)::ag wb (cl [ptr bd,ptr bs,ptr tb] 33)::ag b6 (cl (bn x) 38)::ag tb (cl [ptr bs,ptr jb,u7,.bool false] 78)::az 80 1 u7 [y].length ([y].map bP)::aP [y]::bS bs bd jb 1000 mb [] t1::F) ad (aq.bL [X,ag row (cl (bV [7]) 5)] _)) ?_
 rw[← hY]
 refine aF (fun w=>Sat G w ([ag wb (cl [ptr bd,ptr bs,ptr tb] 33),ag b6 (cl (bn x) 38)])) (.st 0 (.st 1 (.st 2 (.st 3 (.st 4 (.st 5 (.act 6 (.st 7 .nil)))))))) rfl ak ak ak (fun w hw=>hw.aX ad) ?_
 refine go ?_
 refine bD (U:=ao) (l:=bn x) 1 zr zr zr zr zr zr ?_
 refine go ?_
 ((refine ah rfl rfl rfl rfl (tp) ad ?_ (fun _ _ w hp hw=>by obtain⟨_,_,_,_,rfl,rfl,_⟩:=hp;exact hw.aX ad)))
 rintro _ _⟨e2,ts2,br2,t2,rfl,rfl,hP⟩
 obtain⟨rfl,OS,z,rfl,Wf,Ug⟩:=TZ hx hJ1 hy pV lC hP
 have Jj:=uo tb bs jb u7 br2 [z] x (by simp) (fun w hw=>by rw[List.mem_singleton.1 hw,Wf];omega) (fun w hw=>by rw[List.mem_singleton.1 hw,Ug];omega)
 rw[OS]at Jj
 unfold dg dQ at Jj
 refine go ?_
 refine aF (fun w=>Sat G w ([ag wb (cl [ptr bd,ptr bs,ptr tb] 33),ag b6 (cl (bn x) 38)])) (.st 0 (.st 1 (.st 2 (.st 3 (.st 4 (.act 5 (.st 6 (.st 7 (.st 8 (.st 9 (.st 10 .nil))))))))))) rfl ak ak ak (fun w hw=>hw.aX ad) ?_
 refine go ?_
 refine bD (U:=ao) (l:=bn x) 1 zr zr zr zr zr zr ?_
 refine go ?_
 ((refine ah rfl rfl rfl rfl (Jj) ad ?_ (fun _ _ w hp hw=>by obtain⟨rfl,rfl⟩:=hp;exact hw.aX ad)))
 rintro _ _⟨rfl,rfl⟩
 refine go ?_
 refine aj (H':=Y::F) ad ?_
 rw[hY]
 refine aj (aq.cg [X,ag row (cl (bV [7]) 5)] _) ?_
 ((refine ae hE Tryz.func4 rfl _ rfl ⟨rfl,rfl⟩ ad))
end Go.Proofs.YthjbidjmgbjkiaaGreatDoor
namespace Go.Proofs.YthjbidjmgbjkiaaGreatDoor
open Go Go.SL
structure RI(q:Int)(m:Nat)(x:SJ)(ts:List Tk):Prop where
 p:pZ q m x ts
 c:∀y∈ts,lI y.c
theorem RI.mono{q:Int}{m:Nat}{x:SJ}{ts:List Tk}(h:RI q m x ts):RI q (m+1) x ts:=⟨h.p.mono,h.c⟩
theorem ET(x:Bl)(hs:x.size≤1000000000000)(hp:x.piece≤1000000000000):(bR x).length≤900:=by
 have:=gF 1 x.d (iA x) (by simp[iA]) (lk x hs hp)
 unfold bR;omega
theorem Cs(d:Dg):(Ir d).length≤900:=by
 have:=gF 3 d [] (by simp) (by simp)
 unfold Ir;omega
theorem D4(d:Dg)(i:Nat)(hi:i≤1000000000000)(p:List Dg)(hp:p.length≤10):(bH d i p).length≤900:=by
 have:=gF 2 d (er i p) (by simp[er];omega) (kZ i hi p)
 unfold bH
 unfold er at this
 omega
theorem RI.begin{q:Int}(hq:q≤2097152){m:Nat}{x t:SJ}{ts gW:List Tk}{b:Bl}{lA:Bool}{e:Nat}(h:RI q m x ts)(hm:m<90)(hs:b.size≤1000000000000)(hp:b.piece≤1000000000000)(hR:Ow q b ts x false e gW lA t):lA=false∧RI q (m+1) t gW:=by
 rcases hR with⟨h1,_⟩|⟨_,_,_,rfl,rfl,rfl⟩|⟨_,ku,rfl,hR,En⟩
 ·cases h1
 ·exact⟨rfl,h.mono⟩
 have rI:∀z∈ts,z.x.d≠b.d:=fun z hz e=>by
  have:=List.any_eq_false.1 ku z hz
  exact this (decide_eq_true e)
 obtain⟨k1,k2,k3⟩:=h.p.begin hq hm (ET b hs hp) rI hR
 refine⟨by rcases k1 with rfl|rfl|rfl|rfl <;> decide,?_⟩
 rcases En with⟨ct,rfl⟩|⟨rfl,y,hy,rfl⟩
 ·exact⟨k2 ct,h.c⟩
 ·have Dw:=pM b
  have xp:=hy
  unfold iS at xp
  have h1:y.x=b:=congrArg TC.x xp
  have h2:y.n=(cj b).toNat:=congrArg TC.n xp
  have h3:y.ws=List.replicate (((cj b).toNat+63)/64) 0#64:=congrArg TC.ws xp
  refine⟨(k3 rfl).2 y h1 (by rw[h2];omega) (by rw[h3,h2,List.length_replicate];omega) (fun i=>by rw[h3];exact Lt _ _ _),fun w hw=>?_⟩
  rcases List.mem_append.1 hw with hw|hw
  ·exact h.c w hw
  ·rw[List.mem_singleton.1 hw,hy];exact lI.fresh b
theorem RI.put{q:Int}(hq:q≤2097152){m:Nat}{x t:SJ}{ts gW:List Tk}{b:Bl}{i:Int}{bs:List UInt8}{p:List Dg}{lA:Bool}{e:Nat}(h:RI q m x ts)(hm:m<90)(hR:Oi b i bs p ts x false e gW lA t):lA=false∧RI q (m+1) t gW:=by
 rcases hR with⟨h1,_⟩|⟨_,_,_,rfl,rfl,rfl⟩|⟨_,k,y,hf,hk,FW,hc⟩
 ·cases h1
 ·exact⟨rfl,h.mono⟩
 rcases hc with⟨_,_,rfl,rfl,rfl⟩|⟨_,_,_,rfl,rfl,rfl⟩|⟨_,_,_,_,rfl,rfl,rfl⟩|⟨hi,rI,qa,rfl,hR,En⟩
 ·exact⟨rfl,h.mono⟩
 ·exact⟨rfl,h.mono⟩
 ·exact⟨rfl,h.mono⟩
 have xp:=h.c y (List.mem_of_getElem? hk)
 have BV:y.n≤1024:=xp.1
 subst FW
 unfold fW at qa
 cases gw:dN y.x i with
 | none=>rw[gw]at qa;cases qa
 | some an =>
 obtain⟨a,n⟩:=an
 rw[gw]at qa
 simp only[Bool.and_eq_true,decide_eq_true_eq]at qa
 have sI:p.length≤10:=by
  have h2:=qa.2
  unfold j9 at h2
  rw[decide_eq_true_eq]at h2
  rw[h2.2.1]
  exact mM _ _
 obtain⟨rfl,hP⟩:=h.p.put hq hm (D4 _ _ ai p sI) hk gw qa.1 hR
 refine⟨by decide,?_⟩
 rcases En with⟨ct,_⟩|⟨_,rfl⟩
 ·exact absurd rfl ct
 ·refine⟨hP _,fun w hw=>?_⟩
  obtain⟨j,hj⟩:=List.mem_iff_getElem?.1 hw
  by_cases xK:k=j
  ·subst xK
   rw[List.getElem?_set_self ((List.getElem?_eq_some_iff.1 hk).1)]at hj
   injection hj with hj
   rw[← hj]
   exact xp.put i.toNat sI
  ·rw[List.getElem?_set_ne xK]at hj
   exact h.c w (List.mem_of_getElem? hj)
theorem RI.rm{q:Int}{m:Nat}{x:SJ}{ts gW:List Tk}(h:RI q m x ts)(hs:∀y∈gW,y∈ts){t:SJ}(hp:pZ q (m+1) t gW):RI q (m+1) t gW:=⟨hp,fun y hy=>h.c y (hs y hy)⟩
theorem FD(ts:List Tk)(d:Dg):∀y∈mW ts d,y∈ts:=fun y hy=>(List.mem_filter.1 hy).1
theorem RI.fin{q:Int}(hq:q≤2097152){m:Nat}{x t:SJ}{ts gW:List Tk}{b:Bl}{lA:Bool}{r:Int}(h:RI q m x ts)(hm:m<90)(hR:Ya b ts x false r gW lA t):lA=false∧RI q (m+1) t gW:=by
 rcases hR with⟨h1,_⟩|⟨_,_,_,rfl,rfl,rfl⟩|⟨_,y,hf,hc⟩
 ·cases h1
 ·exact⟨rfl,h.mono⟩
 rcases hc with⟨_,_,rfl,rfl,rfl⟩|⟨_,e,u,⟨hI,Y4⟩,hc⟩
 ·exact⟨rfl,h.mono⟩
 obtain⟨k,hk,rfl⟩:=gU hf
 have hy:=List.mem_of_getElem? hk
 rcases hc with⟨h0,h8,_⟩|⟨_,e',_,rfl,rfl,gp⟩
 ·exfalso
  have:=(h.p.si.over (h.p.tk y hy).1 (.inl hI)).1
  omega
 ·obtain⟨_,_,rfl,hP⟩:=h.p.over hq hm (Cs _) hy (.inl hI) Y4 gp
  exact⟨by decide,h.rm (FD ts y.x.d) hP⟩
theorem RI.abort{q:Int}(hq:q≤2097152){m:Nat}{x u t:SJ}{ts:List Tk}{b:Bl}{e':Nat}(h:RI q m x ts)(hm:m<90)(hf:(eS ts b).isSome=true)(hA:cX (eL b) x 0 u)(hR:gy (iE (Ir b.d)) u e' t):e'=0∧RI q (m+1) t (mW ts b.d):=by
 obtain⟨y,hy⟩:=Option.isSome_iff_exists.1 hf
 obtain⟨k,hk,rfl⟩:=gU hy
 have xF:=List.mem_of_getElem? hk
 obtain⟨_,_,rfl,hP⟩:=h.p.over hq hm (Cs _) xF (.inr hA.1) hA.2 hR
 exact⟨rfl,h.rm (FD ts y.x.d) hP⟩
theorem RI.T3{q:Int}{m:Nat}{x u:SJ}{ts:List Tk}{b:Bl}{e:Nat}(h:RI q m x ts)(hf:(eS ts b).isSome=true)(hA:cX (eL b) x e u):e=0:=by
 obtain⟨y,hy⟩:=Option.isSome_iff_exists.1 hf
 obtain⟨k,hk,rfl⟩:=gU hy
 exact(h.p.si.over (h.p.tk y (List.mem_of_getElem? hk)).1 (.inr hA.1)).2.1 hA.1
theorem RI.read{q:Int}{m:Nat}{x:SJ}{ts:List Tk}{b:Bl}{y:Tk}(h:RI q m x ts)(hf:eS ts b=some y)(i:Int):decide (((ep x.1 ts b i).2.2:Int)=0)=fZ y.ws y.n i:=by
 obtain⟨k,hk,rfl⟩:=gU hf
 have hy:=List.mem_of_getElem? hk
 have nM:=(h.p.tk y hy).1
 have e:(ep x.1 ts y.x i).2.2=if fZ y.ws y.n i=true then 0 else 4:=by
  unfold ep
  rw[hf]
  simp only
  by_cases hh:fZ y.ws y.n i=true
  case neg =>
   rw[if_neg hh,if_neg hh]
  case pos =>
   obtain⟨c,a,n,hc,gw,hl⟩:=h.p.UF y hy i hh
   obtain⟨g0,g1,g2,g3,g4,g5,g6,gr⟩:=uI gw
   have cE:(cq x.1 y.x i).2=0:=by
    unfold cq
    rw[if_pos (by unfold p6;exact decide_eq_true nM),gw]
    simp only
    unfold vw oI at hc
    cases yI:x.1.A.look (cL kS y.x.d)with
    | none=>rw[yI]at hc;cases hc
    | some f =>
     rw[yI]at hc
     simp only[Option.map_some,Option.some.injEq]at hc
     unfold Ab.read
     rw[if_neg (by rw[h.p.si.ha.on];simp),yI]
     simp only
     rw[hc,if_neg ai]
   rw[if_pos hh,if_pos hh,if_pos cE]
 by_cases hh:fZ y.ws y.n i=true
 ·rw[if_pos hh]at e
  rw[hh]
  exact decide_eq_true ai
 ·rw[if_neg hh]at e
  have h0:fZ y.ws y.n i=false:=by simpa using hh
  rw[h0]
  exact decide_eq_false ai
theorem RI.bnd{q:Int}{m:Nat}{x:SJ}{ts:List Tk}(h:RI q m x ts)(hm:m≤60):ts.length≤60∧(∀y∈ts,y.n≤65536)∧(∀y∈ts,y.n≤y.ws.length*64)∧(∀y∈ts,y.ws.length≤65536)∧(∀y∈ts,∀k l,y.pf k=some l→l.length≤1000000)∧mU x.1.aT∧x.1.A.aH.length≤6100∧x.1.A.writes.length≤6100:=by
 have:=h.p.tl
 have:=h.p.kE
 have:=h.p.lK
 have:=h.p.bl
 refine⟨ai,fun y hy=>?_,fun y hy=>(h.c y hy).2.1,fun y hy=>(h.c y hy).2.2.1,fun y hy k l hk=>?_,h.p.si.X2 ai,ai,ai⟩
 ·have h9:y.n≤1024:=(h.c y hy).1
  omega
 ·have h9:l.length≤10:=(h.c y hy).2.2.2 k l hk
  omega
theorem RI.sq{q:Int}{m:Nat}{x u:SJ}{ts:List Tk}(h:RI q m x ts)(hm:m≤60)(hu:u.2=x.2)(hg:gu 5 x.1 u.1):SQ 10000 0 u:=by
 obtain⟨n,c,s,hj,h1,h2,h3⟩:=h.p.ji.jn
 have:=h.p.kE
 have:=h.p.lK
 have:=hg.1
 have:=hg.2
 refine⟨?_,?_,ai,ai⟩
 ·rw[hu,hj];exact h1
 ·rw[hu,hj];exact⟨by simp only;omega,by simp only;omega⟩
theorem Bs(l:List Dg)(i:Nat)(hn:1<l.length):cU l.length l i=((eR l.length i).bind fun s=>l[s]?).toList++cU (bu l).length (bu l) (i/2):=by
 rw[Br l.length l i (Nat.le_refl _) hn,n9 l.length (bu l).length (bu l) (i/2) (by rw[cH];omega) (Nat.le_refl _)]
attribute [local irreducible] J K aD Ends ag az aL bK aZ aQ aV bg bQ Sha.chunks Sha.chunk Sha.rounds Sha.sched dA cd cI gn
set_option maxRecDepth 20000 in
set_option maxHeartbeats 1000000 in
theorem IK(A:HP)(v:Value)(l0:List Dg)(hv:Vw A v l0.length (l0.flatMap dC))(Lb:l0.length≤1000000)(i:Int) :
    aD Tryz.prog 25 [v,.int .i64 i] [A] (fun r H=>(¬(0≤i∧i<l0.length∧l0.length≤1024)∧r = .tuple #[.slice none 0 0,.int .i64 1]∧H=[A]) ∨
      ∃rv,(0≤i∧i<l0.length∧l0.length≤1024)∧r = .tuple #[rv,.int .i64 0]∧H=[az 36 32 rv (cU l0.length l0 i.toNat).length ((cU l0.length l0 i.toNat).flatMap dC),A]):=by
  obtain⟨a,c,rfl⟩:=hv.shape
  refine aD.enter Tryz.func25 ak rfl Tryz.ntmps25 zr zr ?_
  intro G F R hE
  by_cases lF:0≤i∧i<l0.length∧l0.length≤1024
  case neg =>
    repeat'(first|(with_reducible intro nT)|refine fk ?_|refine gN zr zr zr zr ?_ ?_|refine aw zr zr ?_ ?_|fail)
    all_goals(first|(exfalso;omega)|skip)
    all_goals(
      refine go ?_
      ((refine ae hE Tryz.func25 rfl _ rfl (.inl ⟨lF,rfl,rfl⟩) ad)))
  obtain⟨k0,rfl⟩:∃k:Nat,i=k:=⟨i.toNat,ai⟩
  rw[Int.toNat_natCast]at hE
  refine go ?_
  ((refine aB 10 ((.bool false)) rfl ((congrArg Value.bool (decide_eq_false ai))) ?_))
  refine go ?_
  ((refine aB 16 ((.bool false)) rfl ((congrArg Value.bool (decide_eq_false ai))) ?_))
  refine go ?_
  ((refine bj 20 ((.bool false)) rfl ((congrArg Value.bool (decide_eq_false ai))) ?_))
  refine go ?_
  refine aj (bw 36 32 none _) ?_
  refine bo (fun y:List Dg × HP × Option Addr × Nat × Nat × List Dg × Option Addr × Nat=>y.1.length≤l0.length∧y.2.2.2.2.1<y.1.length∧Vw y.2.1 (.slice y.2.2.1 y.1.length y.2.2.2.1) y.1.length (y.1.flatMap dC)∧(∀h,y.2.1 h→∃h',sub h' h∧A h')∧cU l0.length l0 k0=y.2.2.2.2.2.1++cU y.1.length y.1 y.2.2.2.2.1∧y.2.2.2.2.2.1.length+y.1.length≤l0.length+1) (fun y=>y.1.length)
    (fun y=>[(1,.int .i64 (y.2.2.2.2.1:Int)),(6,.slice y.2.2.2.2.2.2.1 y.2.2.2.2.2.1.length y.2.2.2.2.2.2.2),(7,.slice y.2.2.1 y.1.length y.2.2.2.1)])
    (fun y=>az 36 32 (.slice y.2.2.2.2.2.2.1 y.2.2.2.2.2.1.length y.2.2.2.2.2.2.2) y.2.2.2.2.2.1.length (y.2.2.2.2.2.1.flatMap dC)::y.2.1::F) (l0,A,a,c,k0,[],none,0) ⟨Nat.le_refl _,by simp only;omega,hv,fun h hA=>⟨h,sub.refl h,hA⟩,rfl,by simp⟩ rfl bY ad ?_
  rintro⟨row,X,xa,xc,k,out,oa,oc⟩⟨HR,hk,hX,TD,OM,Nz⟩ ih
  simp only at HR hk hX TD OM Nz
  dsimp only
  refine go ?_
  refine aw zr zr ?_ ?_
  case' refine_2 =>
    intro WX
    rw[D3 row.length row k ai,List.append_nil]at OM
    rw[OM]at hE
    clear ih
    refine go ?_
    refine aj (aq.cons _ (aq.head (B:=[A]) fun h hs=>by obtain⟨h',s1,Jg⟩:=TD h hs;exact⟨h',s1,fE Jg⟩)) ?_
    ((refine ae hE Tryz.func25 rfl _ rfl (.inr ⟨_,lF,rfl,rfl⟩) ad))
  intro ML
  have xM:1<row.length:=by omega
  have qb:=Bs row k xM
  have vZ:=cH row
  have NP:=y5 X _ _ hX ai
  obtain⟨bb,oo,cc,he⟩:=hX.some (by intro h;have:=congrArg List.length h;rw[bZ cP]at this;simp at this;omega)
  simp only[Value.slice.injEq,true_and]at he
  obtain⟨rfl,rfl⟩:=he
  have OK:∀s,eR row.length k=some s→cU row.length row k=[row.getD s Dg.zero]++cU (bu row).length (bu row) (k/2):=fun s hs=>by
    obtain⟨h1,_⟩:=zt hk hs
    rw[qb,hs,List.getD_eq_getElem?_getD]
    simp[List.getElem?_eq_getElem h1]
  have aaq:eR row.length k=none→cU row.length row k=cU (bu row).length (bu row) (k/2):=fun hs=>by rw[qb,hs];rfl
  have XG:∀x:Dg,out.flatMap dC++dC x=(out++[x]).flatMap dC∧out.length+1=(out++[x]).length:=fun x=>⟨by simp,by simp⟩
  have nL:∀(s:Nat) (hs:s<row.length) (q:Nat) (v:Value),(dC (row.getD s Dg.zero))[q]?=some v→(row.flatMap dC)[s*32+q]?=some v:=fun s hs q v hq=>by
    have hx:row[s]?=some (row.getD s Dg.zero):=by rw[List.getD_eq_getElem?_getD,List.getElem?_eq_getElem hs];rfl
    rw[cF cP hx q (by rcases Nat.lt_or_ge q 32 with h|h;exact h;rw[List.getElem?_eq_none (by rw[cP];exact h)]at hq;cases hq)]
    exact hq
  clear qb
  refine gL rfl ?_
  refine zc 2 (fun y:List Dg × Option Addr × Nat=>cU l0.length l0 k0=y.1++cU (bu row).length (bu row) (k/2)∧y.1.length≤out.length+1) (fun y=>[(1,.int .i64 (k:Int)),(6,.slice y.2.1 y.1.length y.2.2),(7,.slice (some ⟨bb,oo,none⟩) row.length xc)]) (fun y=>az 36 32 (.slice y.2.1 y.1.length y.2.2) y.1.length (y.1.flatMap dC)::X::F) rfl ?_ ?_
  rotate_left
  · intro tail
    refine go ?_
    refine nI zr zr zr ai ai ?_
    by_cases vU:k%2=1
    · have hs:eR row.length k=some (k-1):=by unfold eR;rw[if_pos vU]
      have xJ:k-1<row.length:=by omega
      have hp:=OK _ hs
      have ha:=XG (row.getD (k-1) Dg.zero)
      ((refine aB 26 ((.int .i64 1)) rfl ((congrArg (Value.int .i64) ai)) ?_))
      refine go ?_
      refine eE (U:=ao) (k-1) 32 zr zr zr zr zr zr zr ai xJ ?_
      refine aJ ?_
      refine cQ (U:=ao) (es:=dC (row.getD (k-1) Dg.zero)) 1 ((k-1)*32) zr zr zr hX rfl (nL _ xJ) zr zr zr ?_
      refine au (U:=ao) (cs:=dC (row.getD (k-1) Dg.zero)) zr zr zr zr zr zr zr zr zr bp ?_
      intro r1
      refine go ?_
      refine bh (U:=ao) (mm:=1) (news:=dC (row.getD (k-1) Dg.zero)) 1 0 zr zr zr zr zr zr zr zr zr zr zr zr (Vw.ag rfl) rfl (by rw[dp];exact cC _) ai (by show(_+_)*32≤_;omega) (fun _=>rfl) bp ?_
      intro v1
      rw[ha.1,ha.2]
      ((refine aM 1 rfl ?_))
      rintro ja jc rfl
      (refine nN ?_)
      refine nQ tail (out++[row.getD (k-1) Dg.zero],ja,jc) rfl ⟨by rw[OM,hp,List.append_assoc],by simp⟩ bY ad
    · ((refine aB 26 ((.int .i64 0)) rfl ((congrArg (Value.int .i64) ai)) ?_))
      refine go ?_
      by_cases xJ:k+1<row.length
      · have hs:eR row.length k=some (k+1):=by unfold eR;rw[if_neg vU,if_pos xJ]
        have hp:=OK _ hs
        have ha:=XG (row.getD (k+1) Dg.zero)
        ((refine bj 40 ((.bool true)) rfl ((congrArg Value.bool (decide_eq_true ai))) ?_))
        refine go ?_
        refine eE (U:=ao) (k+1) 32 zr zr zr zr zr zr zr ai xJ ?_
        refine aJ ?_
        refine cQ (U:=ao) (es:=dC (row.getD (k+1) Dg.zero)) 1 ((k+1)*32) zr zr zr hX rfl (nL _ xJ) zr zr zr ?_
        refine au (U:=ao) (cs:=dC (row.getD (k+1) Dg.zero)) zr zr zr zr zr zr zr zr zr bp ?_
        intro r1
        refine go ?_
        refine bh (U:=ao) (mm:=1) (news:=dC (row.getD (k+1) Dg.zero)) 1 0 zr zr zr zr zr zr zr zr zr zr zr zr (Vw.ag rfl) rfl (by rw[dp];exact cC _) ai (by show(_+_)*32≤_;omega) (fun _=>rfl) bp ?_
        intro v1
        rw[ha.1,ha.2]
        ((refine aM 1 rfl ?_))
        rintro ja jc rfl
        (refine nN ?_)
        refine nQ tail (out++[row.getD (k+1) Dg.zero],ja,jc) rfl ⟨by rw[OM,hp,List.append_assoc],by simp⟩ bY ad
      · have hs:eR row.length k=none:=by unfold eR;rw[if_neg vU,if_neg xJ]
        have hp:=aaq hs
        ((refine bj 40 ((.bool false)) rfl ((congrArg Value.bool (decide_eq_false ai))) ?_))
        refine uV zr zr ?_
        refine nQ tail (out,oa,oc) rfl ⟨by rw[OM,hp],by simp⟩ bY ad
  rintro⟨Nf,oa2,oc2⟩⟨WD,aaj⟩
  simp only at WD aaj
  dsimp only
  refine go ?_
  ((refine ah zr zr zr zr (NP) ad ?_ bE))
  rintro r _ rfl
  ((refine aM 0 rfl ?_))
  rintro ra rc rfl
  ((refine aG (H':=az 36 32 (.slice ra (bu row).length rc) (bu row).length ((bu row).flatMap dC)::X::az 36 32 (.slice oa2 Nf.length oc2) Nf.length (Nf.flatMap dC)::F) ad ?_))
  refine sx fun dj=>?_
  refine go ?_
  refine mR zr zr zr ai ai (by simp only[fz];omega) ?_
  ((refine aB 52 ((.int .i64 ((k/2:Nat):Int))) rfl ((congrArg (Value.int .i64) ai)) ?_))
  refine go ?_
  refine aj (aq.perm (List.Perm.swap ..)) ?_
  refine aO ih (bu row,Sep [az 36 32 (.slice ra (bu row).length rc) (bu row).length ((bu row).flatMap dC),X],ra,rc,k/2,Nf,oa2,oc2) rfl ⟨by simp only;omega,by simp only;omega,dj.mono (aW (i:=0) rfl),(fun h hs=>by
      obtain⟨h1,s1,Jg⟩:=aW (H:=[az 36 32 (.slice ra (bu row).length rc) (bu row).length ((bu row).flatMap dC),X]) (i:=1) rfl h hs
      obtain⟨h2,s2,pT⟩:=TD h1 Jg
      exact⟨h2,s2.trans s1,pT⟩),WD,by simp only;omega⟩ (by simp only;omega) bY ad
end Go.Proofs.YthjbidjmgbjkiaaGreatDoor
namespace Go.Proofs.YthjbidjmgbjkiaaGreatDoor
open Go Go.SL
def qU(b:List UInt8)(k:Nat)(t:UInt8):List UInt8:=b.set k (b.getD k 0 ^^^ t)
theorem sK(b:List UInt8)(k:Nat)(t:UInt8):(qU b k t).length=b.length:=by simp[qU]
def p4(d:Dg)(k:Nat)(t:UInt8):Dg:=⟨qU d.bs k t,by rw[sK];exact d.len⟩
def qZ(p:List Dg)(k:Nat)(t:UInt8):List Dg:=p.set (k%p.length) (p4 (p.getD (k%p.length) Dg.zero) (k%32) t)
theorem GO(p:List Dg)(k:Nat)(t:UInt8):(qZ p k t).length=p.length:=by simp[qZ]
def om(n:Int):Nat:=(BitVec.ofInt IntKind.i64.bits n &&& BitVec.ofInt IntKind.i64.bits 63).toNat
theorem BI(n:Int):om n<64:=by
 unfold om
 rw[BitVec.toNat_and]
 have e1:(BitVec.ofInt IntKind.i64.bits (63:Int)).toNat=63:=by decide
 rw[e1]
 have := @Nat.and_le_right (BitVec.ofInt IntKind.i64.bits n).toNat 63
 omega
theorem Eg(n:Int):IntKind.i64.wrap ((BitVec.ofInt IntKind.i64.bits n &&& BitVec.ofInt IntKind.i64.bits 63).toNat:Int)=(om n:Int):=by
 have:=BI n
 unfold om at this ⊢
 exact cD (by simp only[fz];omega)
def k9(a:List UInt8)(m i n:Int)(t:UInt8):Bl × List UInt8 × List Dg:=match fm a m,cS a m with
 | some x,some l=>match dN x i with
  | none=>(x,[],[])
  | some (at_,sz) =>
   let b:=(a.drop at_.toNat).take sz.toNat
   let p:=cU l.length l i.toNat
   if om n<b.length then(x,qU b (om n) t,p)else(x,b,if p=[]then p else qZ p (om n) t)
 | _,_=>(Bl.zero,[],[])
theorem AP(p q:UInt8):IntKind.u8.wrap ((BitVec.ofInt IntKind.u8.bits (p.toNat:Int) ^^^ BitVec.ofInt IntKind.u8.bits (q.toNat:Int)).toNat:Int)=((p ^^^ q).toNat:Int):=by
 have e:∀z:UInt8,(BitVec.ofInt IntKind.u8.bits (z.toNat:Int)).toNat=z.toNat:=fun z=>by
  rw[BitVec.ofInt_natCast,BitVec.toNat_ofNat]
  have:=z.toNat_lt
  exact Nat.mod_eq_of_lt (by show z.toNat<2 ^ 8;omega)
 rw[BitVec.toNat_xor,e,e,← UInt8.toNat_xor]
 have:=(p ^^^ q).toNat_lt
 exact cD (by simp only[fz];omega)
theorem EW(b:List UInt8)(k:Nat)(t:UInt8):(bV b).set k (u8 t)=bV (b.set k t):=by simp[bV,List.map_set]
theorem Il(p:List Dg)(q j:Nat)(t:UInt8)(hq:q<p.length)(hj:j<32)(x:Dg)(hx:p[q]?=some x):(p.flatMap dC).set (q*32+j) (u8 (x.bs.getD j 0 ^^^ t))=(p.set q (p4 x j t)).flatMap dC:=by
 have h1:dC (p4 x j t)=(dC x).set j (u8 (x.bs.getD j 0 ^^^ t)):=by
  rw[dp,dp,EW]
  rfl
 refine List.ext_getElem? fun z=>?_
 have KO:∀l:List Dg,(l.flatMap dC).length=l.length*32:=fun l=>bZ cP l
 rcases Nat.lt_or_ge z (p.length*32)with hz|hz
 case inr =>
  rw[List.getElem?_eq_none (by rw[List.length_set,KO];omega),List.getElem?_eq_none (by rw[KO,List.length_set];omega)]
 have hzq:z/32<p.length:=by omega
 obtain⟨y,hy⟩:∃y,p[z/32]?=some y:=⟨p[z/32],by simp[hzq]⟩
 have OE:z=z/32*32+z%32:=by omega
 have hpz:(p.flatMap dC)[z]?=(dC y)[z%32]? := by
  conv=>lhs;rw[OE]
  exact cF cP hy _ ai
 by_cases Up:z/32=q
 ·have FW:y=x:=by rw[Up,hx]at hy;injection hy with hy;exact hy.symm
  have hs:(p.set q (p4 x j t))[z/32]?=some (p4 x j t):=by rw[Up,List.getElem?_set_self hq]
  have hrz:((p.set q (p4 x j t)).flatMap dC)[z]?=(dC (p4 x j t))[z%32]? := by
   conv=>lhs;rw[OE]
   exact cF cP hs _ ai
  rw[hrz,h1]
  by_cases B8:z%32=j
  ·have hzz:z=q*32+j:=by omega
   rw[B8,List.getElem?_set_self (by rw[cP];exact hj),hzz,List.getElem?_set_self (by rw[KO];omega)]
  ·rw[List.getElem?_set_ne ai,List.getElem?_set_ne ai,hpz,FW]
 ·have hs:(p.set q (p4 x j t))[z/32]?=some y:=by rw[List.getElem?_set_ne (fun e=>Up e.symm),hy]
  have hrz:((p.set q (p4 x j t)).flatMap dC)[z]?=(dC y)[z%32]? := by
   conv=>lhs;rw[OE]
   exact cF cP hs _ ai
  rw[hrz,List.getElem?_set_ne ai,hpz]
structure xS where
 d:Int
 aa:Option Addr
 ac:Nat
 a:List UInt8
 m:Int
 i:Int
 n:Int
 cut:Int
 t:UInt8
 ba:Option Addr
 bc:Nat
 b:List UInt8
def js(s:xS):List Value:=[.int .i64 s.d,.slice s.aa s.a.length s.ac,.int .i64 s.m,.int .i64 s.i,.int .i64 s.n,.int .i64 s.cut,u8 s.t,.slice s.ba s.b.length s.bc]
theorem nZ(s:xS):(js s).length=8:=rfl
def xS.g(s:xS):Bl × List UInt8 × List Dg:=k9 s.a s.m s.i s.n s.t
theorem Af{a:List UInt8}{m:Int}{x:Bl}{l:List Dg}(hx:fm a m=some x)(hl:cS a m=some l):cj x=l.length∧x.size=a.length∧x.piece=m∧bz x=true:=by
 obtain⟨h1,h2,h3,_⟩:=pN hx
 refine⟨?_,h2,h3,h1⟩
 have hr:=h1
 simp only[bz,decide_eq_true_eq]at hr
 unfold cS at hl
 split at hl
 ·injection hl with hl
  rw[← hl,List.length_map,lP m.toNat ai]
  unfold cj
  rw[if_pos h1,h2,h3]
  obtain⟨k,rfl⟩:∃k:Nat,m=k:=⟨m.toNat,ai⟩
  rw[Int.toNat_natCast]
  have:(((a.length+k-1)/k:Nat):Int)=((a.length:Int)+k-1)/k:=by
   rw[Int.natCast_ediv]
   congr 1
   omega
  rw[this]
 ·cases hl
theorem BO{a:List UInt8}{m:Int}:(fm a m=none∧cS a m=none)∨∃x l,fm a m=some x∧cS a m=some l:=by
 unfold fm
 cases h:cS a m with
 | none=>exact .inl ⟨rfl,rfl⟩
 | some l=>exact .inr ⟨_,l,rfl,rfl⟩
section
variable{P:Program}{U:Tr}[hU:e7 P U]{f:FuncId}{n:Nat}{R:Ending→World→Prop}{G:cm}{k:List Item}{L:eN}{H H':List HP}{S:World→Prop}{all:Array Oper}{rest:Pl}{ty:TypeId}{pos:String}{af:Array Edge}{gd:Option (Nat × Bool)}{m:Bool}{d:Tmp}
end
attribute [local irreducible] J K aD Ends ag az aL bK aZ aQ aV bg bQ Sha.chunks Sha.chunk Sha.rounds Sha.sched dA cd cI gn fm cS cU
set_option maxRecDepth 20000 in
set_option maxHeartbeats 4000000 in
theorem Ij(X:HP)(s:xS)(ha:dR X (.slice s.aa s.a.length s.ac) s.a)(MQ:s.a.length≤1000000) :
  aD Tryz.prog 8 [.agg (js s).toArray] [X] (fun r H=>∃bv pv,r = .tuple #[dQ s.g.1,bv,pv]∧H=[az 5 1 bv s.g.2.1.length (bV s.g.2.1),az 36 32 pv s.g.2.2.length (s.g.2.2.flatMap dC),X]):=by
 have YZ:s.a.length≤s.ac:=by
  obtain⟨a',c',he,hc⟩:=ha.2
  simp only[Value.slice.injEq]at he
  obtain⟨-,-,rfl⟩:=he
  exact hc
 have XE:=De X _ s.a ha ai s.m
 have OV:=wU X _ s.a ha ai s.m
 refine aD.enter Tryz.func8 ak rfl Tryz.ntmps8 zr zr ?_
 intro G F R hE
 refine aE rfl ?_
 refine bq zr zr bp ?_
 intro b1
 refine aN (U:=ao) zr zr zr bp ?_
 intro b2
 ((refine aG (H':=ag b1 (cl (js s) 44)::ag b2 (cl (bn Bl.zero) 38)::X::F) (ad) ?_))
 refine go ?_
 ((refine ah zr zr zr zr (XE) ad ?_ bE))
 rintro _ _⟨rfl,rfl⟩
 rcases BO (a:=s.a) (m:=s.m)with⟨qD,Lb⟩|⟨x,l,uz,hlx⟩
 ·rw[qD]
  simp only
  have hg:s.g=(Bl.zero,[],[]):=by unfold xS.g k9;rw[qD]
  rw[hg]at hE
  have gw:dN Bl.zero s.i=none:=by
   cases h:dN Bl.zero s.i with
   | none=>rfl
   | some w=>exact absurd (uI (a:=w.1) (n:=w.2) (by rw[h])).2.2.2.2.2.2.2 (by decide)
  have nF:=CK Bl.zero s.i
  rw[gw]at nF
  unfold dQ at nF ⊢
  refine go ?_
  refine aN (U:=ao) zr zr zr bp ?_
  intro b5
  refine go ?_
  ((refine aG (H':=ag b5 (cl (bn Bl.zero) 38)::ag b1 (cl (js s) 44)::ag b2 (cl (bn Bl.zero) 38)::X::F) (ad) ?_))
  refine go ?_
  ((refine ah zr zr zr zr (OV) ad ?_ bE))
  rintro _ _ (⟨_,rfl,rfl⟩|⟨ls,rv,h1,rfl,rfl⟩)
  case' inr=>(rw[Lb]at h1;cases h1)
  ((refine aG (H':=ag b5 (cl (bn Bl.zero) 38)::ag b1 (cl (js s) 44)::ag b2 (cl (bn Bl.zero) 38)::X::F) (ad) ?_))
  refine go ?_
  refine aI (U:=ao) (l:=bn Bl.zero) 0 zr zr zr zr zr zr ?_
  refine go ?_
  ((refine ah zr zr zr zr (nF) ad ?_ bE))
  rintro _ _⟨rfl,rfl⟩
  simp only
  refine go ?_
  refine aI (U:=ao) (l:=bn Bl.zero) 0 zr zr zr zr zr zr ?_
  refine go ?_
  ((refine aj (H':=ag b2 (cl (bn Bl.zero) 38)::X::F) (ad) ?_))
  refine aj (aq.trans (bw 5 1 none _) (aq.cons _ (bw 36 32 none _))) ?_
  (refine aU hE ?_;apply aR (U:=ao) hE Tryz.func8 rfl (aq.refl _);(repeat(first|exact aK.nil|apply aK.tmp rfl|apply aK.agg 2 zr zr zr zr zr));exact⟨_,_,rfl,rfl⟩;exact ad)
 rw[uz]
 simp only
 obtain⟨Cf,g8,qa,KX⟩:=Af uz hlx
 have nF:=CK x s.i
 have YK:=jQ hlx
 have yK:s.g=(match dN x s.i with
  | none=>(x,[],[])
  | some (at_,sz) =>
   if om s.n<((s.a.drop at_.toNat).take sz.toNat).length then(x,qU ((s.a.drop at_.toNat).take sz.toNat) (om s.n) s.t,cU l.length l s.i.toNat)else(x,(s.a.drop at_.toNat).take sz.toNat,if cU l.length l s.i.toNat=[]then cU l.length l s.i.toNat else qZ (cU l.length l s.i.toNat) (om s.n) s.t)):=by
  unfold xS.g k9;rw[uz,hlx] <;> rfl
 unfold dQ at nF ⊢
 refine go ?_
 refine aN (U:=ao) zr zr zr bp ?_
 intro b5
 refine go ?_
 ((refine aG (H':=ag b5 (cl (bn x) 38)::ag b1 (cl (js s) 44)::ag b2 (cl (bn Bl.zero) 38)::X::F) (ad) ?_))
 refine go ?_
 ((refine ah zr zr zr zr (OV) ad ?_ bE))
 rintro _ _ (⟨h1,rfl,rfl⟩|⟨ls,rv,h1,rfl,rfl⟩)
 case' inl=>(rw[hlx]at h1;cases h1)
 rw[hlx]at h1
 injection h1 with h1
 subst h1
 ((refine aM 0 rfl ?_))
 rintro la lc rfl
 ((refine aG (H':=ag b5 (cl (bn x) 38)::ag b1 (cl (js s) 44)::az 36 32 (.slice la l.length lc) l.length (l.flatMap dC)::ag b2 (cl (bn Bl.zero) 38)::X::F) (ad) ?_))
 refine go ?_
 refine aI (U:=ao) (l:=bn x) 0 zr zr zr zr zr zr ?_
 refine go ?_
 ((refine ah zr zr zr zr (nF) ad ?_ bE))
 rintro _ _⟨rfl,rfl⟩
 cases gw:dN x s.i with
 | none =>
  rw[gw]at yK
  simp only at yK ⊢
  rw[yK]at hE
  refine go ?_
  refine aI (U:=ao) (l:=bn x) 0 zr zr zr zr zr zr ?_
  refine go ?_
  ((refine aj (H':=ag b2 (cl (bn x) 38)::X::F) (ad) ?_))
  refine aj (aq.trans (bw 5 1 none _) (aq.cons _ (bw 36 32 none _))) ?_
  (refine aU hE ?_;apply aR (U:=ao) hE Tryz.func8 rfl (aq.refl _);(repeat(first|exact aK.nil|apply aK.tmp rfl|apply aK.agg 2 zr zr zr zr zr));exact⟨_,_,rfl,rfl⟩;exact ad)
 | some w =>
 obtain⟨at_,sz⟩:=w
 rw[gw]at yK
 obtain⟨g0,g1,g2,g3,g4,g5,g6,g7⟩:=uI gw
 simp only at yK ⊢
 obtain⟨an,rfl⟩:∃k:Nat,at_=k:=⟨at_.toNat,ai⟩
 obtain⟨zn,rfl⟩:∃k:Nat,sz=k:=⟨sz.toNat,ai⟩
 simp only[Int.toNat_natCast]at yK
 have F9:=ha.piece an (an+zn) ai ai
 rw[show an+zn-an=zn from by omega]at F9
 obtain⟨b,hb⟩:∃b,b=(s.a.drop an).take zn:=⟨_,rfl⟩
 have jV:b.length=zn:=by rw[hb,List.length_take,List.length_drop];omega
 rw[← hb]at F9 yK
 rw[← jV]at F9
 ((refine aG (H':=ag b1 (cl (js s) 44)::az 36 32 (.slice la l.length lc) l.length (l.flatMap dC)::X::ag b5 (cl (bn x) 38)::ag b2 (cl (bn Bl.zero) 38)::F) (ad) ?_))
 refine go ?_
 refine au (U:=ao) (cs:=[]) zr zr zr zr zr zr zr zr zr bp ?_
 intro r0
 refine go ?_
 refine bG (U:=ao) (p:=(an:Int)) (q:=(an:Int)+(zn:Int)) zr zr zr zr zr zr zr ai ai (.inr ai) ?_
 ((refine aB 50 ((.slice (sliceAt s.aa s.ac an 1) b.length (s.ac-an))) rfl ((by rw[jV,show((an:Int)+(zn:Int)).toNat=an+zn from by omega,Int.toNat_natCast,show an+zn-an=zn from by omega];rfl)) ?_))
 refine aG (dZ 5 1 r0 0 0 [] [] _ rfl (Nat.le_refl _) (by simp)) ?_
 refine bh (U:=ao) (mm:=b.length) (news:=bV b) 0 3 zr zr zr zr zr zr zr zr zr zr zr zr F9.1 (by show _=_*1;rw[bt];omega) (cC _) ai (by show(_+_)*1≤_;omega) (fun _=>rfl) bp ?_
 intro v1
 rw[show(0:Nat)+b.length=b.length from Nat.zero_add _,List.nil_append]
 ((refine aM 0 rfl ?_))
 rintro da dc rfl
 ((refine aG (H':=az 36 32 (.slice la l.length lc) l.length (l.flatMap dC)::ag b1 (cl (js s) 44)::X::az 5 1 (.slice da b.length dc) b.length (bV b)::ag b5 (cl (bn x) 38)::ag b2 (cl (bn Bl.zero) 38)::F) (ad) ?_))
 (refine nN ?_)
 refine gL rfl ?_
 refine cM 0 rfl ?_
 intro hvl
 have aae:=IK _ _ l hvl ai s.i
 refine go ?_
 ((refine ah zr zr zr zr (aae) ad ?_ bE))
 rintro _ _ (⟨kr,rfl,rfl⟩|⟨rv,_,rfl,rfl⟩)
 case' inl=>exact absurd ⟨g3,ai,ai⟩ kr
 obtain⟨p,hp⟩:∃p,p=cU l.length l s.i.toNat:=⟨_,rfl⟩
 have sI:p.length≤10:=by
  rw[hp,vB l.length l s.i.toNat ai]
  exact tx 10 _ _ _ ai
 rw[← hp]at yK ⊢
 ((refine aM 0 rfl ?_))
 rintro pa0 pc0 rfl
 refine iu 0 rfl ?_
 intro ZM
 refine go ?_
 refine au (U:=ao) (cs:=[]) zr zr zr zr zr zr zr zr zr bp ?_
 intro r1
 refine go ?_
 refine aG (dZ 36 32 r1 0 0 [] [] _ rfl (Nat.le_refl _) (by simp)) ?_
 refine bh (U:=ao) (mm:=p.length) (news:=p.flatMap dC) 0 1 zr zr zr zr zr zr zr zr zr zr zr zr ZM (by rw[bZ cP];rfl) (LF p) ai (by show(_+_)*32≤_;omega) (fun _=>rfl) bp ?_
 intro v2
 rw[show(0:Nat)+p.length=p.length from Nat.zero_add _,List.nil_append]
 ((refine aM 0 rfl ?_))
 rintro pa pc rfl
 ((refine aG (H':=ag b1 (cl (js s) 44)::az 5 1 (.slice da b.length dc) b.length (bV b)::az 36 32 (.slice pa p.length pc) p.length (p.flatMap dC)::X::ag b5 (cl (bn x) 38)::ag b2 (cl (bn Bl.zero) 38)::F) (ad) ?_))
 obtain⟨k,hk⟩:∃k,k=om s.n:=⟨_,rfl⟩
 have abu:k<64:=by rw[hk];exact BI s.n
 rw[← hk]at yK
 have S7:=Eg s.n
 rw[← hk]at S7
 refine go ?_
 by_cases W3:k<b.length
 ·((refine bj 68 ((.bool true)) rfl ((congrArg Value.bool (decide_eq_true (by rw[S7];omega)))) ?_))
  ((refine bj 15 ((.int .i64 (k:Int))) rfl ((congrArg (Value.int .i64) S7)) ?_))
  rw[if_pos W3]at yK
  rw[yK]at hE
  have hbk:b[k]?=some (b.getD k 0):=by rw[List.getD_eq_getElem?_getD,List.getElem?_eq_getElem W3];rfl
  have MO:(bV b)[k]?=some (u8 (b.getD k 0)):=oP hbk
  have fM:(bV b).set k (u8 (b.getD k 0 ^^^ s.t))=bV (qU b k s.t):=EW b k _
  ((refine aj (aq.pick [1] rfl) ?_))
  refine cM 0 rfl ?_
  intro SH
  obtain⟨ob,oo,oc,he⟩:=SH.some (by rw[← List.length_pos_iff,bt];omega)
  simp only[Value.slice.injEq,true_and]at he
  obtain⟨rfl,rfl⟩:=he
  refine go ?_
  refine aF (fun w=>Sat G w ([az 5 1 (.slice (some ⟨ob,oo,none⟩) b.length dc) b.length (bV b),ag b1 (cl (js s) 44)])) (.st 0 (.st 1 (.st 2 (.st 3 (.st 4 (.st 5 (.st 6 (.st 7 (.act 8 .nil))))))))) rfl ak ak ak (fun w hw=>hw.aX ad) ?_
  (repeat(first|refine fk ?_|refine cK (U:=ao) k zr zr zr zr zr zr zr zr W3 ?_|(refine aJ ?_;refine cz (U:=ao) 0 k zr zr zr SH rfl MO zr zr ?_)))
  ((refine aB 75 ((u8 (b.getD k 0 ^^^ s.t))) rfl ((congrArg (Value.int .u8) (AP _ _))) ?_))
  (repeat(fail))
  refine aS ?_
  refine nC (U:=ao) (q:=k) 0 fR zr zr zr zr zr zr zr W3 rfl ?_
  rw[fM]
  ((refine aG (H':=ag b5 (cl (bn x) 38)::ag b2 (cl (bn Bl.zero) 38)::az 5 1 (.slice (some ⟨ob,oo,none⟩) b.length dc) b.length (bV (qU b k s.t))::az 36 32 (.slice pa p.length pc) p.length (p.flatMap dC)::X::F) (ad) ?_))
  refine go ?_
  refine aI (U:=ao) (l:=bn x) 0 zr zr zr zr zr zr ?_
  refine go ?_
  ((refine aj (H':=az 5 1 (.slice (some ⟨ob,oo,none⟩) b.length dc) (qU b k s.t).length (bV (qU b k s.t))::az 36 32 (.slice pa p.length pc) p.length (p.flatMap dC)::X::ag b2 (cl (bn x) 38)::F) ((by rw[sK];exact ad)) ?_))
  (refine aU hE ?_;apply aR (U:=ao) hE Tryz.func8 rfl (aq.refl _);(repeat(first|exact aK.nil|apply aK.tmp rfl|apply aK.agg 3 zr zr zr zr zr));exact⟨_,_,rfl,rfl⟩;exact ad)
 ((refine bj 68 ((.bool false)) rfl ((congrArg Value.bool (decide_eq_false (by rw[S7];omega)))) ?_))
 ((refine bj 15 ((.int .i64 (k:Int))) rfl ((congrArg (Value.int .i64) S7)) ?_))
 rw[if_neg W3]at yK
 refine go ?_
 by_cases Dr:p=[]
 ·rw[if_pos Dr]at yK
  rw[yK]at hE
  have abl:p.length=0:=by rw[Dr];rfl
  ((refine bj 79 ((.bool false)) rfl ((congrArg Value.bool (decide_eq_false ai))) ?_))
  ((refine aj (H':=ag b5 (cl (bn x) 38)::ag b2 (cl (bn Bl.zero) 38)::az 5 1 (.slice da b.length dc) b.length (bV b)::az 36 32 (.slice pa p.length pc) p.length (p.flatMap dC)::X::F) (ad) ?_))
  refine go ?_
  refine aI (U:=ao) (l:=bn x) 0 zr zr zr zr zr zr ?_
  refine go ?_
  ((refine aj (H':=az 5 1 (.slice da b.length dc) b.length (bV b)::az 36 32 (.slice pa p.length pc) p.length (p.flatMap dC)::X::ag b2 (cl (bn x) 38)::F) (ad) ?_))
  (refine aU hE ?_;apply aR (U:=ao) hE Tryz.func8 rfl (aq.refl _);(repeat(first|exact aK.nil|apply aK.tmp rfl|apply aK.agg 3 zr zr zr zr zr));exact⟨_,_,rfl,rfl⟩;exact ad)
 rw[if_neg Dr]at yK
 rw[yK]at hE
 have k6:=List.length_pos_iff.2 Dr
 obtain⟨j,hj⟩:∃j,j=k%p.length:=⟨_,rfl⟩
 have uy:j<p.length:=by rw[hj];exact Nat.mod_lt _ k6
 have Ns:p[j]?=some (p.getD j Dg.zero):=by rw[List.getD_eq_getElem?_getD,List.getElem?_eq_getElem uy];rfl
 obtain⟨d,hd⟩:∃d,d=p.getD j Dg.zero:=⟨_,rfl⟩
 rw[← hd]at Ns
 have h31:=r' k 5 ai ai
 have NF:k%32<32:=Nat.mod_lt _ ai
 have cZ:(p.flatMap dC)[j*32+k%32]?=some (u8 (d.bs.getD (k%32) 0)):=by
  rw[cF cP Ns _ NF,dp]
  refine oP ?_
  rw[List.getD_eq_getElem?_getD,List.getElem?_eq_getElem (by rw[d.len];exact NF)]
  rfl
 have fM:=Il p j (k%32) s.t uy NF d Ns
 have Yw:qZ p k s.t=p.set j (p4 d (k%32) s.t):=by unfold qZ;rw[← hj,← hd]
 ((refine bj 79 ((.bool true)) rfl ((congrArg Value.bool (decide_eq_true ai))) ?_))
 ((refine aj (aq.pick [2] rfl) ?_))
 refine cM 0 rfl ?_
 intro Wn
 obtain⟨ob,oo,oc,he⟩:=Wn.some (by rw[← List.length_pos_iff,bZ cP];omega)
 simp only[Value.slice.injEq,true_and]at he
 obtain⟨rfl,rfl⟩:=he
 refine go ?_
 refine aF (fun w=>Sat G w ([az 36 32 (.slice (some ⟨ob,oo,none⟩) p.length pc) p.length (p.flatMap dC),ag b1 (cl (js s) 44)])) (.st 0 (.st 1 (.st 2 (.st 3 (.st 4 (.st 5 (.st 6 (.st 7 (.st 8 (.st 9 (.st 10 (.st 11 (.st 12 (.st 13 (.st 14 (.act 15 .nil)))))))))))))))) rfl ak ak ak (fun w hw=>hw.aX ad) ?_
 refine go ?_
 refine kD ?_
 refine nI zr zr zr ai ai ?_
 ((refine aB 84 ((.int .i64 (j:Int))) rfl ((congrArg (Value.int .i64) (by rw[hj];omega))) ?_))
 refine go ?_
 ((refine aB 86 ((.int .i64 ((k%32:Nat):Int))) rfl ((congrArg (Value.int .i64) h31)) ?_))
 (repeat(first|refine fk ?_|refine eE (U:=ao) j 32 zr zr zr zr zr zr zr zr uy ?_|refine dF (U:=ao) (k%32) zr zr zr zr zr zr zr zr NF ?_|(refine aJ ?_;refine cz (U:=ao) 0 (j*32+k%32) zr zr zr Wn (Nat.add_assoc _ _ _) cZ zr zr ?_)))
 ((refine aB 92 ((u8 (d.bs.getD (k%32) 0 ^^^ s.t))) rfl ((congrArg (Value.int .u8) (AP _ _))) ?_))
 (repeat(fail))
 refine aS ?_
 refine CV (U:=ao) (q:=j*32+k%32) 0 fR rfl (Nat.add_assoc _ _ _) zr zr zr zr zr zr k6 ai rfl ?_
 rw[fM,← Yw]
 ((refine aG (H':=ag b5 (cl (bn x) 38)::ag b2 (cl (bn Bl.zero) 38)::az 36 32 (.slice (some ⟨ob,oo,none⟩) p.length pc) p.length ((qZ p k s.t).flatMap dC)::az 5 1 (.slice da b.length dc) b.length (bV b)::X::F) (ad) ?_))
 refine go ?_
 refine aI (U:=ao) (l:=bn x) 0 zr zr zr zr zr zr ?_
 refine go ?_
 ((refine aj (H':=az 5 1 (.slice da b.length dc) b.length (bV b)::az 36 32 (.slice (some ⟨ob,oo,none⟩) p.length pc) (qZ p k s.t).length ((qZ p k s.t).flatMap dC)::X::ag b2 (cl (bn x) 38)::F) ((by rw[GO];exact ad)) ?_))
 (refine aU hE ?_;apply aR (U:=ao) hE Tryz.func8 rfl (aq.refl _);(repeat(first|exact aK.nil|apply aK.tmp rfl|apply aK.agg 3 zr zr zr zr zr));exact⟨_,_,rfl,rfl⟩;exact ad)
end Go.Proofs.YthjbidjmgbjkiaaGreatDoor
namespace Go.SL
open Go Go.RowKit Go.ChangeShapes Go.WideShapes
abbrev i64(x:Int):Prop := -9223372036854775808≤x∧x≤9223372036854775807
section
variable{P:Program}{H:Type}{enc:TypeId × Value→H}{W:World}{base:Nat}{spare:Nat→Bool}{held:Bool}
theorem Hn{α:Type}[Inhabited α]{t e:TypeId}(ht:P.underlying t=some (.slice e))(g:α→List Value)(s:Nat)(Un:0<s)(hs:∀x,(g x).length=s)(hc:P.cellsOf e=s)(Q:α→Prop)(k7:∀(fuel:Nat) (cs:List Value) (x:DataW H × List MemPlace),DataW.trod enc P W base spare held fuel e cs=some x→∃y,cs=g y∧Q y){fuel:Nat}{cs:List Value}{x:DataW H × List MemPlace}(h:DataW.trod enc P W base spare held fuel t cs=some x):∃(l:List α) (a:Option Addr) (c:Nat),cs=[.slice a l.length c]∧Vw (old W) (.slice a l.length c) l.length (l.flatMap g)∧(∀x∈l,Q x)∧l.length≤9223372036854775807:=by
 have WO:maxLen=9223372036854775807:=by decide
 rcases Go.Deep.open_slice ht h with⟨pH,_⟩|⟨a,len,cap,m,n,D,Pl,pH,hb,hl,hm,YI,_,hx⟩
 ·subst pH
  exact⟨[],none,0,rfl,⟨none,0,rfl,.inl rfl⟩,by simp,by simp⟩
 ·subst pH
  have yF:len≤m:=by rw[YI];split <;> omega
  have pT:∀i,i<len→∃y:α,(∀k,k<s→W.cell? (a.add (i*s+k))=(g y)[k]?)∧Q y:=fun i hi=>by
   obtain⟨wx,h1,h2⟩:=hx i ai
   obtain⟨y,rfl,hy⟩:=k7 _ _ _ h2
   rw[hc]at h1
   obtain⟨_,_,h3⟩:=World.cells?_some h1
   refine⟨y,fun k hk=>?_,hy⟩
   rw[← h3 k hk,Addr.add_add]
  obtain⟨f,Xk⟩:=Go.Deep.choose_lt pT
  refine⟨(List.range len).map f,some a,cap,by simp,⟨some a,cap,by simp,?_⟩,?_,by simp;omega⟩
  ·rcases Nat.eq_zero_or_pos len with h0|h0
   ·left;subst h0;simp
   ·right
    obtain⟨b,o,spot⟩:=a
    have gw:spot=none:=by
     have:=(Xk 0 h0).1 0 Un
     rw[Nat.zero_mul,Nat.zero_add,List.getElem?_eq_getElem (by rw[hs];exact Un)]at this
     simpa[Addr.add]using World.cell?_spot (this.trans rfl)
    subst gw
    refine⟨b,o,rfl,fun h ho j c hj=>?_⟩
    have uy:j<len*s:=by
     rcases Nat.lt_or_ge j (len*s)with h|h
     ·exact h
     ·rw[List.getElem?_eq_none (by rw[bZ hs];simpa using h)]at hj;cases hj
    have hd:j/s<len:=Nat.div_lt_of_lt_mul (by rw[Nat.mul_comm];exact uy)
    have hk:j%s<s:=Nat.mod_lt _ Un
    have hjj:j/s*s+j%s=j:=by rw[Nat.mul_comm];exact Nat.div_add_mod _ _
    have h1:=cF hs (l:=(List.range len).map f) (i:=j/s) (x:=f (j/s)) (by simp[hd]) (j%s) hk
    rw[hjj,hj]at h1
    have h2:=(Xk _ hd).1 _ hk
    rw[hjj,Addr.add_eq]at h2
    exact l9 ho (h2.trans h1.symm)
  ·intro x hx
   obtain⟨i,hi,rfl⟩:=List.mem_map.1 hx
   exact(Xk i (by simpa using hi)).2
inductive lV(enc:TypeId × Value→H)(P:Program)(W:World)(base:Nat)(spare:Nat→Bool)(held:Bool)(n:Nat):List TypeId→List Value→Prop where
 | nil:lV enc P W base spare held n [] []
 | cons {t:TypeId} {ts:List TypeId} {cs rest:List Value} {x:DataW H × List MemPlace} (h:DataW.trod enc P W base spare held n t cs=some x) (hr:lV enc P W base spare held n ts rest):lV enc P W base spare held n (t::ts) (cs++rest)
def Hu(P:Program):Nat→List TypeId→List Nat
 | _,[]=>[]
 | o,t::ts=>o::Hu P (o+P.cellsOf t) ts
theorem Bx{t:TypeId}{fs:Array Field}(ht:P.underlying t=some (.struct fs))(ho:fs.toList.map Field.offset=Hu P 0 (fs.toList.map Field.type))(hn:P.cellsOf t=(fs.toList.map fun f:Field=>P.cellsOf f.type).sum){fuel:Nat}{cs:List Value}{x:DataW H × List MemPlace}(h:DataW.trod enc P W base spare held fuel t cs=some x):∃n,lV enc P W base spare held n (fs.toList.map Field.type) cs:=by
 obtain⟨xs,n,_,_,hlen,Jf,hf⟩:=DataW.trod_struct ht h
 refine⟨n,?_⟩
 have key:∀(l:List Field) (o k:Nat) (cs:List Value),cs.length=(l.map fun f:Field=>P.cellsOf f.type).sum→l.map Field.offset=Hu P o (l.map Field.type) →
   (∀(j:Nat) (f:Field),l[j]?=some f→∃y,DataW.trod enc P W base spare held n f.type ((cs.drop (f.offset-o)).take (P.cellsOf f.type))=some y)→lV enc P W base spare held n (l.map Field.type) cs:=by
  intro l
  induction l with
  | nil=>intro o k cs hl _ _;simp at hl;subst hl;exact .nil
  | cons f l ih =>
   intro o k cs hl ie fO
   simp only[List.map_cons,List.sum_cons]at hl
   simp only[List.map_cons,Hu,List.cons.injEq]at ie
   obtain⟨h1,h2⟩:=ie
   obtain⟨y,hy⟩:=fO 0 f rfl
   rw[h1,Nat.sub_self,List.drop_zero]at hy
   have dH:=ih (o+P.cellsOf f.type) 0 (cs.drop (P.cellsOf f.type)) (by rw[List.length_drop];omega) h2 (fun j f' hj=>by
    obtain⟨y',hy'⟩:=fO (j+1) f' (by simpa using hj)
    have eQ:o+P.cellsOf f.type≤f'.offset:=by
     have g9:f'.offset∈Hu P (o+P.cellsOf f.type) (l.map Field.type):=by rw[← h2];exact List.mem_map.2 ⟨f',List.mem_of_getElem? hj,rfl⟩
     have WQ:∀(ts:List TypeId) (p q:Nat),q∈Hu P p ts→p≤q:=by
      intro ts
      induction ts with
      | nil=>intro p q hq;cases hq
      | cons t ts ih=>intro p q hq;rcases List.mem_cons.1 hq with rfl|hq;exact Nat.le_refl _;have:=ih _ _ hq;omega
     exact WQ _ _ _ g9
    refine⟨y',?_⟩
    rw[List.drop_drop,show P.cellsOf f.type+(f'.offset-(o+P.cellsOf f.type))=f'.offset-o from by omega]
    exact hy')
   have:=lV.cons hy dH
   rw[List.take_append_drop]at this
   exact this
 refine key fs.toList 0 0 cs (by rw[hlen,hn]) ho fun j f hj=>?_
 have nK:fs[j]?=some f:=by simpa using hj
 have uy:j<xs.length:=by
  rw[Jf]
  rcases Nat.lt_or_ge j fs.size with h|h
  ·exact h
  ·rw[Array.getElem?_eq_none h]at nK;cases nK
 refine⟨xs[j],?_⟩
 rw[Nat.sub_zero]
 have:=hf j f nK
 rw[this]
 simp[uy]
theorem lV.inv{n:Nat}{t:TypeId}{ts:List TypeId}{cs:List Value}(h:lV enc P W base spare held n (t::ts) cs):∃c0 rest x,cs=c0++rest∧DataW.trod enc P W base spare held n t c0=some x∧lV enc P W base spare held n ts rest:=by
 cases h with
 | cons h hr=>exact⟨_,_,_,rfl,h,hr⟩
theorem lV.Zt{n:Nat}{cs:List Value}(h:lV enc P W base spare held n [] cs):cs=[]:=by cases h;rfl
theorem lV.int{n:Nat}{t:TypeId}{ts:List TypeId}{cs:List Value}{k:IntKind}(h:lV enc P W base spare held n (t::ts) cs)(ht:P.underlying t=some (.int k)):∃(z:Int) (rest:List Value),cs = .int k z::rest∧(Lit.int k z).wf=true∧lV enc P W base spare held n ts rest:=by
 obtain⟨c0,rest,x,rfl,h0,hr⟩:=h.inv
 obtain⟨z,rfl,_,hw⟩:=DataW.trod_int ht h0
 exact⟨z,rest,rfl,hw,hr⟩
end
end Go.SL
namespace Go.Proofs.YthjbidjmgbjkiaaGreatDoor
open Go Go.SL Go.RowKit Go.ChangeShapes Go.WideShapes
section
variable{H:Type}{enc:TypeId × Value→H}{W:World}{base:Nat}{spare:Nat→Bool}{held:Bool}
instance:Inhabited Bl:=⟨Bl.zero⟩
theorem tV(fuel:Nat)(cs:List Value)(x:DataW H × List MemPlace)(h:DataW.trod enc Tryz.prog W base spare held fuel 39 cs=some x):∃(bs:List UInt8) (a:Option Addr) (c:Nat),cs=[.slice a bs.length c]∧bs.length≤9223372036854775807∧dR (old W) (.slice a bs.length c) bs:=by
 have WO:maxLen=9223372036854775807:=by decide
 rcases open_ints Tryz.underlying39 Tryz.underlying5 ak h with⟨pH,_⟩|⟨x,l,c,zs,pH,_,hl,hm,hz,_,cZ,hwz⟩
 ·subst pH
  exact⟨[],none,0,rfl,by simp,Kt W,none,0,rfl,Nat.le_refl _⟩
 ·subst pH
  obtain⟨bs,h1,h2⟩:=EP (len:=l) (cap:=c) (by split at hz <;> omega) cZ hwz
  subst h1
  exact⟨bs,some x,c,rfl,ai,h2,_,c,rfl,hl⟩
end
end Go.Proofs.YthjbidjmgbjkiaaGreatDoor
namespace Go.Proofs.YthjbidjmgbjkiaaGreatDoor
open Go Go.SL Go.RowKit Go.ChangeShapes Go.WideShapes
instance:Inhabited xS:=⟨⟨0,none,0,[],0,0,0,0,0,none,0,[]⟩⟩
structure Gt(X:HP)(s:xS):Prop where
 d:SL.i64 s.d
 m:SL.i64 s.m
 i:SL.i64 s.i
 n:SL.i64 s.n
 cut:SL.i64 s.cut
 a:dR X (.slice s.aa s.a.length s.ac) s.a
 al:s.a.length≤9223372036854775807
 b:dR X (.slice s.ba s.b.length s.bc) s.b
 bl:s.b.length≤9223372036854775807
def E0(X:HP)(v:Value)(l:List xS):Prop:=Vw X v l.length (l.flatMap js)∧l.length≤9223372036854775807∧∀s∈l,Gt X s
section
variable{H:Type}{enc:TypeId × Value→H}{W:World}{base:Nat}{spare:Nat→Bool}{held:Bool}
theorem D9(fuel:Nat)(cs:List Value)(x:DataW H × List MemPlace)(h:DataW.trod enc Tryz.prog W base spare held fuel 44 cs=some x):∃y:xS,cs=js y∧Gt (old W) y:=by
 obtain⟨n,hp⟩:=Bx (Tryz.underlying44:_=some (TypeDesc.struct _)) ak ak h
 obtain⟨z0,r0,rfl,w0,hp⟩:=hp.int Tryz.underlying3
 obtain⟨c1,r1,x1,rfl,h1,hp⟩:=hp.inv
 obtain⟨z2,r2,rfl,w2,hp⟩:=hp.int Tryz.underlying3
 obtain⟨z3,r3,rfl,w3,hp⟩:=hp.int Tryz.underlying3
 obtain⟨z4,r4,rfl,w4,hp⟩:=hp.int Tryz.underlying3
 obtain⟨z5,r5,rfl,w5,hp⟩:=hp.int Tryz.underlying3
 obtain⟨z6,r6,rfl,w6,hp⟩:=hp.int Tryz.underlying5
 obtain⟨c7,r7,x7,rfl,h7,hp⟩:=hp.inv
 have:=hp.Zt
 subst this
 obtain⟨a,aa,ac,rfl,Y0,ha2⟩:=tV _ _ _ h1
 obtain⟨b,ba,bc,rfl,pV,qe⟩:=tV _ _ _ h7
 have hw:0≤z6∧z6<256:=by
  simp only[Lit.wf,Bool.and_eq_true,decide_eq_true_eq]at w6
  have e1:IntKind.u8.min=0:=by decide
  have e2:IntKind.u8.max=255:=by decide
  omega
 obtain⟨t,ht⟩:=GM hw.1 hw.2
 exact⟨⟨z0,aa,ac,a,z2,z3,z4,z5,t,ba,bc,b⟩,by simp[js,ht],mF w0,mF w2,mF w3,mF w4,mF w5,ha2,Y0,qe,pV⟩
theorem By{fuel:Nat}{v:Value}{x:DataW H × List MemPlace}(h:DataW.trod enc Tryz.prog W base spare held fuel 22 [v]=some x):∃l:List xS,E0 (old W) v l:=by
 obtain⟨l,a,c,pH,h1,h2,h3⟩:=Hn Tryz.underlying22 js 8 ai nZ ak (Gt (old W)) D9 h
 simp only[List.cons.injEq,and_true]at pH
 subst pH
 exact⟨l,h1,h3,h2⟩
end
theorem m7{l:List xS}{i:Nat}{s:xS}(h:l[i]?=some s)(q:Nat)(hq:q<8):(l.flatMap js)[i*8+q]?=(js s)[q]? := cF nZ h q hq
def An(s:xS):Prop:=s.a.length≤600∧s.b.length≤2000∧¬(3000<s.i∧s.d=6)
attribute [local irreducible] J K aD Ends ag az aL bK aZ aQ aV bg bQ
set_option maxRecDepth 20000 in
set_option maxHeartbeats 2000000 in
theorem Hw(X:HP)(v:Value)(l:List xS)(hv:Vw X v l.length (l.flatMap js))(hl:l.length≤9223372036854775807)(hs:∀s∈l,Gt X s) :
  aD Tryz.prog 5 [v] [X] (fun r H=>∃b:Bool,r = .bool b∧H=[X]∧(b=false→∀(i:Nat) (s:xS),i<100→l[i]?=some s→An s)):=by
 obtain⟨a,c,rfl⟩:=hv.shape
 refine aD.enter Tryz.func5 ak rfl Tryz.ntmps5 zr zr ?_
 intro G F R hE
 refine go ?_
 refine bo (fun y:Nat × Nat=>y.1≤l.length∧y.1≤100∧y.2≤30000∧∀(i:Nat) (s:xS),i<y.1→l[i]?=some s→An s) (fun y=>l.length-y.1)
  (fun y=>[(0,.slice a l.length c),(3,.int .i64 (y.2:Int)),(4,.int .i64 (y.1:Int))]) (fun _=>X::F) (0,0) ⟨ai,ai,ai,fun i s h=>by simp at h⟩ rfl bY ad ?_
 rintro⟨i,n⟩⟨hi,YL,hn,rF⟩ ih
 simp only at hi YL hn rF
 by_cases fN:i<l.length∧i<100
 case neg =>
  have jT:∀(j:Nat) (s:xS),j<100→l[j]?=some s→An s:=fun j s hj hs=>rF j s (by
   rcases Nat.lt_or_ge j l.length with h|h
   ·omega
   ·rw[List.getElem?_eq_none h]at hs;cases hs) hs
  refine go ?_
  by_cases h1:i<l.length
  ·((refine aB 9 ((.bool true)) rfl ((congrArg Value.bool (decide_eq_true ai))) ?_))
   refine go ?_
   ((refine bj 12 ((.bool false)) rfl ((congrArg Value.bool (decide_eq_false (by simp only;omega)))) ?_))
   refine go ?_
   ((refine ae hE Tryz.func5 rfl _ rfl ⟨false,rfl,rfl,fun _=>jT⟩ ad))
  ·((refine aB 9 ((.bool false)) rfl ((congrArg Value.bool (decide_eq_false ai))) ?_))
   refine go ?_
   ((refine ae hE Tryz.func5 rfl _ rfl ⟨false,rfl,rfl,fun _=>jT⟩ ad))
 obtain⟨Ca,abb⟩:=fN
 obtain⟨⟨sd,saa,sac,sa,sm,si,sn,Zl,st,sba,sbc,sb⟩,hx⟩:∃s,l[i]?=some s:=⟨l[i],by simp⟩
 have lF:=hs _ (List.mem_of_getElem? hx)
 have s0:(l.flatMap js)[i*8+0]?=some (.int .i64 sd):=m7 hx 0 ai
 have s2:(l.flatMap js)[i*8+1]?=some (.slice saa sa.length sac):=m7 hx 1 ai
 have s3:(l.flatMap js)[i*8+3]?=some (.int .i64 si):=m7 hx 3 ai
 have s6:(l.flatMap js)[i*8+7]?=some (.slice sba sb.length sbc):=m7 hx 7 ai
 have MQ:=lF.al
 have jV:=lF.bl
 simp only at MQ jV
 obtain⟨bb,oo,cc,fA⟩:=hv.some (by rw[← List.length_pos_iff,bZ nZ];omega)
 simp only[Value.slice.injEq,true_and]at fA
 obtain⟨rfl,rfl⟩:=fA
 refine go ?_
 ((refine aB 9 ((.bool true)) rfl ((congrArg Value.bool (decide_eq_true ai))) ?_))
 refine go ?_
 ((refine bj 12 ((.bool true)) rfl ((congrArg Value.bool (decide_eq_true (by simp only;omega)))) ?_))
 repeat'(first|(with_reducible intro nT)|refine fk ?_|refine gN zr zr zr zr ?_ ?_|refine aw zr zr ?_ ?_|refine eE (U:=ao) i 8 zr zr zr zr zr zr zr zr Ca ?_|(refine aJ ?_;first|refine bB (U:=ao) 0 (i*8+7) zr zr zr hv (Nat.add_assoc _ _ _) s6 zr zr ?_|refine bB (U:=ao) 0 (i*8+1) zr zr zr hv (Nat.add_assoc _ _ _) s2 zr zr ?_|refine bB (U:=ao) 0 (i*8+3) zr zr zr hv (Nat.add_assoc _ _ _) s3 zr zr ?_|refine bB (U:=ao) 0 (i*8+0) zr zr zr hv (Nat.add_assoc _ _ _) s0 zr zr ?_))
 any_goals ((refine ae hE Tryz.func5 rfl _ rfl ⟨true,rfl,rfl,fun h=>by cases h⟩ ad))
 all_goals(
  have zT:An ⟨sd,saa,sac,sa,sm,si,sn,Zl,st,sba,sbc,sb⟩:=⟨by simp only;omega,by simp only;omega,by simp only;omega⟩
  refine go ?_
  refine aF (fun w=>Sat G w ([X])) (.st 0 (.st 1 (.st 2 (.st 3 (.st 4 (.st 5 (.st 6 (.st 7 (.st 8 (.st 9 (.st 10 (.st 11 (.st 12 (.st 13 (.st 14 (.st 15 .nil)))))))))))))))) rfl ak ak ak (fun w hw=>hw.aX ad) ?_
  (repeat(first|refine fk ?_|refine eE (U:=ao) i 8 zr zr zr zr zr zr zr zr Ca ?_|(refine aJ ?_;first|refine cz (U:=ao) 0 (i*8+7) zr zr zr hv (Nat.add_assoc _ _ _) s6 zr zr ?_|refine cz (U:=ao) 0 (i*8+1) zr zr zr hv (Nat.add_assoc _ _ _) s2 zr zr ?_)))
  refine aw zr zr ?_ ?_
  ·intro rL
   refine go ?_
   ((refine ae hE Tryz.func5 rfl _ rfl ⟨true,rfl,rfl,fun h=>by cases h⟩ ad))
  ·intro hle
   refine go ?_
   refine aO ih (i+1,n+sa.length+sb.length) rfl ⟨by simp only;omega,by simp only;omega,by simp only at hle ⊢;omega,fun q z hq hz=>?_⟩ (by simp only;omega) bY ad
   rcases Nat.lt_or_ge q i with h|h
   ·exact rF q z h hz
   ·have:q=i:=by simp only at hq;omega
    subst this
    rw[hx]at hz;cases hz;exact zT)
end Go.Proofs.YthjbidjmgbjkiaaGreatDoor
namespace Go.Proofs.YthjbidjmgbjkiaaGreatDoor
open Go Go.SL
theorem Ly(a:List UInt8)(m i n:Int)(t:UInt8):(0≤(k9 a m i n t).1.size∧(k9 a m i n t).1.size≤1000000000000)∧(0≤(k9 a m i n t).1.piece∧(k9 a m i n t).1.piece≤1000000000000)∧(k9 a m i n t).2.1.length≤a.length:=by
 have hz:(0≤Bl.zero.size∧Bl.zero.size≤1000000000000)∧(0≤Bl.zero.piece∧Bl.zero.piece≤1000000000000):=⟨by decide,by decide⟩
 unfold k9
 split
 ·rename_i x l hx hl
  obtain⟨hr,_⟩:=pN hx
  have:=jF hr
  split
  ·exact⟨by simp only;omega,by simp only;omega,by simp⟩
  ·dsimp only
   split
   ·refine⟨by simp only;omega,by simp only;omega,?_⟩
    simp only[sK,List.length_take,List.length_drop]
    omega
   ·refine⟨by simp only;omega,by simp only;omega,?_⟩
    simp only[List.length_take,List.length_drop]
    omega
 ·exact⟨hz.1,hz.2,by simp⟩
attribute [local irreducible] J K aD Ends ag az aL bK aZ aQ aV bg bQ Sha.chunks Sha.chunk Sha.rounds Sha.sched dA cd GI cI gn fm cS cU aC bS aP k9
set_option maxRecDepth 20000 in
set_option maxHeartbeats 4000000 in
theorem Mu(X:HP)(hK:mX X)(v:Value)(l:List xS)(hS:E0 X v l) :
  aD Tryz.prog 3 [v] [X] (fun r H=>r = .bool true∧H=[X]):=by
 obtain⟨lD,hl,lF⟩:=hS
 obtain⟨a0,c0,rfl⟩:=lD.shape
 refine aD.enter Tryz.func3 ak rfl Tryz.ntmps3 zr zr ?_
 intro G F R hE
 refine go ?_
 ((refine ah zr zr zr zr (Iw X hK) ad ?_ bE))
 rintro _ _⟨rfl,rfl⟩
 refine go ?_
 ((refine ah zr zr zr zr (Hw X _ l lD hl lF) ad ?_ bE))
 rintro _ _⟨mu,rfl,rfl,rF⟩
 refine go ?_
 ((refine ah zr zr zr zr (E7 16777216 ai ai) ad ?_ bE))
 rintro _ _⟨bd,rfl,rfl⟩
 cases mu with
 | true =>
  refine go ?_
  refine aj (H':=X::F) ad ?_
  ((refine ae hE Tryz.func3 rfl _ rfl ⟨rfl,rfl⟩ ad))
 | false =>
 have Z7:=rF rfl
 refine go ?_
 refine bq zr zr bp ?_
 intro wb
 refine go ?_
 ((refine ah zr zr zr zr (xX X hK wb bd (.pointer none) (.pointer none) 1048576 ai (Ab.new 16777216) rfl (by show 1≤_;omega) (Cr (HA.new _) rfl (by show 0≤_;omega))) ad ?_ bE))
 rintro _ _⟨e0,t0,TQ,hW,rfl,hz,-⟩
 obtain⟨rfl,rfl,hP0⟩:=Ma ai hW
 obtain⟨bs,mb,tb,jb,tv,ts,xr,rfl⟩:=hz rfl
 have En:=Gh xr
 subst En
 unfold dg
 refine go ?_
 refine bo (fun g:Nat × SJ × List Tk × Value=>g.1≤l.length∧g.1≤50∧RI 1048576 g.1 g.2.1 g.2.2.1) (fun g=>l.length-g.1)
  (fun g=>[(0,.slice a0 l.length c0),(7,ptr wb),(9,.int .i64 (g.1:Int))])
  (fun g=>X::ag wb (cl [ptr bd,ptr bs,ptr tb] 33)::ag tb (cl [ptr bs,ptr jb,g.2.2.2,.bool false] 78)::az 80 1 g.2.2.2 g.2.2.1.length (g.2.2.1.map bP)::aP g.2.2.1::bS bs bd jb 1048576 mb [] g.2.1::F) (0,t0,[],tv) ⟨Nat.zero_le _,ai,⟨hP0,fun y hy=>by cases hy⟩⟩ rfl bY ad ?_
 rintro⟨i,s,ts,tv⟩⟨hi,aaG,hr⟩ ih
 simp only at hi aaG hr
 dsimp only
 refine go ?_
 by_cases fN:i<l.length∧i<50
 case neg =>
  by_cases h1:i<l.length
  ·((refine aB 66 ((.bool true)) rfl ((congrArg Value.bool (decide_eq_true ai))) ?_))
   refine go ?_
   ((refine bj 69 ((.bool false)) rfl ((congrArg Value.bool (decide_eq_false ai))) ?_))
   refine go ?_
   refine aj (H':=X::F) ad ?_
   ((refine ae hE Tryz.func3 rfl _ rfl ⟨rfl,rfl⟩ ad))
  ·((refine aB 66 ((.bool false)) rfl ((congrArg Value.bool (decide_eq_false ai))) ?_))
   refine go ?_
   refine aj (H':=X::F) ad ?_
   ((refine ae hE Tryz.func3 rfl _ rfl ⟨rfl,rfl⟩ ad))
 obtain⟨Ca,YL⟩:=fN
 obtain⟨st,hx⟩:∃s,l[i]?=some s:=⟨l[i],by simp⟩
 have Wt:=lF _ (List.mem_of_getElem? hx)
 obtain⟨OL,hsb⟩:=Z7 i st ai hx
 obtain⟨b1,b2,b3,b4,b5,b6,b7,b8⟩:=hr.bnd ai
 obtain⟨bb,oo,cc,Wu⟩:=lD.some (by rw[← List.length_pos_iff,bZ nZ];omega)
 simp only[Value.slice.injEq,true_and]at Wu
 obtain⟨rfl,rfl⟩:=Wu
 have s0:(l.flatMap js)[i*8+0]?=some (.int .i64 st.d):=m7 hx 0 ai
 have s3:(l.flatMap js)[i*8+3]?=some (.int .i64 st.i):=m7 hx 3 ai
 ((refine aB 66 ((.bool true)) rfl ((congrArg Value.bool (decide_eq_true ai))) ?_))
 refine go ?_
 ((refine bj 69 ((.bool true)) rfl ((congrArg Value.bool (decide_eq_true ai))) ?_))
 refine go ?_
 refine eE (U:=ao) i 8 zr zr zr zr zr zr zr zr Ca ?_
 refine cQ (U:=ao) (es:=js st) 0 (i*8) zr zr zr lD rfl (fun j v hj=>by
  rw[m7 hx j (by rcases Nat.lt_or_ge j 8 with h|h;exact h;rw[List.getElem?_eq_none (by rw[nZ];exact h)]at hj;cases hj)]
  exact hj) zr zr zr ?_
 refine go ?_
 ((refine ah zr zr zr zr (Ij X st Wt.a ai) ad ?_ bE))
 rintro _ _⟨bv,pv,rfl,rfl⟩
 have Uz:=Ly st.a st.m st.i st.n st.t
 rw[show k9 st.a st.m st.i st.n st.t=st.g from rfl]at Uz
 obtain⟨⟨x,b,p⟩,hgE⟩:∃z,st.g=z:=⟨_,rfl⟩
 rw[hgE]at Uz ⊢
 dsimp only at Uz ⊢
 obtain⟨YO,hgp,hgl⟩:=Uz
 clear hgE
 unfold dQ
 refine go ?_
 refine aN (U:=ao) zr zr zr bp ?_
 intro nO
 (refine nN ?_)
 ((refine db 1 rfl ?_))
 rintro ba bc rfl
 ((refine db 2 rfl ?_))
 rintro pa pc rfl
 refine aj (H':=az 5 1 (.slice ba b.length bc) b.length (bV b)::az 36 32 (.slice pa p.length pc) p.length (p.flatMap dC)::X::ag nO (cl (bn x) 38)::ag wb (cl [ptr bd,ptr bs,ptr tb] 33)::ag tb (cl [ptr bs,ptr jb,tv,.bool false] 78)::az 80 1 tv ts.length (ts.map bP)::aP ts::bS bs bd jb 1048576 mb [] s::F) ad ?_
 refine lr 0 rfl ?_
 intro MO
 refine cM 0 rfl ?_
 intro XD
 refine lr 1 rfl ?_
 intro qa
 refine cM 1 rfl ?_
 intro Uq
 obtain⟨Y,hY⟩:∃Y,Y=Sep [az 5 1 (.slice ba b.length bc) b.length (bV b),az 36 32 (.slice pa p.length pc) p.length (p.flatMap dC),X]:=⟨_,rfl⟩
 have Y3:mX Y:=hY ▸ hK.mono (aW (i:=2) rfl)
 have hbY:dR Y (.slice ba b.length bc) b:=hY ▸ dR.mono ⟨XD,ba,bc,rfl,MO⟩ (aW (i:=0) rfl)
 have hpY:Fg Y (.slice pa p.length pc) p:=hY ▸ Fg.mono ⟨Uq,pa,pc,rfl,qa⟩ (aW (i:=1) rfl)
 have hv:Vw Y (.slice (some ⟨bb,oo,none⟩) l.length c0) l.length (l.flatMap js):=hY ▸ lD.mono (aW (i:=2) rfl)
 refine aj (aq.bL [az 5 1 (.slice ba b.length bc) b.length (bV b),az 36 32 (.slice pa p.length pc) p.length (p.flatMap dC),X] _) ?_
 rw[← hY]
 refine gL rfl ?_
 refine zc 2 (fun g:SJ × List Tk × Value=>RI 1048576 (i+1) g.1 g.2.1) (fun g=>[(0,.slice (some ⟨bb,oo,none⟩) l.length c0),(7,ptr wb),(9,.int .i64 (i:Int)),(10,ptr nO)]) (fun g=>Y::ag nO (cl (bn x) 38)::ag wb (cl [ptr bd,ptr bs,ptr tb] 33)::ag tb (cl [ptr bs,ptr jb,g.2.2,.bool false] 78)::az 80 1 g.2.2 g.2.1.length (g.2.1.map bP)::aP g.2.1::bS bs bd jb 1048576 mb [] g.1::F) rfl ?_ ?_
 rotate_left
 ·intro tail
  have nM:=xk tb bs jb bd tv 1048576 ai mb ts false s x ai YO hgp b6 ai ai 10000 ai (fun t h=>hr.sq ai h.2 ((jZ h.1).mono ai))
  have tp:=CO Y Y3 tb bs jb bd tv 1048576 mb ts false s x st.i Wt.i _ b hbY ai _ p hpY ai b2 b3 ai ai 10000 ai (fun t u h1 h2=>hr.sq ai (h2.2.trans h1.2) (by
   have g1:=mQ h1.1
   have g2:=qG h2.1
   have g11:=g1.1
   have g12:=g1.2
   have g21:=g2.1
   have g22:=g2.2
   exact⟨ai,ai⟩))
  have Xm:=C3 Y Y3 tb bs jb bd tv 1048576 mb ts false s x ai b2 b4 ai ai 10000 ai (fun e t h=>hr.sq ai h.2 ((qk h.1).mono ai))
  have vZ:=Fp tb bs jb bd tv 1048576 mb ts false s x ai ai ai 10000 ai (fun t h=>hr.sq ai h.2 ((o8 h.1).mono ai))
  unfold dg dQ at nM tp Xm vZ
  (repeat(first|refine fk ?_|refine eE (U:=ao) i 8 zr zr zr zr zr zr zr zr Ca ?_|(refine aJ ?_;(refine bB (U:=ao) 0 (i*8+0) zr zr zr hv (Nat.add_assoc _ _ _) s0 zr zr ?_))))
  refine aw zr zr ?_ ?_
  ·intro h0
   refine aF (fun w=>Sat G w ([ag wb (cl [ptr bd,ptr bs,ptr tb] 33),ag nO (cl (bn x) 38),Y])) (.st 0 (.st 1 (.st 2 (.st 3 (.st 4 (.act 5 .nil)))))) rfl ak ak ak (fun w hw=>hw.aX ad) ?_
   refine go ?_
   refine bD (U:=ao) (l:=bn x) 1 zr zr zr zr zr zr ?_
   refine go ?_
   ((refine ah zr zr zr zr (nM) ad ?_ bE))
   rintro _ _⟨e,gW,lM,lA,t,rfl,rfl,hB⟩
   obtain⟨rfl,rG⟩:=hr.begin ai ai YO.2 hgp.2 hB
   (refine nN ?_)
   refine nQ tail (t,gW,lM) rfl rG bY ad
  intro h0
  refine go ?_
  refine aw zr zr ?_ ?_
  ·intro h1
   refine aF (fun w=>Sat G w ([ag wb (cl [ptr bd,ptr bs,ptr tb] 33),ag nO (cl (bn x) 38),Y])) (.st 0 (.st 1 (.st 2 (.st 3 (.st 4 (.st 5 (.st 6 (.st 7 (.st 8 (.st 9 (.st 10 (.st 11 (.act 12 .nil))))))))))))) rfl ak ak ak (fun w hw=>hw.aX ad) ?_
   (repeat(first|refine fk ?_|refine bD (U:=ao) (l:=bn x) 1 zr zr zr zr zr zr ?_|refine eE (U:=ao) i 8 zr zr zr zr zr zr zr zr Ca ?_|(refine aJ ?_;(refine cz (U:=ao) 2 (i*8+3) zr zr zr hv (Nat.add_assoc _ _ _) s3 zr zr ?_))))
   ((refine ah zr zr zr zr (tp) ad ?_ bE))
   rintro _ _⟨e,gW,lA,t,rfl,rfl,hB⟩
   obtain⟨rfl,rG⟩:=hr.put ai ai hB
   (refine nN ?_)
   refine nQ tail (t,gW,tv) rfl rG bY ad
  intro h1
  refine go ?_
  refine aw zr zr ?_ ?_
  ·intro h2
   refine aF (fun w=>Sat G w ([ag wb (cl [ptr bd,ptr bs,ptr tb] 33),ag nO (cl (bn x) 38),Y])) (.st 0 (.st 1 (.st 2 (.st 3 (.st 4 (.act 5 .nil)))))) rfl ak ak ak (fun w hw=>hw.aX ad) ?_
   refine go ?_
   refine bD (U:=ao) (l:=bn x) 1 zr zr zr zr zr zr ?_
   refine go ?_
   ((refine ah zr zr zr zr (Xm) ad ?_ bE))
   rintro _ _⟨ri,gW,lM,lA,t,rfl,rfl,hB⟩
   obtain⟨rfl,rG⟩:=hr.fin ai ai hB
   (refine nN ?_)
   refine nQ tail (t,gW,lM) rfl rG bY ad
  intro h2
  refine go ?_
  refine aw zr zr ?_ ?_
  ·intro h3
   refine aF (fun w=>Sat G w ([ag wb (cl [ptr bd,ptr bs,ptr tb] 33),ag nO (cl (bn x) 38),Y])) (.st 0 (.st 1 (.st 2 (.st 3 (.st 4 (.act 5 .nil)))))) rfl ak ak ak (fun w hw=>hw.aX ad) ?_
   refine go ?_
   refine bD (U:=ao) (l:=bn x) 1 zr zr zr zr zr zr ?_
   refine go ?_
   ((refine ah zr zr zr zr (vZ) ad ?_ bE))
   rintro _ _ (⟨h,_⟩|⟨_,abz,rfl,rfl⟩|⟨_,yL,e,u,hA,⟨ct,_⟩|⟨rfl,e',t,lM,rfl,rfl,hN⟩⟩)
   ·cases h
   ·(refine nN ?_)
    refine nQ tail (s,ts,tv) rfl hr.mono bY ad
   ·exact absurd (hr.T3 yL hA) ct
   ·obtain⟨rfl,rG⟩:=hr.abort ai ai yL hA hN
    (refine nN ?_)
    refine nQ tail (t,mW ts x.d,lM) rfl rG bY ad
  intro h3
  refine nQ tail (s,ts,tv) rfl hr.mono bY ad
 rintro⟨s1,iX,u7⟩ uw
 simp only at uw
 obtain⟨d1,d2,d3,d4,d5,d6,d7,d8⟩:=uw.bnd ai
 have Tu:=Fl tb bs jb u7 false iX ai
 have O7:=I9 tb bs jb u7 false iX x ai d4
 have Jj:=uo tb bs jb u7 false iX x ai d2 d4
 have HT:=E6 tb bs jb bd u7 1048576 mb iX false s1 x st.i ai d2 d3 d5
 unfold dg at Tu
 unfold dg dQ at O7 Jj HT
 refine go ?_
 ((refine ah zr zr zr zr (Tu) ad ?_ bE))
 rintro r _ rfl
 ((refine aM 0 rfl ?_))
 rintro ra rc rfl
 refine go ?_
 refine cM 0 rfl ?_
 intro SH
 refine aj (H':=az 38 66 (.slice ra iX.length rc) iX.length ((iX.map Tk.x).flatMap bn)::Y::ag nO (cl (bn x) 38)::ag wb (cl [ptr bd,ptr bs,ptr tb] 33)::ag tb (cl [ptr bs,ptr jb,u7,.bool false] 78)::az 80 1 u7 iX.length (iX.map bP)::aP iX::bS bs bd jb 1048576 mb [] s1::F) ad ?_
 have outer:=ih
 clear ih
 refine bo (fun j:Nat=>j≤iX.length) (fun j=>iX.length-j)
  (fun j=>[(0,.slice (some ⟨bb,oo,none⟩) l.length c0),(7,ptr wb),(9,.int .i64 (i:Int)),(10,ptr nO),(13,.bool ((iX.take j).any fun y=>decide (y.x=x))),(14,.slice ra iX.length rc),(15,.int .i64 (j:Int))])
  (fun _=>az 38 66 (.slice ra iX.length rc) iX.length ((iX.map Tk.x).flatMap bn)::Y::ag nO (cl (bn x) 38)::ag wb (cl [ptr bd,ptr bs,ptr tb] 33)::ag tb (cl [ptr bs,ptr jb,u7,.bool false] 78)::az 80 1 u7 iX.length (iX.map bP)::aP iX::bS bs bd jb 1048576 mb [] s1::F) 0 (Nat.zero_le _) rfl bY ad ?_
 intro j hj ih
 refine go ?_
 refine aw zr zr ?_ ?_
 ·intro cO
  have nK:j<iX.length:=by omega
  obtain⟨y,hy⟩:∃y,iX[j]?=some y:=⟨iX[j],by simp⟩
  have FW:(iX.map Tk.x)[j]?=some y.x:=by rw[List.getElem?_map,hy];rfl
  have iF:(iX.take (j+1)).any (fun y=>decide (y.x=x))=((iX.take j).any (fun y=>decide (y.x=x)) || decide (y.x=x)):=by
   rw[List.take_add_one,hy,Option.toList_some,List.any_append]
   simp
  obtain⟨bb2,oo2,cc2,Wv⟩:=SH.some (by rw[← List.length_pos_iff,bZ uR];simp;omega)
  simp only[Value.slice.injEq,true_and]at Wv
  obtain⟨rfl,rfl⟩:=Wv
  obtain⟨fd,l8⟩:∃fd,(iX.take j).any (fun y=>decide (y.x=x))=fd:=⟨_,rfl⟩
  rw[l8]at iF ⊢
  cases fd with
  | true =>
   refine go ?_
   refine aF (fun w=>Sat G w ([az 38 66 (.slice (some ⟨bb2,oo2,none⟩) iX.length rc) iX.length ((iX.map Tk.x).flatMap bn),ag nO (cl (bn x) 38)])) (.st 0 (.st 1 (.st 2 (.st 3 (.st 4 (.st 5 (.st 6 (.st 7 (.st 8 (.st 9 .nil)))))))))) rfl ak ak ak (fun w hw=>hw.aX ad) ?_
   refine go ?_
   ((refine bj 13 ((.bool ((List.take (j+1) iX).any fun y=>decide (y.x=x)))) rfl ((by rw[iF];rfl)) ?_))
   refine aO ih (j+1) rfl (by show j+1≤_;omega) ai bY ad
  | false =>
   refine go ?_
   refine aF (fun w=>Sat G w ([az 38 66 (.slice (some ⟨bb2,oo2,none⟩) iX.length rc) iX.length ((iX.map Tk.x).flatMap bn),ag nO (cl (bn x) 38)])) (.st 0 (.st 1 (.st 2 (.st 3 (.st 4 (.st 5 (.st 6 (.st 7 (.st 8 (.st 9 .nil)))))))))) rfl ak ak ak (fun w hw=>hw.aX ad) ?_
   (repeat(first|refine fk ?_|refine bD (U:=ao) (l:=bn x) 1 zr zr zr zr zr zr ?_|refine eE (U:=ao) j 66 zr zr zr zr zr zr zr zr nK ?_|refine e9 (U:=ao) (es:=bn y.x) 0 (j*66) zr zr zr SH rfl (Y8 FW) zr zr zr ?_|refine jI (b:=decide (y.x=x)) zr zr zr NY (fun w=>N7 y.x x w) ?_))
   ((refine bj 13 ((.bool ((List.take (j+1) iX).any fun y=>decide (y.x=x)))) rfl ((by rw[iF];rfl)) ?_))
   refine aO ih (j+1) rfl (by show j+1≤_;omega) ai bY ad
 intro eQ
 have H5:j=iX.length:=by omega
 subst H5
 clear ih
 rw[List.take_length]
 refine aj (H':=Y::ag nO (cl (bn x) 38)::ag wb (cl [ptr bd,ptr bs,ptr tb] 33)::ag tb (cl [ptr bs,ptr jb,u7,.bool false] 78)::az 80 1 u7 iX.length (iX.map bP)::aP iX::bS bs bd jb 1048576 mb [] s1::F) ad ?_
 cases hf:eS iX x with
 | none =>
  have ku:(iX.any fun y=>decide (y.x=x))=false:=by
   rw[List.any_eq_false]
   intro y hy
   exact List.find?_eq_none.1 hf y hy
  have Dr:ep s1.1 iX x st.i=([],[],4):=by unfold ep;rw[hf]
  rw[ku]
  rw[hf]at O7 Jj
  rw[Dr]at HT
  unfold LN at O7
  unfold BF at Jj
  refine go ?_
  refine aF (fun w=>Sat G w ([ag wb (cl [ptr bd,ptr bs,ptr tb] 33),ag nO (cl (bn x) 38),Y])) (.st 0 (.st 1 (.st 2 (.st 3 (.st 4 (.act 5 (.st 6 (.st 7 (.st 8 (.st 9 (.st 10 .nil))))))))))) rfl ak ak ak (fun w hw=>hw.aX ad) ?_
  refine go ?_
  refine bD (U:=ao) (l:=bn x) 1 zr zr zr zr zr zr ?_
  refine go ?_
  ((refine ah rfl rfl rfl rfl (O7) ad ?_ (fun _ _ w hp hw=>by obtain⟨rfl,rfl⟩:=hp;exact hw.aX ad)))
  rintro _ _⟨rfl,rfl⟩
  refine go ?_
  refine aF (fun w=>Sat G w ([ag wb (cl [ptr bd,ptr bs,ptr tb] 33),ag nO (cl (bn x) 38),Y])) (.st 0 (.st 1 (.st 2 (.st 3 (.st 4 (.act 5 (.st 6 (.st 7 (.st 8 (.st 9 (.st 10 .nil))))))))))) rfl ak ak ak (fun w hw=>hw.aX ad) ?_
  refine go ?_
  refine bD (U:=ao) (l:=bn x) 1 zr zr zr zr zr zr ?_
  refine go ?_
  ((refine ah rfl rfl rfl rfl (Jj) ad ?_ (fun _ _ w hp hw=>by obtain⟨rfl,rfl⟩:=hp;exact hw.aX ad)))
  rintro _ _⟨rfl,rfl⟩
  refine go ?_
  refine aF (fun w=>Sat G w ([ag wb (cl [ptr bd,ptr bs,ptr tb] 33),ag nO (cl (bn x) 38),Y])) (.st 0 (.st 1 (.st 2 (.st 3 (.st 4 (.st 5 (.st 6 (.st 7 (.st 8 (.st 9 (.act 10 (.st 11 (.st 12 (.st 13 (.st 14 (.st 15 (.st 16 (.st 17 .nil)))))))))))))))))) rfl ak ak ak (fun w hw=>hw.aX ad) ?_
  (repeat(first|refine fk ?_|refine bD (U:=ao) (l:=bn x) 1 zr zr zr zr zr zr ?_|refine eE (U:=ao) i 8 zr zr zr zr zr zr zr zr Ca ?_|(refine aJ ?_;(refine cz (U:=ao) 2 (i*8+3) zr zr zr hv (Nat.add_assoc _ _ _) s3 zr zr ?_))))
  ((refine ah rfl rfl rfl rfl (HT) ad ?_ (fun _ _ w hp hw=>by obtain⟨_,_,rfl,rfl⟩:=hp;exact hw.aX ad)))
  rintro _ _⟨v1,v2,rfl,rfl⟩
  refine go ?_
  refine aj (H':=Y::ag wb (cl [ptr bd,ptr bs,ptr tb] 33)::ag tb (cl [ptr bs,ptr jb,u7,.bool false] 78)::az 80 1 u7 iX.length (iX.map bP)::aP iX::bS bs bd jb 1048576 mb [] s1::F) ad ?_
  rw[hY]
  refine aj (aq.cg [az 5 1 (.slice ba b.length bc) b.length (bV b),az 36 32 (.slice pa p.length pc) p.length (p.flatMap dC),X] _) ?_
  refine aO outer (i+1,s1,iX,u7) rfl ⟨by simp only;omega,by simp only;omega,uw⟩ (by simp only;omega) bY ad
 | some y =>
  have ku:(iX.any fun y=>decide (y.x=x))=true:=by
   rw[List.any_eq_true]
   have MM:iX.find? (fun y=>decide (y.x=x))=some y:=hf
   have h2:=List.find?_some MM
   exact⟨y,List.mem_of_find?_eq_some MM,h2⟩
  have xF:y∈iX:=List.mem_of_find?_eq_some hf
  have qA:=uw.read hf st.i
  have BV:=d2 y xF
  have zQ:=d3 y xF
  have hyl:=d4 y xF
  have hcq:=uQ y.ws
  obtain⟨pt,tp⟩:∃z,z=ep s1.1 iX x st.i:=⟨_,rfl⟩
  rw[← tp]at HT qA
  clear tp
  obtain⟨p1,p2,pe⟩:=pt
  simp only at HT qA
  rw[ku]
  rw[hf]at O7 Jj
  unfold LN at O7
  unfold BF at Jj
  simp only at O7 Jj
  refine go ?_
  refine aF (fun w=>Sat G w ([ag wb (cl [ptr bd,ptr bs,ptr tb] 33),ag nO (cl (bn x) 38),Y])) (.st 0 (.st 1 (.st 2 (.st 3 (.st 4 (.act 5 (.st 6 (.st 7 (.st 8 (.st 9 (.st 10 .nil))))))))))) rfl ak ak ak (fun w hw=>hw.aX ad) ?_
  refine go ?_
  refine bD (U:=ao) (l:=bn x) 1 zr zr zr zr zr zr ?_
  refine go ?_
  ((refine ah rfl rfl rfl rfl (O7) ad ?_ (fun _ _ w hp hw=>by obtain⟨_,_,rfl,rfl⟩:=hp;exact hw.aX ad)))
  rintro _ _⟨ob,ov,rfl,rfl⟩
  refine go ?_
  refine aF (fun w=>Sat G w ([ag wb (cl [ptr bd,ptr bs,ptr tb] 33),ag nO (cl (bn x) 38),Y])) (.st 0 (.st 1 (.st 2 (.st 3 (.st 4 (.act 5 (.st 6 (.st 7 (.st 8 (.st 9 (.st 10 .nil))))))))))) rfl ak ak ak (fun w hw=>hw.aX ad) ?_
  refine go ?_
  refine bD (U:=ao) (l:=bn x) 1 zr zr zr zr zr zr ?_
  refine go ?_
  ((refine ah rfl rfl rfl rfl (Jj) ad ?_ (fun _ _ w hp hw=>by obtain⟨rfl,rfl⟩:=hp;exact hw.aX ad)))
  rintro _ _⟨rfl,rfl⟩
  refine go ?_
  refine aF (fun w=>Sat G w ([ag wb (cl [ptr bd,ptr bs,ptr tb] 33),ag nO (cl (bn x) 38),Y])) (.st 0 (.st 1 (.st 2 (.st 3 (.st 4 (.st 5 (.st 6 (.st 7 (.st 8 (.st 9 (.act 10 (.st 11 (.st 12 (.st 13 (.st 14 (.st 15 (.st 16 (.st 17 .nil)))))))))))))))))) rfl ak ak ak (fun w hw=>hw.aX ad) ?_
  (repeat(first|refine fk ?_|refine bD (U:=ao) (l:=bn x) 1 zr zr zr zr zr zr ?_|refine eE (U:=ao) i 8 zr zr zr zr zr zr zr zr Ca ?_|(refine aJ ?_;(refine cz (U:=ao) 2 (i*8+3) zr zr zr hv (Nat.add_assoc _ _ _) s3 zr zr ?_))))
  ((refine ah rfl rfl rfl rfl (HT) ad ?_ (fun _ _ w hp hw=>by obtain⟨_,_,rfl,rfl⟩:=hp;exact hw.aX ad)))
  rintro _ _⟨v1,v2,rfl,rfl⟩
  refine go ?_
  ((refine ah zr zr zr zr (ly ob y.n ov) ad ?_ bE))
  rintro _ _⟨rfl,rfl⟩
  refine go ?_
  ((refine ah zr zr zr zr (qN ob y.n ov y.ws hyl) ad ?_ bE))
  rintro _ _⟨rfl,rfl⟩
  refine go ?_
  ((refine aG (H':=dO ob y.n ov y.ws++(Y::ag wb (cl [ptr bd,ptr bs,ptr tb] 33)::ag tb (cl [ptr bs,ptr jb,u7,.bool false] 78)::az 80 1 u7 iX.length (iX.map bP)::aP iX::bS bs bd jb 1048576 mb [] s1::F)) ad ?_))
  ((refine aB 209 ((.bool false)) rfl ((congrArg Value.bool (by simp))) ?_))
  (repeat(first|refine fk ?_|refine eE (U:=ao) i 8 zr zr zr zr zr zr zr zr Ca ?_|(refine aJ ?_;(refine bB (U:=ao) 2 (i*8+3) zr zr zr hv (Nat.add_assoc _ _ _) s3 zr zr ?_))))
  have hha:=o7 ob y.n ov y.ws BV zQ st.i
  obtain⟨hb,OZ⟩:∃hb,fZ y.ws y.n st.i=hb:=⟨_,rfl⟩
  rw[OZ]at hha qA
  ((refine ah zr zr zr zr (hha) ad ?_ bE))
  rintro _ _⟨rfl,rfl⟩
  ((refine aB 211 ((.bool hb)) rfl ((congrArg Value.bool qA)) ?_))
  cases hb
  all_goals(
   refine go ?_
   refine aj (H':=Y::ag wb (cl [ptr bd,ptr bs,ptr tb] 33)::ag tb (cl [ptr bs,ptr jb,u7,.bool false] 78)::az 80 1 u7 iX.length (iX.map bP)::aP iX::bS bs bd jb 1048576 mb [] s1::F) ad ?_
   rw[hY]
   refine aj (aq.cg [az 5 1 (.slice ba b.length bc) b.length (bV b),az 36 32 (.slice pa p.length pc) p.length (p.flatMap dC),X] _) ?_
   refine aO outer (i+1,s1,iX,u7) rfl ⟨by simp only;omega,by simp only;omega,uw⟩ (by simp only;omega) bY ad)
end Go.Proofs.YthjbidjmgbjkiaaGreatDoor
