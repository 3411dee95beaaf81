import Derived.Test.YtedjnjkijiddlaaGreatDoorQPO9
import Derived.Test.YtedjnjkijiddlaaGreatDoorQPO11
import Derived.Test.YtedjnjkijiddlaaGreatDoorQPO12
import Derived.Test.YtedjnjkijiddlaaGreatDoorQPO13
set_option linter.unusedSimpArgs false
set_option linter.unusedVariables false
set_option maxHeartbeats 4000000
namespace Go.Proofs.YtedjnjkijiddlaaGreatDoor
open Go Go.SL
theorem Cm.adr{M:YD}{ls:List (List UInt8)}(h:Cm M ls){A:HP}{cs:List Value}{ls2:List (List UInt8)}(hl:cs.length=ls2.length)(hx:∀(i:Nat) (x:List UInt8),ls2[i]?=some x→∃cv,cs[i]?=some cv∧eJ A cv x):Cm ⟨M.cs++cs,Sep [A,M.Z]⟩ (ls++ls2):=by
 obtain⟨h1,h2⟩:=h
 refine⟨by simp[h1,hl],fun i y hy=>?_⟩
 simp only
 rw[List.getElem?_append]at hy ⊢
 rw[h1]
 split at hy
 ·rename_i cW
  rw[if_pos cW]
  obtain⟨cv',h3,h4⟩:=h2 i y hy
  exact⟨cv',h3,h4.mono (aW (i:=1) rfl)⟩
 ·rename_i fq
  rw[if_neg fq]
  obtain⟨cv',h3,h4⟩:=hx _ y hy
  exact⟨cv',h3,h4.mono (aW (i:=0) rfl)⟩
attribute [local irreducible] J K aD Ends ag aB aM bN aZ aP aV bh bW aC cd vq
set_option maxRecDepth 20000 in
theorem LC(X:HP)(hK:oe X)(bs bd:Nat)(q:Int)(hq:0≤q∧q≤1073741824)(mb:Nat)(s:eU)(On:pe s.aY)(iD:s.aY.length≤900000)(cF:s.A.aq.length≤700000000)(eH:s.A.writes.length≤700000000)(nJ:(fH s.A cS).length≤900000)(W3:∀x∈fH s.A cS,x.length≤1000000)(tr:((fH s.A cS).foldl dm []).length≤100) :
    aD Tryz.prog 28 [ptr bd,ptr bs] (cg bs bd q mb s++[X])
    (fun r H=>∃(e:Nat) (t:eU) (jn:JN) (cs:List TC),Cp q s e t jn cs∧((e≠0∧r = .tuple #[.pointer none,.int .i64 (e:Int)]∧H=cg bs bd q mb t++[X])∨(e=0∧∃tb jb tv ts,gh ts=cs∧r = .tuple #[ptr tb,.int .i64 0]∧H=dr tb bs jb tv ts false++[cd bs bd jb q mb [] (t,jn),X]))):=by
  obtain⟨A,aY,brk⟩:=s
  have hop:=O8 bd cS A (by decide) (by simp only at cF;omega) (by simp only at eH;omega)
  have hpn:cS=⟨#[112,105,101,99,101,115]⟩:=rfl
  rw[hpn]at hop
  simp only at On iD cF eH nJ tr W3
  refine aD.enter Tryz.func28 ak rfl Tryz.ntmps28 zr zr ?_
  intro G F R hE
  refine aj (H':=aC bd A::ag bs (cl (ej bd q mb brk) 123)::aM dV mb (dt aY)::X::F) (by unfold cg;exact ad) ?_
  refine go ?_
  ((refine ai zr zr zr zr (hop) ad ?_ bG))
  rintro _ _⟨e1,A1,j1,hO,⟨Sk,rfl,rfl⟩|⟨rfl,jb,lv,rfl,rfl⟩⟩
  · rw[← hpn]at hO
    refine go ?_
    refine au zr zr ?_ ?_
    case' refine_2=>(intro h;exfalso;omega)
    intro _
    refine go ?_
    refine aj (H':=cg bs bd q mb ⟨A1,aY,brk⟩++(X::F)) (by unfold cg;exact ad) ?_
    ((refine ae hE Tryz.func28 rfl _ rfl ⟨e1,⟨A1,aY,brk⟩,j1,[],⟨e1,A1,j1,hO,by rw[if_pos Sk];exact⟨rfl,rfl⟩⟩,.inl ⟨Sk,rfl,rfl⟩⟩ ad))
  rw[← hpn]at hO
  have hog:=sy hO
  obtain⟨ls,IQ⟩:∃ls,ls=fH A cS:=⟨_,rfl⟩
  rw[← hpn,← IQ]
  rw[← IQ]at nJ W3 tr
  (refine rG ?_)
  refine iR rfl ?_
  refine aj (H':=vq lv ls::aC bd A1::qY jb bd cS j1::ag bs (cl (ej bd q mb brk) 123)::aM dV mb (dt aY)::X::F) (by rw[hpn];exact ad) ?_
  refine eE (GH lv ls) ?_
  rintro⟨cs,M⟩ hRR
  refine SE 0 hRR rfl ?_
  intro mA
  obtain⟨Z,hZ⟩:∃Z,Z=Sep [aB 22 1 lv ls.length cs,aV 5 M]:=⟨_,rfl⟩
  refine aj (ao.bP [aB 22 1 lv ls.length cs,aV 5 M] _) ?_
  rw[← hZ]at mA ⊢
  clear hZ hRR M cs
  obtain⟨cs,dK,ln,⟨la,lc,rfl,hlc⟩,pj⟩:=mA
  refine go ?_
  refine bC zr zr bz ?_
  intro tb
  refine go ?_
  refine aj (ao.trans (bJ 90 1 none _) (H5 _)) ?_
  refine bu (fun y:Nat × List Tk × Value=>y.1≤ls.length∧gh y.2.1=(ls.take y.1).foldl dm []∧y.2.1.length≤y.1) (fun y=>ls.length-y.1)
    (fun y=>[(0,ptr bd),(1,ptr bs),(6,ptr jb),(9,ptr tb),(37,.slice la ls.length lc),(38,.int .i64 (ls.length:Int)),(39,.int .i64 (y.1:Int))])
    (fun y=>Z::ag tb (cl [ptr bs,ptr jb,y.2.2,.bool false] 88)::aB 90 1 y.2.2 y.2.1.length (y.2.1.map cm)::aU y.2.1::aC bd A1::qY jb bd cS j1::ag bs (cl (ej bd q mb brk) 123)::aM dV mb (dt aY)::X::F) (0,[],.slice none 0 0) ⟨Nat.zero_le _,rfl,Nat.le_refl _⟩ rfl cu ad ?_
  rintro⟨i,ts,tv⟩⟨hi,zv,acb⟩ ih
  simp only at hi zv acb
  dsimp only
  refine go ?_
  refine au zr zr ?_ ?_
  · intro cW
    have gw:i<ls.length:=by omega
    obtain⟨x,hx⟩:∃x,ls[i]?=some x:=⟨ls[i],by simp⟩
    obtain⟨cv,mO,vV⟩:=pj i x hx
    have jY:ls.take (i+1)=ls.take i++[x]:=by rw[List.take_add_one,hx];rfl
    have lC:∀y∈ts,jZ y.c:=fun y hy=>((px (ls.take i)).1 y.c (by rw[← zv];exact List.mem_map.2 ⟨y,hy,rfl⟩)).1
    have R0:=Ms Z tb bs jb tv false ts cv x vV (by have:=W3 x (List.mem_of_getElem? hx);omega) ah (fun y hy=>Nat.le_trans (lC y hy).1 ah) (fun y hy=>(lC y hy).2.1)
    unfold dr at R0
    obtain⟨bb,oo,cc,he⟩:=dK.some (by intro h;rw[h]at mO;cases mO)
    simp only[Value.slice.injEq,true_and]at he
    obtain⟨rfl,rfl⟩:=he
    obtain⟨xa,xc,rfl,_⟩:=vV.2
    refine go ?_
    refine bK i zr zr zr zr zr zr zr zr gw ?_
    refine aK ?_
    refine bg 0 i zr zr zr dK rfl mO zr zr ?_
    refine go ?_
    ((refine ai zr zr zr zr (R0) ad ?_ bG))
    rintro _ _⟨rfl,dW,nr,ac6,rfl⟩
    refine go ?_
    have aa1:gh dW=(ls.take (i+1)).foldl dm []:=by rw[ac6,zv,jY,List.foldl_append];rfl
    have rf:dW.length≤i+1:=by
      have:=(px (ls.take (i+1))).2
      rw[← aa1,mU,List.length_take]at this
      omega
    refine aL ih (i+1,dW,nr) rfl ⟨by simp only;omega,aa1,rf⟩ (by simp only;omega) cu ad
  intro fq
  have sH:i=ls.length:=by omega
  subst sH
  rw[List.take_length]at zv
  clear ih
  have htr:∀y∈ts,Ma y.c:=fun y hy=>(px ls).1 y.c (by rw[← zv];exact List.mem_map.2 ⟨y,hy,rfl⟩)
  have acd:ts.length≤100:=by rw[← mU,zv];exact tr
  refine aj (ao.pick [2] rfl) ?_
  ((refine dv 0 rfl ?_))
  rintro ta tc rfl
  refine dB 0 rfl ?_
  intro hvt
  refine aj (H':=ag tb (cl [ptr bs,ptr jb,.slice ta ts.length tc,.bool false] 88)::aB 90 1 (.slice ta ts.length tc) ts.length (ts.map cm)::aU ts::aC bd A1::qY jb bd cS j1::ag bs (cl (ej bd q mb brk) 123)::aM dV mb (dt aY)::X::F) ad ?_
  refine go ?_
  have ac':∀H,ao (H) (aB 90 1 (.slice none 0 0) 0 []::aU []::aB 22 1 (.slice none 0 0) 0 []::Sep []::H):=fun H=>ao.trans (ao.bP [] H) (ao.trans (bJ 22 1 none _) (ao.trans (H5 _) (bJ 90 1 none _)))
  refine aj (H':=cg bs bd q mb ⟨A1,aY,brk⟩++(qY jb bd cS j1::aU ts::aB 90 1 (.slice ta ts.length tc) ts.length (ts.map cm)::ag tb (cl [ptr bs,ptr jb,.slice none 0 0,.bool false] 88)::X::F)) (by unfold cg;exact ad) ?_
  refine aj (yY bs bd jb q mb (⟨A1,aY,brk⟩,j1) _) ?_
  refine aj (ac' _) ?_
  refine bu (fun z:Nat × eU × List Tk × Value × List (List UInt8) × YD × Option Addr × Nat=>z.1≤ts.length∧(∀e t cs rs,rL q (gh (ts.drop z.1)) z.2.1 (gh z.2.2.1) z.2.2.2.2.1 e t cs rs→rL q (gh ts) ⟨A1,aY,brk⟩ [] [] e t cs rs)∧(pe z.2.1.aY∧z.2.1.aY.length≤aY.length+z.1)∧(z.2.1.A.aq.length≤A1.aq.length+2*z.1∧z.2.1.A.writes.length≤A1.writes.length+2*z.1)∧z.2.2.1.length≤z.1∧Cm z.2.2.2.2.2.1 z.2.2.2.2.1∧(∀x∈z.2.2.2.2.1,x.length≤760)∧z.2.2.2.2.1.length≤1025*z.1) (fun z=>ts.length-z.1)
    (fun z=>[(0,ptr bd),(1,ptr bs),(6,ptr jb),(9,ptr tb),(13,.slice z.2.2.2.2.2.2.1 z.2.2.2.2.2.1.cs.length z.2.2.2.2.2.2.2),(54,.slice ta ts.length tc),(55,.int .i64 (ts.length:Int)),(56,.int .i64 (z.1:Int))])
    (fun z=>aB 90 1 z.2.2.2.1 z.2.2.1.length (z.2.2.1.map cm)::aU z.2.2.1::aB 22 1 (.slice z.2.2.2.2.2.2.1 z.2.2.2.2.2.1.cs.length z.2.2.2.2.2.2.2) z.2.2.2.2.2.1.cs.length z.2.2.2.2.2.1.cs::z.2.2.2.2.2.1.Z::cd bs bd jb q mb [] (z.2.1,j1)::aU (ts.drop z.1)::aB 90 1 (.slice ta ts.length tc) ts.length (ts.map cm)::ag tb (cl [ptr bs,ptr jb,z.2.2.2.1,.bool false] 88)::X::F) (0,⟨A1,aY,brk⟩,[],.slice none 0 0,[],⟨[],Sep []⟩,none,0) ⟨Nat.zero_le _,fun _ _ _ _ h=>h,⟨On,by simp⟩,⟨by simp,by simp⟩,Nat.le_refl _,⟨rfl,fun i x h=>by cases h⟩,fun x h=>(by cases h),by simp⟩ rfl cu ad ?_
  rintro⟨i,s,us,uv,rs,M,oa,oc⟩⟨hi,Yw,⟨sk,adf⟩,⟨gb,ach⟩,ab9,hM,IL,acm⟩ ih
  simp only at hi Yw sk adf gb ach ab9 hM IL acm
  dsimp only
  have hMl:=hM.1
  refine go ?_
  refine au zr zr ?_ ?_
  case' refine_2 =>
    intro fq
    have sH:i=ts.length:=by omega
    subst sH
    clear ih
    have lV:=Yw 0 s (gh us) rs (by rw[List.drop_length];exact⟨rfl,rfl,rfl,rfl⟩)
    refine aj (H':=aB 22 1 (.slice oa M.cs.length oc) M.cs.length M.cs::M.Z::cd bs bd jb q mb [] (s,j1)::aB 90 1 uv us.length (us.map cm)::aU us::ag tb (cl [ptr bs,ptr jb,uv,.bool false] 88)::X::F) ad ?_
    refine mi 0 rfl ?_
    intro jl
    refine dB 0 rfl ?_
    intro NN
    have mA:rM (Sep [aB 22 1 (.slice oa M.cs.length oc) M.cs.length M.cs,M.Z]) (.slice oa M.cs.length oc) rs:=by
      rw[hMl]at NN jl ⊢
      exact rM.ofP NN jl hMl hM.2
    have hfb:=yw rs (1025*100) IL ah
    have hcm:=Fp jb bd cS (by decide) s.A j1 _ _ rs mA ah ah ah ah
    refine aj (ao.bP [aB 22 1 (.slice oa M.cs.length oc) M.cs.length M.cs,M.Z] _) ?_
    refine aj (H':=cd bs bd jb q mb [] (s,j1)::Sep [aB 22 1 (.slice oa M.cs.length oc) M.cs.length M.cs,M.Z]::aB 90 1 uv us.length (us.map cm)::aU us::ag tb (cl [ptr bs,ptr jb,uv,.bool false] 88)::X::F) ad ?_
    refine aj (Hz bs bd jb q mb (s,j1) _) ?_
    unfold cg
    refine go ?_
    ((refine ai zr zr zr zr (hcm) ad ?_ bG))
    rintro _ _⟨e3,A3,jn,rfl,rfl,hCR⟩
    have abb:Cp q ⟨A,aY,brk⟩ e3 ⟨A3,s.aY,s.brk⟩ jn (gh us):=⟨0,A1,j1,hO,by
      rw[if_neg ah]
      refine⟨0,s,rs,by rw[← IQ];rw[zv]at lV;exact lV,?_⟩
      rw[if_neg ah]
      exact⟨A3,hCR,rfl⟩⟩
    by_cases he3:e3=0
    · subst he3
      refine go ?_
      refine aj (H':=cg bs bd q mb ⟨A3,s.aY,s.brk⟩++(qY jb bd cS jn::ag tb (cl [ptr bs,ptr jb,uv,.bool false] 88)::aB 90 1 uv us.length (us.map cm)::aU us::X::F)) (by unfold cg;exact ad) ?_
      refine aj (yY bs bd jb q mb (⟨A3,s.aY,s.brk⟩,jn) _) ?_
      refine aj (H':=dr tb bs jb uv us false++([cd bs bd jb q mb [] (⟨A3,s.aY,s.brk⟩,jn),X]++F)) (by unfold dr;exact ad) ?_
      ((refine ae hE Tryz.func28 rfl _ rfl ⟨0,⟨A3,s.aY,s.brk⟩,jn,gh us,abb,.inr ⟨rfl,tb,jb,uv,us,rfl,rfl,rfl⟩⟩ ad))
    · refine go ?_
      refine au zr zr ?_ ?_
      case' refine_2=>(intro h;exfalso;omega)
      intro _
      refine go ?_
      refine aj (H':=cg bs bd q mb ⟨A3,s.aY,s.brk⟩++(X::F)) (by unfold cg;exact ad) ?_
      ((refine ae hE Tryz.func28 rfl _ rfl ⟨e3,⟨A3,s.aY,s.brk⟩,jn,gh us,abb,.inl ⟨he3,rfl,rfl⟩⟩ ad))
  intro cW
  have gw:i<ts.length:=by omega
  obtain⟨y,hy⟩:∃y,ts[i]?=some y:=⟨ts[i],by simp⟩
  have hyr:=htr y (List.mem_of_getElem? hy)
  have CG:=df (x:=y.x) hyr.2
  have lX:ts.drop i=y::ts.drop (i+1):=by
    obtain⟨h1,h2⟩:=List.getElem?_eq_some_iff.1 hy
    rw[List.drop_eq_getElem_cons h1,h2]
  have Xh:gh (ts.drop i)=y.c::gh (ts.drop (i+1)):=by rw[lX];rfl
  rw[Xh]at Yw
  have re:=Bp [] (ts.drop (i+1)) y
  simp only[List.nil_append]at re
  rw[← lX]at re
  have aa6:=Fz bs bd q hq mb s y.x sk ah ah
  unfold eg at aa6
  obtain⟨P0,PD,cc9,he9⟩:=hvt.some (Mp gw)
  simp only[Value.slice.injEq,true_and]at he9
  obtain⟨rfl,rfl⟩:=he9
  refine aj (H':=aU (ts.drop i)::aB 90 1 (.slice (some ⟨P0,PD,none⟩) ts.length tc) ts.length (ts.map cm)::cd bs bd jb q mb [] (s,j1)::aB 90 1 uv us.length (us.map cm)::aU us::aB 22 1 (.slice oa M.cs.length oc) M.cs.length M.cs::M.Z::ag tb (cl [ptr bs,ptr jb,uv,.bool false] 88)::X::F) ad ?_
  refine aj (re _) ?_
  refine eE (gj y) ?_
  rintro⟨wv,Ja,N⟩ hz
  have jO:∀H,ao (ag y.yb (cl (lz y) 93)::ag y.sb (cl [.int .i64 (y.n:Int),wv] 117)::aB 118 1 wv y.ws.length (qV y.ws)::aM (Value.int .i64) y.mb Ja::aV 35 N::H) (n9 y::H):=fun H=>ao.trans (H2:=mZ y (wv,Ja,N)++H) (by unfold mZ;exact ad) (jh hz _)
  refine aj (H':=cd bs bd jb q mb [] (s,j1)::ag y.yb (cl (lz y) 93)::ag y.sb (cl [.int .i64 (y.n:Int),wv] 117)::aB 118 1 wv y.ws.length (qV y.ws)::aM (Value.int .i64) y.mb Ja::aV 35 N::aB 90 1 (.slice (some ⟨P0,PD,none⟩) ts.length tc) ts.length (ts.map cm)::aU (ts.drop (i+1))::aB 90 1 uv us.length (us.map cm)::aU us::aB 22 1 (.slice oa M.cs.length oc) M.cs.length M.cs::M.Z::ag tb (cl [ptr bs,ptr jb,uv,.bool false] 88)::X::F) (by unfold mZ;exact ad) ?_
  refine aj (Hz bs bd jb q mb (s,j1) _) ?_
  refine aj (H':=aB 90 1 (.slice (some ⟨P0,PD,none⟩) ts.length tc) ts.length (ts.map cm)::ag y.yb (cl (lz y) 93)::ag y.sb (cl [.int .i64 (y.n:Int),wv] 117)::aB 118 1 wv y.ws.length (qV y.ws)::aM (Value.int .i64) y.mb Ja::aV 35 N::(cg bs bd q mb s++(qY jb bd cS j1::aU (ts.drop (i+1))::aB 90 1 uv us.length (us.map cm)::aU us::aB 22 1 (.slice oa M.cs.length oc) M.cs.length M.cs::M.Z::ag tb (cl [ptr bs,ptr jb,uv,.bool false] 88)::X::F))) ad ?_
  refine go ?_
  refine bK i zr zr zr zr zr zr zr zr gw ?_
  refine aK ?_
  refine bg 0 i zr zr zr hvt rfl (qx hy) zr zr ?_
  refine go ?_
  refine dw (cs:=bD y.x) 1 zr zr zr zr zr zr ?_
  refine go ?_
  ((refine ai zr zr zr zr (aa6) ad ?_ bG))
  rintro _ _⟨e1,s1,rfl,rfl,hBR⟩
  (refine rG ?_)
  refine iR rfl ?_
  have Q6:=sk.begin ah hyr.2 hBR
  have Yp:=gJ hBR
  refine aj (ao.trans (H2:=ag y.yb (cl (lz y) 93)::ag y.sb (cl [.int .i64 (y.n:Int),wv] 117)::aB 118 1 wv y.ws.length (qV y.ws)::aM (Value.int .i64) y.mb Ja::aV 35 N::aB 90 1 (.slice (some ⟨P0,PD,none⟩) ts.length tc) ts.length (ts.map cm)::aU (ts.drop (i+1))::(cg bs bd q mb s1++(qY jb bd cS j1::aB 90 1 uv us.length (us.map cm)::aU us::aB 22 1 (.slice oa M.cs.length oc) M.cs.length M.cs::M.Z::ag tb (cl [ptr bs,ptr jb,uv,.bool false] 88)::X::F))) ad (jO _)) ?_
  by_cases II:e1=5∨e1=11
  · have rB:∀e t cs Am,rL q (gh (ts.drop (i+1))) s1 (gh us) rs e t cs Am→rL q (gh ts) ⟨A1,aY,brk⟩ [] [] e t cs Am:=fun e t cs Am h=>Yw e t cs Am ⟨e1,s1,hBR,by rw[if_pos II];exact h⟩
    refine aj (ao.trans ad (yY bs bd jb q mb (s1,j1) (aU (ts.drop (i+1))::aB 90 1 (.slice (some ⟨P0,PD,none⟩) ts.length tc) ts.length (ts.map cm)::aB 90 1 uv us.length (us.map cm)::aU us::aB 22 1 (.slice oa M.cs.length oc) M.cs.length M.cs::M.Z::ag tb (cl [ptr bs,ptr jb,uv,.bool false] 88)::X::F))) ?_
    rcases II with rfl|rfl
    all_goals(
      refine go ?_
      refine aL ih (i+1,s1,us,uv,rs,M,oa,oc) rfl ⟨by simp only;omega,rB,⟨Q6.1,by simp only;have:=Q6.2;omega⟩,⟨by simp only;have:=Yp.1;omega,by simp only;have:=Yp.2;omega⟩,by simp only;omega,hM,IL,by simp only;omega⟩ (by simp only;omega) cu ad)
  by_cases pq:e1=0
  case neg =>
    have Sj:=Yw e1 s1 [] [] ⟨e1,s1,hBR,by rw[if_neg II,if_pos pq];exact⟨rfl,rfl⟩⟩
    rw[zv]at Sj
    have aba:Cp q ⟨A,aY,brk⟩ e1 s1 j1 []:=by
      refine⟨0,A1,j1,hO,?_⟩
      rw[if_neg ah]
      refine⟨e1,s1,[],by rw[← IQ];exact Sj,?_⟩
      rw[if_pos pq]
      exact⟨rfl,rfl⟩
    refine go ?_
    ((refine az 68 ((.bool false)) rfl ((congrArg Value.bool (decide_eq_false ah))) ?_))
    refine go ?_
    ((refine bB 71 ((.bool false)) rfl ((congrArg Value.bool (decide_eq_false ah))) ?_))
    refine go ?_
    refine au zr zr ?_ ?_
    case' refine_2=>(intro h;exfalso;omega)
    intro _
    refine go ?_
    refine aj (H':=cg bs bd q mb s1++(X::F)) ad ?_
    ((refine ae hE Tryz.func28 rfl _ rfl ⟨e1,s1,j1,[],aba,.inl ⟨pq,rfl,rfl⟩⟩ ad))
  subst pq
  refine abC 5 rfl ?_
  intro acn
  have hRd:∀nm at_ n,(s1.A.read nm at_ n).1.length≤1048576:=fun nm at_ n=>Du s1.A acn nm at_ n
  obtain⟨KG,rf⟩:=KB s1 y.c hyr
  have rB:∀e t cs Am,rL q (gh (ts.drop (i+1))) s1 (gh us++[(j0 s1 y.c).1]) (rs++(j0 s1 y.c).2) e t cs Am→rL q (gh ts) ⟨A1,aY,brk⟩ [] [] e t cs Am:=fun e t cs Am h=>Yw e t cs Am ⟨0,s1,hBR,by rw[if_neg II,if_neg ah];exact h⟩
  have aaQ:=fun tv=>NY X hK tb bs jb bd tv false q mb (s1,j1) hRd y hyr.1 ah ah
  refine aj (ao.trans ad (yY bs bd jb q mb (s1,j1) (aB 90 1 uv us.length (us.map cm)::ag tb (cl [ptr bs,ptr jb,uv,.bool false] 88)::n9 y::X::aB 22 1 (.slice oa M.cs.length oc) M.cs.length M.cs::M.Z::aB 90 1 (.slice (some ⟨P0,PD,none⟩) ts.length tc) ts.length (ts.map cm)::aU (ts.drop (i+1))::aU us::F))) ?_
  ((refine dv 1 rfl ?_))
  rintro ua uc rfl
  refine aj (H':=ag tb (cl [ptr bs,ptr jb,.slice ua us.length uc,.bool false] 88)::aB 90 1 (.slice ua us.length uc) us.length (us.map cm)::n9 y::cd bs bd jb q mb [] (s1,j1)::X::aB 22 1 (.slice oa M.cs.length oc) M.cs.length M.cs::M.Z::aB 90 1 (.slice (some ⟨P0,PD,none⟩) ts.length tc) ts.length (ts.map cm)::aU (ts.drop (i+1))::aU us::F) ad ?_
  refine go ?_
  refine al (cs:=[ptr y.yb]) zr zr zr zr zr zr zr zr zr bz ?_
  intro r1
  refine go ?_
  refine aO (mm:=1) (news:=[ptr y.yb]) 2 0 rfl rfl rfl rfl rfl rfl rfl rfl rfl rfl rfl rfl (Vw.ag rfl) rfl (by intro v hv;simp at hv;rw[hv];rfl) ah (by show(_+_)*8≤_;omega) (fun _=>rfl) bz ?_
  intro v1
  ((refine aJ 2 rfl ?_))
  rintro va vc rfl
  refine go ?_
  ((refine ai zr zr zr zr (aaQ (.slice va (us.length+1) vc)) ad ?_ bG))
  rintro r9 _⟨y',Z2,abX,aad,aaE,rfl⟩
  obtain⟨FO,uh,Xe,⟨ra,rc,rfl,NV⟩,W9⟩:=aaE
  simp only at aad uh Xe W9 NV
  have ys:=hM.adr Xe W9
  have gu:∀v∈FO,v.oneCell'=true:=fun v hv=>by
    obtain⟨j,hj,rfl⟩:=List.getElem_of_mem hv
    obtain⟨x,hx⟩:∃x,(j0 s1 y.c).2[j]?=some x:=⟨(j0 s1 y.c).2[j]' ah,by simp⟩
    obtain⟨cv,h1,h2⟩:=W9 j x hx
    obtain⟨_,_,rfl,_⟩:=h2.2
    rw[List.getElem?_eq_getElem hj]at h1
    injection h1 with h1
    rw[h1];rfl
  ((refine aG (H':=aB 22 1 (.slice oa M.cs.length oc) M.cs.length M.cs::Z2::ag tb (cl [ptr bs,ptr jb,.slice va (us.length+1) vc,.bool false] 88)::n9 y'::cd bs bd jb q mb [] (s1,j1)::X::M.Z::aB 90 1 (.slice (some ⟨P0,PD,none⟩) ts.length tc) ts.length (ts.map cm)::aU (ts.drop (i+1))::aU us::aB 90 1 (.slice va (us.length+1) vc) (us.length+1) (us.map cm++[ptr y.yb])::F) ad ?_))
  refine go ?_
  refine aO (mm:=(j0 s1 y.c).2.length) (news:=FO) 0 1 zr zr zr zr zr zr zr zr zr zr zr zr uh (by show _=_*1;omega) gu ah (by show(_+_)*24≤_;omega) (fun _=>rfl) bz ?_
  intro v2
  ((refine aJ 0 rfl ?_))
  rintro wa wc rfl
  refine go ?_
  have PU:us.map cm++[ptr y.yb]=(us++[y']).map cm:=by rw[← abX];simp[cm]
  have BR:us.length+1=(us++[y']).length:=by simp
  have aa4:(M.cs++FO).length=M.cs.length+(j0 s1 y.c).2.length:=by rw[List.length_append,Xe]
  have pV:=uo us [] y'
  rw[List.append_nil]at pV
  rw[PU,BR]
  refine aj (H':=n9 y'::aU us::Z2::M.Z::aB 22 1 (.slice wa (M.cs++FO).length wc) (M.cs++FO).length (M.cs++FO)::cd bs bd jb q mb [] (s1,j1)::X::aB 90 1 (.slice (some ⟨P0,PD,none⟩) ts.length tc) ts.length (ts.map cm)::aU (ts.drop (i+1))::aB 90 1 (.slice va (us++[y']).length vc) (us++[y']).length ((us++[y']).map cm)::ag tb (cl [ptr bs,ptr jb,.slice va (us++[y']).length vc,.bool false] 88)::F) (by rw[aa4];exact ad) ?_
  refine aj (pV _) ?_
  refine aj (H':=Z2::M.Z::aU (us++[y'])::aB 22 1 (.slice wa (M.cs++FO).length wc) (M.cs++FO).length (M.cs++FO)::cd bs bd jb q mb [] (s1,j1)::X::aB 90 1 (.slice (some ⟨P0,PD,none⟩) ts.length tc) ts.length (ts.map cm)::aU (ts.drop (i+1))::aB 90 1 (.slice va (us++[y']).length vc) (us++[y']).length ((us++[y']).map cm)::ag tb (cl [ptr bs,ptr jb,.slice va (us++[y']).length vc,.bool false] 88)::F) ad ?_
  refine aj (ao.bP [Z2,M.Z] _) ?_
  have hcu:gh (us++[y'])=gh us++[(j0 s1 y.c).1]:=by rw[I',aad]
  rw[← hcu]at rB
  ((refine bB 13 ((.slice wa (M.cs++FO).length wc)) rfl ((by rw[aa4])) ?_))
  refine aL ih (i+1,s1,us++[y'],.slice va (us++[y']).length vc,rs++(j0 s1 y.c).2,⟨M.cs++FO,Sep [Z2,M.Z]⟩,wa,wc) rfl ⟨by simp only;omega,rB,⟨Q6.1,by simp only;have:=Q6.2;omega⟩,⟨by simp only;have:=Yp.1;omega,by simp only;have:=Yp.2;omega⟩,by simp only[List.length_append,List.length_singleton];omega,ys,(fun x hx=>by
    rcases List.mem_append.1 hx with h|h
    · exact IL x h
    · exact KG x h),by simp only[List.length_append];omega⟩ (by simp only;omega) cu ad
end Go.Proofs.YtedjnjkijiddlaaGreatDoor
namespace Go.Proofs.YtedjnjkijiddlaaGreatDoor
open Go Go.SL
def EW(q:Int)(A:Ab)(e:Nat)(t:SJ)(cs:List TC):Prop :=
 ∃e1 B,qj A e1 B∧if e1≠0 then e=e1 else ∃s jn,Cp q ⟨B,[],false⟩ e s jn cs∧t=(s,jn)
attribute [local irreducible] J K aD Ends ag aB aM bN aZ aP aV bh bW aC cd vq
set_option maxRecDepth 20000 in
theorem qw(X:HP)(hK:oe X)(wb bd:Nat)(v1 v2:Value)(q:Int)(hq:1≤q∧q≤1073741824)(A:Ab)(jN:A.off=false)(cF:A.aq.length≤600000000)(hB:∀B,qj A 0 B→B.writes.length≤700000000∧(fH B cS).length≤900000∧(∀x∈fH B cS,x.length≤1000000)∧((fH B cS).foldl dm []).length≤100) :
  aD Tryz.prog 8 [ptr wb,.int .i64 q] [ag wb (cl [ptr bd,v1,v2] 32),aC bd A,X]
  (fun r H=>∃(e:Nat) (t:SJ) (cs:List TC),EW q A e t cs∧r = .int .i64 (e:Int)∧(e=0→∃bs mb tb jb tv ts,gh ts=cs∧H=ag wb (cl [ptr bd,ptr bs,ptr tb] 32)::dr tb bs jb tv ts false++[cd bs bd jb q mb [] t,X])∧(e≠0→∃L,H=L)):=by
 refine aD.enter Tryz.func8 ak rfl Tryz.ntmps8 zr zr ?_
 intro G F R hE
 refine go ?_
 ((refine ai zr zr zr zr (LB X hK bd q A ah) ad ?_ bG))
 rintro _ _ (⟨h,_⟩|⟨_,h,_⟩|⟨_,_,e,B,ho,hc⟩)
 ·exfalso;omega
 ·rw[jN]at h;cases h
 rcases hc with⟨bT,rfl,rfl⟩|⟨rfl,hBl,bs,mb,rfl,rfl⟩
 ·refine go ?_
  refine au zr zr ?_ ?_
  case' refine_2=>(intro h;exfalso;omega)
  intro _
  refine go ?_
  ((refine ae hE Tryz.func8 rfl _ rfl ⟨e,(⟨B,[],false⟩,⟨0,0,0,false⟩),[],⟨e,B,ho,by rw[if_pos bT]⟩,rfl,fun h=>absurd h bT,fun _=>⟨ag wb (cl [ptr bd,.pointer none,.pointer none] 32)::[aC bd B,X],rfl⟩⟩ ad))
 obtain⟨b1,b2,b3,b4⟩:=hB B ho
 have hop:=LC X hK bs bd q ⟨ah,hq.2⟩ mb ⟨B,[],false⟩ ⟨by simp,by simp⟩ (by simp) (by simp only;omega) (by simp only;omega) b2 b3 b4
 ((refine aG (H':=ag wb (cl [ptr bd,v1,v2] 32)::(cg bs bd q mb ⟨B,[],false⟩++(X::F))) ad ?_))
 refine go ?_
 refine aG (H':=cg bs bd q mb ⟨B,[],false⟩++(X::ag wb (cl [ptr bd,ptr bs,.pointer none] 32)::F)) (by unfold cg;exact ad) ?_
 ((refine ai zr zr zr zr (hop) ad ?_ bG))
 rintro _ _⟨e,t,jn,cs,hO,⟨bT,rfl,rfl⟩|⟨rfl,tb,jb,tv,ts,zv,rfl,rfl⟩⟩
 ·((refine aG (H':=ag wb (cl [ptr bd,ptr bs,.pointer none] 32)::(cg bs bd q mb t++(X::F))) ad ?_))
  refine go ?_
  ((refine ae hE Tryz.func8 rfl _ rfl ⟨e,(t,jn),cs,⟨0,B,ho,by rw[if_neg ah];exact⟨t,jn,hO,rfl⟩⟩,rfl,fun h=>absurd h bT,fun _=>⟨ag wb (cl [ptr bd,ptr bs,.pointer none] 32)::(cg bs bd q mb t++[X]),rfl⟩⟩ ad))
 ·((refine aG (H':=ag wb (cl [ptr bd,ptr bs,.pointer none] 32)::(dr tb bs jb tv ts false++([cd bs bd jb q mb [] (t,jn),X]++F))) ad ?_))
  unfold dr
  refine go ?_
  refine aj (H':=(ag wb (cl [ptr bd,ptr bs,ptr tb] 32)::dr tb bs jb tv ts false++[cd bs bd jb q mb [] (t,jn),X])++F) (by unfold dr;exact ad) ?_
  ((refine ae hE Tryz.func8 rfl _ rfl ⟨0,(t,jn),cs,⟨0,B,ho,by rw[if_neg ah];exact⟨t,jn,hO,rfl⟩⟩,rfl,fun _=>⟨bs,mb,tb,jb,tv,ts,zv,rfl⟩,fun h=>absurd rfl h⟩ ad))
end Go.Proofs.YtedjnjkijiddlaaGreatDoor
namespace Go.Proofs.YtedjnjkijiddlaaGreatDoor
open Go Go.SL
theorem Bk{A:Ab}(h:A.names=[]):vw A=fun _=>none:=by
 funext n
 unfold vw Ab.look Ab.cG
 rw[h];rfl
theorem Ha{A:Ab}{nm:ByteArray}(h:HA A)(hv:vw A nm=none):fH A nm=[]:=by
 have od:A.look nm=none:=by
  unfold vw at hv
  cases hx:A.look nm with
  | none=>rfl
  | some f=>rw[hx]at hv;cases hv
 have vz:(A.read nm 0 (A.size nm).1).1=[]:=by
  unfold Ab.read
  rw[if_neg (by rw[h.on];simp),od]
 unfold fH
 rw[vz]
 rfl
theorem ly:(bX []).length=32:=by unfold bX;simp[fL]
theorem A9{q:Int}{A:Ab}{e:Nat}{t:SJ}{cs:List TC}(h:HA A)(hn:A.names=[])(hr:64≤A.room)(hR:EW q A e t cs) :
  e=0∧cs=[]∧HA t.1.A∧t.1.aY=[]∧t.1.brk=false∧vw t.1.A=ew (fun _=>none) cS (some (bX []))∧t.1.A.room=A.room∧t.2=⟨1,0,0,false⟩∧t.1.A.names.length=1∧t.1.A.used=32∧t.1.A.aq.length≤A.aq.length+14∧t.1.A.writes.length≤A.writes.length+14:=by
 obtain⟨e1,B,hO,hR⟩:=hR
 obtain⟨rfl,rfl⟩:=y8 hn hO
 rw[if_neg ah]at hR
 obtain⟨s,jn,⟨e2,A1,j1,KW,hR⟩,rfl⟩:=hR
 simp only at KW hR
 have lk:=Bk hn
 have hu0:B.used=0:=by unfold Ab.used;rw[hn];rfl
 have zL:=sy KW
 obtain⟨rfl,k1,k2,k3,k4,k5⟩:=xK h dR jw oA (by rw[lk]) (by rw[lk]) (by rw[hn];simp) ah KW
 rw[lk]at k2
 rw[if_neg ah,k5]at hR
 obtain⟨e3,s2,rs,⟨rfl,rfl,rfl,rfl⟩,hR⟩:=hR
 rw[if_neg ah]at hR
 obtain⟨A3,hC,rfl⟩:=hR
 simp only at hC
 subst k4
 unfold n7 at hC
 rw[if_neg (by simp),if_neg (by simp),if_neg (by simp)]at hC
 obtain⟨y,hP,rfl,rfl⟩:=hC
 obtain⟨RZ,R9⟩:=h.pt k1 (k:=cS) (c:=bX []) (by rw[lk]) (by rw[k2,lk])
 have Ee:=u0 hP
 simp only at Ee
 obtain⟨rfl,m1,m2,m3,m4⟩:=As k1 dR jw oA (by rw[k2,dz _ _ oA]) (by rw[R9,hn];simp) (by rw[ly];omega) (by rw[ly,RZ,k3,hu0,ly];omega) hP
 have oK:vw y.1=ew (fun _=>none) cS (some (bX [])):=by
  rw[m2,k2]
  funext m
  unfold ew
  split <;> rfl
 obtain⟨hu2,hn2⟩:=h.pt m1 (k:=cS) (c:=bX []) (by rw[lk]) (by rw[oK,lk])
 refine⟨rfl,rfl,m1,rfl,rfl,oK,by simp only;rw[m3,k3],?_,by simp only;rw[hn2,hn];rfl,by simp only;rw[hu2,hu0,ly],by simp only;have:=zL.1;have:=Ee.1;omega,by simp only;have:=zL.2;have:=Ee.2;omega⟩
 simp only
 rw[show y.2.1=1 from by rw[m4],show y.2.2.1=0 from by rw[m4];rfl,show y.2.2.2=0 from by rw[m4];rfl]
 simp
structure HJ(m:Nat)(x:SJ):Prop where
 ha:HA x.1.A
 brk:x.1.brk=false
 room:x.1.A.room=1048576
 nl:x.1.A.names.length≤4
 small:∀n c,vw x.1.A n=some c→c.length≤100000
 fl:∃C,vw x.1.A cS=some C
 jn:∃(n c:Int) (s:Nat),x.2=⟨n,s,c,false⟩∧0≤n∧n≤m+1∧s≤1000*m
theorem HJ.used{m:Nat}{x:SJ}(h:HJ m x):x.1.A.used≤400000:=by
 have h1:=v8 h.ha 100000 h.small
 have h2:=h.nl
 have:x.1.A.names.length*100000≤4*100000:=Nat.mul_le_mul_right _ h2
 omega
theorem Iq{m:Nat}{x y:SJ}{b:List UInt8}{e:Nat}(h:HJ m x)(hm:m<50)(hb:b.length≤900)(hR:iA (jK b) x e y) :
  e=0∧HJ (m+1) y∧y.1.aY=x.1.aY∧(∀nm,nm≠cS→vw y.1.A nm=vw x.1.A nm):=by
 have zD:=h.used
 obtain⟨C,hC⟩:=h.fl
 have hCl:=h.small _ _ hC
 obtain⟨⟨A,aY,brk⟩,jn⟩:=x
 obtain⟨n,c,s,IU,QW,R9,hs⟩:=h.jn
 simp only at hC IU
 subst IU
 have hA:HA A:=h.ha
 have IK:A.room=1048576:=h.room
 have ld:A.names.length≤4:=h.nl
 have zE:∀n c,vw A n=some c→c.length≤100000:=h.small
 simp only at zD
 have pj:=nQ b ah
 obtain⟨e1,x1,⟨BV,yu⟩,c1⟩:=hR
 obtain⟨a0,a1,a2,a3,a4⟩:=Ch (A:=A) (n:=n) (c:=c) (s:=s) (b:=b) hA dR hC ah ah ah
 simp only at BV yu
 rw[a0]at BV
 subst BV
 rcases c1 with⟨bT,_⟩|⟨_,e2,x2,⟨A',x',mC,vC⟩,c2⟩
 ·exact absurd rfl bT
 rw[yu]at mC vC
 simp only at mC vC
 rw[a4]at mC
 have D9:(cT cS A ⟨n,s,c,false⟩ b).2.1.names.length=A.names.length:=hA.pN a1 (fun m=>by
  rw[a2];unfold ew
  split
  ·rename_i hm;rw[hm,hC];rfl
  ·rfl)
 have zF:∀nm c',vw (cT cS A ⟨n,s,c,false⟩ b).2.1 nm=some c'→c'.length≤100000:=fun nm c' kU=>by
  rw[a2]at kU
  unfold ew at kU
  split at kU
  ·injection kU with kU;rw[← kU,eP];omega
  ·exact zE _ _ kU
 have RZ:=v8 a1 100000 zF
 rw[D9]at RZ
 have hu2:A.names.length*100000≤4*100000:=Nat.mul_le_mul_right _ ld
 obtain⟨g0,g1,⟨C',g2,g3⟩,g4,n',c',g5,g6,g7⟩:=B7 a1 dR (by rw[a2,di]) QW ah (by rw[a3];omega) mC
 subst g0
 rcases c2 with⟨bT,_⟩|⟨_,he,hy⟩
 ·exact absurd rfl bT
 rw[eP]at g3
 have qZ:∀nm c',vw A' nm=some c'→c'.length≤100000:=fun nm c' kU=>by
  rw[g2]at kU
  unfold ew at kU
  split at kU
  ·injection kU with kU;rw[← kU];omega
  ·exact zF _ _ kU
 have adI:A'.names.length=A.names.length:=by
  rw[← D9]
  exact a1.pN g1 (fun m=>by
   rw[g2];unfold ew
   split
   ·rename_i hm;rw[hm,a2,di];rfl
   ·rfl)
 rw[he,hy,vC]
 refine⟨rfl,⟨g1,h.brk,by show A'.room=_;rw[g4,a3];exact IK,by show A'.names.length≤4;omega,qZ,⟨C',by show vw A' cS=_;rw[g2,di]⟩,⟨n',c',s+(aR b).length,g5,ah,ah,ah⟩⟩,rfl,fun nm ld=>?_⟩
 show vw A' nm=vw A nm
 rw[g2,dz _ _ ld,a2,dz _ _ ld]
theorem Aw{x:Bl}(h:bO x=1):cQ x=⟨x,1,[0#64],fun _=>none⟩:=by unfold cQ;rw[h];rfl
theorem J6{x:Bl}(hx:eC [7] 16=some x):cM x 0 [7] []=true:=by
 obtain⟨hr,ir,tt,X'⟩:=oS hx
 have fW:=C4 hr ir tt
 have hc:bO x=1:=by unfold bO;rw[if_pos hr,ir,tt];rfl
 have x8:x.root=cU [7]:=by
  unfold eC cI at hx
  rw[if_pos (by decide)]at hx
  simp only[Option.map_some,Option.some.injEq]at hx
  rw[← hx]
  rfl
 unfold cM
 rw[fW,hc]
 simp only[List.length_cons,List.length_nil,Nat.zero_add]
 rw[show decide ((((0+1:Nat)):Int)=1)=true from rfl,Bool.true_and]
 unfold jo
 refine decide_eq_true ⟨ah,rfl,?_⟩
 rw[x8]
 rfl
theorem XR{x:Bl}(hx:eC [7] 16=some x){s t:SJ}{e:Nat}{ts:List Tk}{br:Bool}(h:HJ 0 s)(hb:s.1.aY=[])(hn:s.1.A.names.length≤1)(hv:∀n,n≠cS→vw s.1.A n=none)(hR:FA 1000 x [] s false e ts br t) :
    ∃y:Tk,y.c=cQ x∧ts=[y]∧br=false∧HJ 1 t∧gz t.1.aY x.d=some x∧vw t.1.A (gZ x.d)=some []:=by
  obtain⟨hr,ir,tt,X'⟩:=oS hx
  rcases hR with⟨h1,_⟩|⟨_,h1,_⟩|⟨_,_,L8,⟨e1,x1,⟨hS,Sp⟩,fG⟩,pR⟩
  · cases h1
  · cases h1
  have zD:jF s.1=0:=by
    have hf:rk s.1.A=0:=by
      rw[z7 h.ha]
      unfold qW
      have hz:∀k∈dU s.1.A,qX k ((vw s.1.A k).getD [])=0:=fun k hk=>by
        by_cases hp:k=cS
        · rw[hp,Nx]
        · rw[hv k hp];unfold qX;split <;> rfl
      have:∀l:List ByteArray,(∀k∈l,qX k ((vw s.1.A k).getD [])=0)→(l.map fun k=>qX k ((vw s.1.A k).getD [])).sum=0:=by
        intro l
        induction l with
        | nil=>intro _;rfl
        | cons a l ih =>
          intro hl
          rw[List.map_cons,List.sum_cons,hl a (List.mem_cons_self ..),ih (fun k hk=>hl k (List.mem_cons_of_mem _ hk))]
      exact this _ hz
    unfold jF
    rw[hf,hb];rfl
  have hfS:fS x≠cS:=gG kS x.d
  have hfB:fB x≠cS:=gG kB x.d
  obtain⟨rfl,a1,b1,c1,v1,n1,r1⟩:=Fy h.ha h.brk hr (by rw[hb];rfl) (hv _ hfB) (by rw[zD,ir];decide) (hv _ hfS) ah hS
  rcases fG with⟨bT,_⟩|⟨_,fG⟩
  · exact absurd rfl bT
  obtain⟨n,c,k,hj,pn,AK,wo⟩:=h.jn
  obtain⟨C,hC⟩:=h.fl
  have h1:HJ 0 x1:=⟨a1,b1,by rw[r1];exact h.room,ah,fun n c hc=>by
    rw[v1]at hc
    split at hc
    · injection hc with hc;rw[← hc];simp
    · exact h.small _ _ hc,⟨C,by rw[v1,if_neg (fun e=>hfS e.symm)];exact hC⟩,n,c,k,by rw[Sp];exact hj,pn,AK,wo⟩
  have iD:(bR x).length≤900:=by
    have:=gQ 1 x.d (gM x) (by simp[gM]) (kq x (by rw[ir];decide) ah)
    unfold bR;omega
  obtain⟨rfl,h2,h3,h4⟩:=Iq h1 ah iD fG
  rcases pR with⟨bT,_⟩|⟨_,y,hy,rfl⟩
  · exact absurd rfl bT
  refine⟨y,hy,rfl,L8,h2,?_,?_⟩
  · rw[h3,c1,hb];simp[gz]
  · rw[← abf,h4 _ hfS,v1];exact if_pos rfl
theorem XQ{x:Bl}(hx:eC [7] 16=some x){s t:SJ}{e:Nat}{y:Tk}{ts:List Tk}{br:Bool}(h:HJ 1 s)(hy:y.c=cQ x)(hb:gz s.1.aY x.d=some x)(hv:vw s.1.A (gZ x.d)=some [])(hR:HE x 0 [7] [] [y] s false e ts br t) :
    e=0∧Nj (gy ts x) = .tuple #[.int .i64 0,.int .i64 0]∧∃z:Tk,ts=[z]∧z.n=1∧z.ws.length=1:=by
  obtain⟨hr,ir,tt,X'⟩:=oS hx
  have fW:=C4 hr ir tt
  have hc:bO x=1:=by unfold bO;rw[if_pos hr,ir,tt];rfl
  obtain⟨yb,sb,mb,yx,yn,yws,ypf⟩:=y
  rw[Aw hc]at hy
  unfold Tk.c at hy
  simp only[TC.mk.injEq]at hy
  obtain⟨rfl,rfl,rfl,rfl⟩:=hy
  have yk:gy [(⟨yb,sb,mb,yx,1,[0#64],fun _=>none⟩:Tk)] yx=some ⟨yb,sb,mb,yx,1,[0#64],fun _=>none⟩:=by
    unfold gy;simp
  have iZ:cE [0#64] 1 0=false:=by decide
  rcases hR with⟨h1,_⟩|⟨_,h1,_⟩|⟨_,k,z,hz,hk,hzx,hc⟩
  · cases h1
  · rw[yk]at h1;cases h1
  rw[yk]at hz
  injection hz with hz
  subst hz
  simp only at hc
  rcases hc with⟨h1,_⟩|⟨_,h1,_⟩|⟨_,_,h1,_⟩|⟨_,_,_,L8,⟨e1,x1,⟨hS,Sp⟩,fG⟩,pR⟩
  · exfalso;omega
  · rw[iZ]at h1;cases h1
  · rw[J6 hx]at h1;cases h1
  have zD:=h.used
  have IK:=h.room
  have hfS:fS yx≠cS:=gG kS yx.d
  obtain⟨rfl,a1,b1,c1,v1,n1,r1⟩:=HD h.ha h.brk hb fW rfl hv (by simp) (by simp;omega) hS
  rcases fG with⟨bT,_⟩|⟨_,e2,x2,⟨hY,hY2⟩,fG⟩
  · exact absurd rfl bT
  have lS:vw x1.1.A (fS yx)=some [7]:=by rw[v1,if_pos rfl];rfl
  unfold j8 at hY
  have ho:gz x1.1.aY yx.d=some yx:=by rw[c1];exact hb
  rw[Kh b1,if_pos ho,if_neg ah]at hY
  obtain⟨B,⟨e3,A1,h1,c2⟩,sg⟩:=hY
  unfold eX at h1
  rw[show isName (fS yx)=true from gq yx]at h1
  obtain⟨rfl,g1,g2,g3⟩:=a1.xe lS h1
  rcases c2 with⟨bT,_⟩|⟨_,rfl,rfl⟩
  · exact absurd rfl bT
  rcases fG with⟨bT,_⟩|⟨_,fG⟩
  · exact absurd rfl bT
  obtain⟨n,c,k',hj,pn,AK,wo⟩:=h.jn
  obtain⟨C,hC⟩:=h.fl
  have D9:B.names.length=s.1.A.names.length:=by
    rw[← n1]
    exact a1.pN g1 (fun m=>by rw[g2])
  have h2:HJ 1 x2:=by
    have e1:x2.1.A=B:=by rw[sg]
    have e2:x2.1.brk=false:=by rw[sg];simp[b1]
    exact⟨by rw[e1];exact g1,e2,by rw[e1,g3,r1];exact IK,by rw[e1,D9];exact h.nl,fun n c hc=>by
      rw[e1,g2,v1]at hc
      split at hc
      · injection hc with hc;rw[← hc];simp[eP]
      · exact h.small _ _ hc,⟨C,by rw[e1,g2,v1,if_neg (fun e=>hfS e.symm)];exact hC⟩,n,c,k',by rw[hY2,Sp];exact hj,pn,AK,wo⟩
  have iD:(bF yx.d (0:Int).toNat []).length≤900:=by
    have:=gQ 2 yx.d (eo 0 []) (by simp[eo]) (kh 0 ah [])
    unfold bF
    unfold eo at this
    simp only[Int.toNat_zero]
    omega
  obtain⟨rfl,-,-,-⟩:=Iq h2 ah iD fG
  rcases pR with⟨bT,_⟩|⟨_,rfl⟩
  · exact absurd rfl bT
  refine⟨rfl,?_⟩
  refine⟨?_,?_⟩
  rotate_left
  · have Se:k=0:=by
      rcases Nat.eq_zero_or_pos k with h|h
      · exact h
      · rw[List.getElem?_eq_none (by simp;omega)]at hk;cases hk
    subst Se
    exact⟨_,rfl,rfl,by simp[Tk.put,jI]⟩
  have Se:k=0:=by
    rcases Nat.eq_zero_or_pos k with h|h
    · exact h
    · rw[List.getElem?_eq_none (by simp;omega)]at hk;cases hk
  subst Se
  unfold gy
  simp only[List.set_cons_zero,Tk.put,List.find?_cons,decide_true]
  have h9:mE (jI [0#64] (0:Int).toNat true)=1:=by decide +kernel
  unfold Nj
  simp only[h9]
  rfl
theorem L1{q:Int}{x:Bl}{ts dW:List Tk}{s t:SJ}{br hJ:Bool}{e:Nat}(h:FA q x ts s br e dW hJ t):SJg 7 s t:=by
 rcases h with⟨_,_,_,_,rfl⟩|⟨_,_,_,_,_,rfl⟩|⟨_,_,_,⟨e1,x1,⟨h1,yu⟩,c1⟩,_⟩
 ·exact⟨ah,ah⟩
 ·exact⟨ah,ah⟩
 have g1:=gJ h1
 obtain⟨a,b⟩:=g1
 rcases c1 with⟨_,_,rfl⟩|⟨_,fG⟩
 ·exact⟨ah,ah⟩
 ·have g2:=Ay fG
  obtain⟨c,d⟩:=g2
  exact⟨ah,ah⟩
theorem I9{ts:List Tk}(h:gh ts=[]):ts=[]:=by
 unfold gh at h
 exact List.map_eq_nil_iff.1 h
theorem Ex{A:Ab}(h:HA A)(hn:A.names=[])(hw:A.writes.length≤700000000):∀B,qj A 0 B→B.writes.length≤700000000∧(fH B cS).length≤900000∧(∀x∈fH B cS,x.length≤1000000)∧((fH B cS).foldl dm []).length≤100:=by
 intro B hO
 obtain⟨_,rfl⟩:=y8 hn hO
 have hf:fH B cS=[]:=Ha h (by rw[Bk hn])
 rw[hf]
 exact⟨hw,by simp,by simp,by simp⟩
attribute [local irreducible] J K aD Ends ag aB aM bN aZ aP aV bh bW Sha.chunks Sha.chunk Sha.rounds Sha.sched dM ct GI cU aC cd aU
set_option maxRecDepth 20000 in
theorem Lh(X:HP)(hK:oe X):aD Tryz.prog 6 [] [X] (fun r H=>r = .bool true∧H=[X]):=by
 obtain⟨x,hx⟩:=ON
 obtain⟨hr,ir,tt,X'⟩:=oS hx
 have adA:x.size=1:=ir
 have FL:bO x=1:=by unfold bO;rw[if_pos hr,ir,tt];rfl
 refine aD.enter Tryz.func6 ak rfl Tryz.ntmps6 zr zr ?_
 intro G F R hE
 refine go ?_
 ((refine ai zr zr zr zr (HF 1048576 ah ah) ad ?_ bG))
 rintro _ _⟨bd,rfl,rfl⟩
 refine go ?_
 refine bC zr zr bz ?_
 intro wb
 refine go ?_
 ((refine ai zr zr zr zr (qw X hK wb bd (.pointer none) (.pointer none) 1000 ah (Ab.new 1048576) rfl (by show 1≤_;omega) (Ex (HA.new _) rfl (by show 0≤_;omega))) ad ?_ bG))
 rintro _ _⟨e0,t0,Ja,hW,rfl,hz,-⟩
 obtain⟨rfl,rfl,w1,w2,w3,w4,w5,w6,w7,w8,w9,w10⟩:=A9 (HA.new _) rfl (by show 64≤1048576;omega) hW
 obtain⟨bs,mb,tb,jb,tv,ts,zv,rfl⟩:=hz rfl
 have pR:=I9 zv
 subst pR
 have w9':t0.1.A.aq.length≤1+14:=w9
 have ady:t0.1.A.writes.length≤0+14:=w10
 have acj:∀n c,vw t0.1.A n=some c→c.length≤100000:=fun n c hc=>by
  rw[w4]at hc
  unfold ew at hc
  split at hc
  ·injection hc with hc;rw[← hc,ly];omega
  ·cases hc
 have hJ0:HJ 0 t0:=⟨w1,w3,w5,ah,acj,⟨_,by rw[w4,di]⟩,1,0,0,w6,ah,ah,ah⟩
 unfold dr
 refine go ?_
 refine al (cs:=bV [7]) zr zr zr zr zr zr zr zr zr bz ?_
 intro row
 have iD:=zm _ _ [7] (Io row 7) (by decide) 16
 rw[hx]at iD
 ((refine go ?_;(refine ai zr zr zr zr (iD) ad ?_ bG)))
 rintro _ _⟨rfl,rfl⟩
 unfold eg
 refine go ?_
 refine aw zr zr zr bz ?_
 intro b6
 have sk:=mq tb bs jb bd tv 1000 ah mb [] false t0 x (by simp) ah ah (by rw[w2];exact⟨by simp,by simp⟩) ah ah 100 ah (fun t hS=>by
  have hg:=gJ hS.1
  obtain⟨n,c,s,hj,pn,AK,wo⟩:=hJ0.jn
  refine⟨?_,?_,?_,?_⟩
  ·rw[hS.2,hj];exact pn
  ·rw[hS.2,hj];exact⟨by simp only;omega,by simp only;omega⟩
  ·have:=hg.1;omega
  ·have:=hg.2;omega)
 unfold dr eg at sk
 refine go ?_
 refine aF (fun w=>Sat G w ([ag wb (cl [ptr bd,ptr bs,ptr tb] 32),ag b6 (cl (bD x) 37)])) (.st 0 (.st 1 (.st 2 (.st 3 (.st 4 (.act 5 .nil)))))) rfl ak ak ak ei ?_
 refine go ?_
 refine bL (U:=aN) (l:=bD x) 1 zr zr zr zr zr zr ?_
 refine go ?_
 ((refine ai zr zr zr zr (sk) ad ?_ bG))
 rintro _ _⟨e1,ts1,X7,br1,t1,rfl,rfl,hB⟩
 obtain⟨y,hy,rfl,rfl,hJ1,nK,lS⟩:=XR hx hJ0 w2 ah (fun n hn=>by rw[w4,dz _ _ hn]) hB
 have hgB:=L1 hB
 have adS:=hgB.1
 have adR:=hgB.2
 refine go ?_
 obtain⟨Y,hY⟩:∃Y,Y=Sep [X,ag row (cl (bV [7]) 5)]:=⟨_,rfl⟩
 have hKY:oe Y:=hY ▸ hK.mono (aW (i:=0) rfl)
 have hbY:eJ Y (.slice (some ⟨row,0,none⟩) 1 1) [7]:=hY ▸ (Io row 7).mono (aW (i:=1) rfl)
 have IE:=hy
 rw[Aw FL]at IE
 have GN:y.n=1:=congrArg TC.n IE
 have Kt:y.ws=[0#64]:=congrArg TC.ws IE
 have wm:=E3 Y hKY tb bs jb bd X7 1000 mb [y] false t1 x 0 ah _ [7] hbY (by simp) (.slice none 0 0) [] ⟨Vw.nil Y none 0,none,0,rfl,Nat.le_refl _⟩ (by simp) (fun z hz=>by rw[List.mem_singleton.1 hz,GN];omega) (fun z hz=>by rw[List.mem_singleton.1 hz,GN,Kt];simp) ah ah 100 ah (fun t u h1 h2=>by
  have g1:=nX h1.1
  have g2:=sw h2.1
  have g11:=g1.1
  have g12:=g1.2
  have g21:=g2.1
  have g22:=g2.2
  obtain⟨n,c,s,hj,pn,AK,wo⟩:=hJ1.jn
  refine⟨?_,?_,ah,ah⟩
  ·rw[h2.2,h1.2,hj];exact pn
  ·rw[h2.2,h1.2,hj];exact⟨by simp only;omega,by simp only;omega⟩)
 unfold dr eg at wm
 refine aj (ao.trans (H2:=X::ag row (cl (bV [7]) 5)::ag wb (cl [ptr bd,ptr bs,ptr tb] 32)::ag b6 (cl (bD x) 37)::ag tb (cl [ptr bs,ptr jb,X7,.bool false] 88)::aB 90 1 X7 [y].length ([y].map cm)::aU [y]::cd bs bd jb 1000 mb [] t1::F) ad (ao.bP [X,ag row (cl (bV [7]) 5)] _)) ?_
 rw[← hY]
 refine aF (fun w=>Sat G w ([ag wb (cl [ptr bd,ptr bs,ptr tb] 32),ag b6 (cl (bD x) 37)])) (.st 0 (.st 1 (.st 2 (.st 3 (.st 4 (.st 5 (.act 6 (.st 7 .nil)))))))) rfl ak ak ak ei ?_
 refine go ?_
 refine bL (U:=aN) (l:=bD x) 1 zr zr zr zr zr zr ?_
 refine go ?_
 ((refine ai rfl rfl rfl rfl (wm) ad ?_ (fun _ _ w hp hw=>by obtain⟨_,_,_,_,rfl,rfl,_⟩:=hp;exact hw.cy ad)))
 rintro _ _⟨e2,ts2,br2,t2,rfl,rfl,hP⟩
 obtain⟨rfl,R',z,rfl,hzn,hzw⟩:=XQ hx hJ1 hy nK lS hP
 have hmi:=E5 tb bs jb X7 br2 [z] x (by simp) (fun w hw=>by rw[List.mem_singleton.1 hw,hzn];omega) (fun w hw=>by rw[List.mem_singleton.1 hw,hzw];omega)
 rw[R']at hmi
 unfold dr eg at hmi
 refine go ?_
 refine aF (fun w=>Sat G w ([ag wb (cl [ptr bd,ptr bs,ptr tb] 32),ag b6 (cl (bD x) 37)])) (.st 0 (.st 1 (.st 2 (.st 3 (.st 4 (.act 5 (.st 6 (.st 7 (.st 8 (.st 9 (.st 10 .nil))))))))))) rfl ak ak ak ei ?_
 refine go ?_
 refine bL (U:=aN) (l:=bD x) 1 zr zr zr zr zr zr ?_
 refine go ?_
 ((refine ai rfl rfl rfl rfl (hmi) ad ?_ jg))
 rintro _ _⟨rfl,rfl⟩
 refine go ?_
 refine aj (H':=Y::F) ad ?_
 rw[hY]
 refine aj (ao.cB [X,ag row (cl (bV [7]) 5)] _) ?_
 ((refine ae hE Tryz.func6 rfl _ rfl ⟨rfl,rfl⟩ ad))
end Go.Proofs.YtedjnjkijiddlaaGreatDoor
namespace Go.Proofs.YtedjnjkijiddlaaGreatDoor
open Go Go.SL
theorem CV:∀(l:List (Int × List UInt8)) (f:Nat),(∀x∈l,1≤x.1∧x.1≤63∧x.2.length≤100000)→(ek l).length≤f→py f (ek l)=l
 | [],f,_,_=>by cases f <;> rfl
 | (n,b)::l,f,h,hf=>by
  obtain⟨h1,h2,h3⟩:=h (n,b) (List.mem_cons_self ..)
  simp only at h1 h2 h3
  have e:ek ((n,b)::l)=UInt8.ofNat n.toNat::(uv b.length++(b++ek l)):=by simp[ek,lR]
  have hc:=I7 (n:=b.length) ah (b++ek l)
  rw[e]at hf ⊢
  cases f with
  | zero=>simp at hf
  | succ f =>
   rw[List.length_cons,List.length_append,List.length_append]at hf
   unfold py
   simp only
   rw[hc]
   simp only
   rw[if_pos ⟨trivial,by rw[List.length_append];omega⟩,List.take_left,List.drop_left]
   rw[CV l f (fun x hx=>h x (List.mem_cons_of_mem _ hx)) ah]
   have:((UInt8.ofNat n.toNat).toNat:Int)=n:=by simp only[UInt8.toNat_ofNat'];omega
   rw[this]
theorem Dr:∀(i:Int) (l:List (List UInt8)) (z:Int × List UInt8),z∈my i l→i≤z.1∧z.1<i+l.length
 | i,[],z,h=>by cases h
 | i,y::l,z,h=>by
  rw[List.length_cons]
  rcases List.mem_cons.1 h with rfl|h
  ·exact⟨Int.le_refl _,by simp only;omega⟩
  ·have:=Dr (i+1) l z h
   omega
theorem Ap:∀(i:Int) (l:List (List UInt8)) (a:Int × List UInt8),a.1+1=i→((a::my i l).getLast?.map (·.1))=some (i-1+l.length)
 | i,[],a,h=>by simp[my];omega
 | i,y::l,a,h=>by
  rw[my,List.getLast?_cons_cons,Ap (i+1) l (i,y) rfl,List.length_cons]
  congr 1
  omega
theorem Dq:∀(i:Int) (l:List (List UInt8)),(my i l).map (·.2)=l
 | i,[]=>rfl
 | i,y::l=>by rw[my,List.map_cons,Dq (i+1) l]
theorem I3(d:Dg):tJ d.bs=d:=by unfold tJ;rw[dif_pos d.len]
theorem r'(k:UInt8)(d:Dg)(ls:List (List UInt8))(hl:ls.length≤20)(hx:∀x∈ls,x.length≤32):iO (jA k d ls)=some (k,d,ls):=by
 have hlen:=gQ k d ls hl hx
 have lC:∀x∈sX k d ls,1≤x.1∧x.1≤63∧x.2.length≤100000:=fun x NL=>by
  unfold sX at NL
  rcases List.mem_cons.1 NL with rfl|NL
  ·exact⟨by simp only;omega,by simp only;omega,by simp⟩
  rcases List.mem_cons.1 NL with rfl|NL
  ·exact⟨by simp only;omega,by simp only;omega,by have:=d.len;simp only;omega⟩
  ·have h1:=Dr 3 ls x NL
   have h2:=hx _ (xF 3 ls x NL)
   exact⟨ah,ah,ah⟩
 have ht:pg (jA k d ls)=some (sX k d ls):=by
  unfold pg
  have h1:py (jA k d ls).length (jA k d ls)=sX k d ls:=CV _ _ lC (Nat.le_refl _)
  rw[if_neg ah,h1,if_pos]
  unfold sX
  simp only[fk]
  rw[uB 3 ls 2 ah ah]
  rfl
 unfold iO
 rw[ht]
 unfold sX
 simp only
 have hg:(((1,[k])::(2,d.bs)::my 3 ls:List (Int × List UInt8)).getLast?.map (·.1))=some ((2+(my 3 ls).length:Nat):Int):=by
  rw[List.getLast?_cons_cons,Ap 3 ls (2,d.bs) rfl,sW]
  congr 1
  all_goals omega
 rw[if_pos ⟨hg,rfl,d.len⟩,I3,Dq]
 rfl
theorem BL{n:Nat}(h:n≤1048576):pJ (uv n)=some n:=by
 unfold pJ
 rw[um ah]
 exact if_pos h
theorem Eo(d:Dg):gx d.bs=some d:=by unfold gx;rw[if_pos d.len,I3]
theorem yp:∀l:List Dg,mP (l.map Dg.bs)=some l
 | []=>rfl
 | d::l=>by
  rw[List.map_cons]
  unfold mP
  rw[Eo,yp l]
theorem Mr(cs:List TC)(d:Dg):dm cs (EB d)=Dl cs d:=CY (r' 3 d [] (by simp) (by simp))
theorem wZ(cs:List TC){x:Bl}(hr:bo x=true):dm cs (bR x)=Dl cs x.d++[cQ x]:=by
 have hb:=df hr
 have h1:iO (bR x)=some (1,x.d,gM x):=r' 1 x.d (gM x) (by simp[gM]) (kq x ah ah)
 unfold gM at h1
 rw[vd h1,BL ah,BL ah,Eo]
 simp only
 have:(⟨x.d,((x.size.toNat:Nat):Int),((x.piece.toNat:Nat):Int),x.root⟩:Bl)=x:=by
  cases x
  simp only[Bl.mk.injEq,true_and,and_true]at hb ⊢
  omega
 rw[this,if_pos hr]
theorem wY(cs:List TC)(d:Dg){i:Nat}(hi:i≤1048576){p:List Dg}(hp:p.length≤10):dm cs (bF d i p)=cs.map fun y=>if y.x.d=d∧i<y.n∧p.length=eB y.n i then y.put i p else y:=by
 have h1:iO (bF d i p)=some (2,d,eo i p):=r' 2 d (eo i p) (by simp[eo];omega) (kh i ah p)
 rw[vb h1]
 unfold lP
 rw[BL hi,yp]
structure P1(c c':TC):Prop where
 x:c.x=c'.x
 n:c.n=c'.n
 w:c.n≤c.ws.length*64
 w':c'.n≤c'.ws.length*64
 b:∀i,cE c.ws c.n i=cE c'.ws c'.n i
 p:∀i,cE c.ws c.n i=true→c.pf i=c'.pf i
theorem P1.refl{c:TC}(h:c.n≤c.ws.length*64):P1 c c:=⟨rfl,rfl,h,h,fun _=>rfl,fun _ _=>rfl⟩
theorem iI{ws:List jS}{n i:Nat}(hw:n≤ws.length*64)(hi:i<n)(j:Int):cE (jI ws i true) n j=if j=(i:Int)then true else cE ws n j:=by
 by_cases pV:0≤j∧j<(n:Int)
 ·obtain⟨j',rfl⟩:∃j':Nat,j=j':=⟨j.toNat,ah⟩
  rw[Ou hw hi ah]
  by_cases h:j'=i
  ·rw[if_pos h,if_pos ah]
  ·rw[if_neg h,if_neg ah]
 ·rw[pZ ah,pZ ah,if_neg ah]
theorem P1.put{c c':TC}(h:P1 c c'){i:Nat}(hi:i<c.n)(l:List Dg):P1 (c.put i l) (c'.put i l):=by
 have gw:i<c'.n:=h.n ▸ hi
 refine⟨h.x,h.n,by unfold TC.put;simp only[iq];exact h.w,by unfold TC.put;simp only[iq];exact h.w',fun j=>?_,fun j hj=>?_⟩
 ·unfold TC.put
  simp only
  rw[iI h.w hi,iI h.w' gw,h.b j]
 ·unfold TC.put at hj ⊢
  simp only at hj ⊢
  rw[iI h.w hi]at hj
  by_cases he:j=(i:Int)
  ·rw[if_pos he,if_pos he]
  ·rw[if_neg he]at hj
   rw[if_neg he,if_neg he]
   exact h.p j hj
abbrev CA(cs j6:List TC):Prop:=eT P1 cs j6
theorem CA.rm{cs j6:List TC}(h:CA cs j6)(d:Dg):CA (Dl cs d) (Dl j6 d):=eT.filter h fun x y zC=>by rw[zC.x]
theorem BX(x:Bl):(cQ x).n≤(cQ x).ws.length*64:=by
 unfold cQ
 simp only[List.length_replicate]
 omega
theorem Dj{cs:List TC}{d:Dg}(h:∀c∈cs,c.x.d≠d):Dl cs d=cs:=by
 unfold Dl
 exact List.filter_eq_self.2 fun c hc=>by simpa using h c hc
theorem CA.begin{cs j6:List TC}(h:CA cs j6){x:Bl}(iZ:∀c∈j6,c.x.d≠x.d):CA (Dl cs x.d++[cQ x]) (j6++[cQ x]):=by
 rw[Dj (fun c hc=>by
  obtain⟨i,hi⟩:=List.mem_iff_getElem?.1 hc
  obtain⟨y,hy,hcy⟩:=h.left hi
  rw[hcy.x]
  exact iZ y (List.mem_of_getElem? hy))]
 exact h.snoc (P1.refl (BX x))
theorem CA.piece{cs j6:List TC}(h:CA cs j6)(hn:(j6.map fun c=>c.x.d).Nodup){k:Nat}{c':TC}(hk:j6[k]?=some c'){i:Nat}(hi:i<c'.n){p:List Dg}(hp:p.length=eB c'.n i) :
  CA (cs.map fun y=>if y.x.d=c'.x.d∧i<y.n∧p.length=eB y.n i then y.put i p else y) (j6.set k (c'.put i p)):=by
 refine⟨by rw[List.length_map,List.length_set];exact h.1,fun j a b ha hb=>?_⟩
 rw[List.getElem?_map]at ha
 obtain⟨a0,ha0,rfl⟩:=Option.map_eq_some_iff.1 ha
 obtain⟨b0,rD,mD⟩:=h.left ha0
 by_cases AJ:k=j
 ·subst AJ
  rw[hk]at rD
  injection rD with rD
  subst rD
  rw[List.getElem?_set_self ((List.getElem?_eq_some_iff.1 hk).1)]at hb
  injection hb with hb
  subst hb
  rw[if_pos ⟨by rw[mD.x],by rw[mD.n];exact hi,by rw[mD.n];exact hp⟩]
  exact mD.put (by rw[mD.n];exact hi) p
 ·rw[List.getElem?_set_ne AJ,rD]at hb
  injection hb with hb
  subst hb
  rw[if_neg (fun hc=>AJ ?_)]
  ·exact mD
  ·have e1:(j6.map fun c=>c.x.d)[j]?=some b0.x.d:=by rw[List.getElem?_map,rD];rfl
   have e2:(j6.map fun c=>c.x.d)[k]?=some c'.x.d:=by rw[List.getElem?_map,hk];rfl
   exact((List.getElem?_inj ((List.getElem?_eq_some_iff.1 e2).1) hn).1 (by rw[e1,e2,← mD.x,hc.1]))
def jB(c:TC):List Nat:=(List.range c.n).filter fun i=>cE c.ws c.n (i:Int)
def o6(c:TC):List (List UInt8):=bR c.x::(jB c).map fun i=>bF c.x.d i ((c.pf i).getD [])
theorem D8{s:eU}{c:TC}(h:∀i:Nat,i<c.n→cE c.ws c.n (i:Int)=true→(dZ s c.x i).2=0∧cM c.x i (dZ s c.x i).1 ((c.pf i).getD [])=true):∀k,k≤c.n →
  iu s c k=(c,bR c.x::((List.range k).filter fun i:Nat=>cE c.ws c.n (i:Int)).map fun i:Nat=>bF c.x.d i ((c.pf i).getD []))
 | 0,_=>rfl
 | k+1,hk=>by
  rw[lU,D8 h k ah,List.range_succ,List.filter_append,List.map_append]
  unfold kM
  by_cases hh:cE c.ws c.n (k:Int)=true
  ·obtain⟨h1,h2⟩:=h k ah hh
   simp only
   rw[if_pos hh,if_neg (by rw[h1,h2];simp)]
   simp[hh]
  ·simp only
   rw[if_neg hh]
   simp[hh]
def lO(c z:TC)(l:List Nat):TC:=l.foldl (fun z i=>z.put i ((c.pf i).getD [])) z
theorem Ij(c:TC):∀(l:List Nat) (z:TC),(lO c z l).x=z.x∧(lO c z l).n=z.n∧(lO c z l).ws.length=z.ws.length
 | [],z=>⟨rfl,rfl,rfl⟩
 | i::l,z=>by
  obtain⟨h1,h2,h3⟩:=Ij c l (z.put i ((c.pf i).getD []))
  exact⟨h1,h2,h3.trans (iq _ _ _)⟩
theorem Ar(c:TC):∀(l:List Nat) (z:TC),z.n≤z.ws.length*64→(∀i∈l,i<z.n)→∀j:Int,cE (lO c z l).ws (lO c z l).n j=(decide (∃i∈l,j=(i:Int)) || cE z.ws z.n j)
 | [],z,_,_,j=>by simp[lO]
 | i::l,z,hw,hl,j=>by
  have hi:=hl i (List.mem_cons_self ..)
  have ih:=Ar c l (z.put i ((c.pf i).getD [])) (by unfold TC.put;simp only[iq];exact hw) (fun a ha=>hl a (List.mem_cons_of_mem _ ha)) j
  show cE (lO c (z.put i ((c.pf i).getD [])) l).ws (lO c (z.put i ((c.pf i).getD [])) l).n j=_
  rw[ih]
  unfold TC.put
  simp only
  rw[iI hw hi]
  by_cases he:j=(i:Int)
  ·simp[he]
  ·simp[he]
theorem Dw(c:TC):∀(l:List Nat) (z:TC) (j:Nat),j∈l→(lO c z l).pf j=some ((c.pf j).getD [])
 | [],z,j,h=>by cases h
 | i::l,z,j,h=>by
  by_cases yg:j∈l
  ·exact Dw c l _ j yg
  ·rcases List.mem_cons.1 h with rfl|h
   ·have:∀(l:List Nat) (z:TC),j ∉ l→(lO c z l).pf j=z.pf j:=by
     intro l
     induction l with
     | nil=>intro z _;rfl
     | cons a l ih =>
      intro z hn
      rw[List.mem_cons,not_or]at hn
      show(lO c (z.put a ((c.pf a).getD [])) l).pf j=_
      rw[ih _ hn.2]
      unfold TC.put
      simp only
      rw[if_neg (fun e=>hn.1 ah)]
    show(lO c (z.put j ((c.pf j).getD [])) l).pf j=_
    rw[this l _ yg]
    unfold TC.put
    simp
   ·exact absurd h yg
theorem vm{cs:List TC}{c:TC}(iZ:∀y∈cs,y.x.d≠c.x.d)(pT:∀i:Nat,i∈jB c→((c.pf i).getD []).length=eB c.n i∧((c.pf i).getD []).length≤10)(hc:c.n≤1048576):∀(l:List Nat) (z:TC),(∀i∈l,i∈jB c)→z.x=c.x→z.n=c.n →
  (l.map fun i=>bF c.x.d i ((c.pf i).getD [])).foldl dm (cs++[z])=cs++[lO c z l]
 | [],z,_,_,_=>rfl
 | i::l,z,hl,hx,hn=>by
  have hi:=hl i (List.mem_cons_self ..)
  have pV:i<c.n:=List.mem_range.1 (List.mem_filter.1 hi).1
  obtain⟨h1,h2⟩:=pT i hi
  rw[List.map_cons,List.foldl_cons,wY _ _ ah h2,List.map_append]
  have e1:cs.map (fun y=>if y.x.d=c.x.d∧i<y.n∧((c.pf i).getD []).length=eB y.n i then y.put i ((c.pf i).getD [])else y)=cs:=by
   conv=>rhs;rw[← List.map_id cs]
   refine List.map_congr_left fun y hy=>?_
   rw[if_neg (fun e=>iZ y hy e.1)]
   rfl
  rw[e1,List.map_cons,List.map_nil,if_pos ⟨by rw[hx],by rw[hn];exact pV,by rw[hn];exact h1⟩]
  exact vm iZ pT hc l (z.put i ((c.pf i).getD [])) (fun a ha=>hl a (List.mem_cons_of_mem _ ha)) hx hn
theorem JX{cs:List TC}{c:TC}(iZ:∀y∈cs,y.x.d≠c.x.d)(hr:bo c.x=true)(hn:c.n=(bO c.x).toNat)(hw:c.n≤c.ws.length*64)(hc:c.n≤1048576)(hp:∀i:Nat,cE c.ws c.n (i:Int)=true→∃p,c.pf i=some p∧p.length=eB c.n i∧p.length≤10) :
  ∃c',(o6 c).foldl dm cs=cs++[c']∧P1 c' c:=by
 have fg:∀i:Nat,i∈jB c→i<c.n∧cE c.ws c.n (i:Int)=true:=fun i hi=>⟨List.mem_range.1 (List.mem_filter.1 hi).1,(List.mem_filter.1 hi).2⟩
 unfold o6
 rw[List.foldl_cons,wZ _ hr,Dj iZ]
 have KM:(cQ c.x).n=c.n:=hn.symm
 rw[vm iZ (fun i hi=>by
  obtain⟨p,h1,h2,h3⟩:=hp i (fg i hi).2
  rw[h1]
  exact⟨h2,h3⟩) hc (jB c) (cQ c.x) (fun i hi=>hi) rfl KM]
 obtain⟨e1,e2,e3⟩:=Ij c (jB c) (cQ c.x)
 have uJ:=Ar c (jB c) (cQ c.x) (BX c.x) (fun i hi=>by rw[KM];exact(fg i hi).1)
 have wu:∀j,cE (cQ c.x).ws (cQ c.x).n j=false:=fun j=>tz _ _ _
 have hb:∀j,cE (lO c (cQ c.x) (jB c)).ws (lO c (cQ c.x) (jB c)).n j=cE c.ws c.n j:=fun j=>by
  rw[uJ j,wu j,Bool.or_false]
  by_cases pV:0≤j∧j<(c.n:Int)
  ·obtain⟨j',rfl⟩:∃j':Nat,j=j':=⟨j.toNat,ah⟩
   cases hh:cE c.ws c.n (j':Int)with
   | true=>exact decide_eq_true ⟨j',List.mem_filter.2 ⟨List.mem_range.2 ah,hh⟩,rfl⟩
   | false =>
    refine decide_eq_false ?_
    rintro⟨i,hi,AL⟩
    have:=(fg i hi).2
    rw[← AL,hh]at this
    cases this
  ·rw[pZ ah]
   refine decide_eq_false ?_
   rintro⟨i,hi,AL⟩
   have:=(fg i hi).1
   omega
 refine⟨_,rfl,e1,e2.trans KM,by rw[e2,e3];exact BX c.x,hw,hb,fun j hj=>?_⟩
 rw[hb]at hj
 by_cases pV:0≤j∧j<(c.n:Int)
 ·obtain⟨j',rfl⟩:∃j':Nat,j=j':=⟨j.toNat,ah⟩
  obtain⟨p,h1,_⟩:=hp j' hj
  rw[Dw c (jB c) (cQ c.x) j' (List.mem_filter.2 ⟨List.mem_range.2 ah,hj⟩),h1]
  rfl
 ·rw[pZ ah]at hj;cases hj
def sI(c:TC):Prop:=c.ws.length=(c.n+63)/64∧∀j,c.n≤j→(c.ws.getD (j/64) 0#64).getLsbD (j%64)=false
theorem sI.fresh(x:Bl):sI (cQ x):=by
 unfold sI cQ
 refine⟨by simp only[List.length_replicate],fun j _=>?_⟩
 simp only
 rw[List.getD_eq_getElem?_getD,List.getElem?_replicate]
 split <;> simp
theorem sI.put{c:TC}(h:sI c){i:Nat}(hi:i<c.n)(l:List Dg):sI (c.put i l):=by
 obtain⟨h1,h2⟩:=h
 unfold sI TC.put
 simp only[iq]
 refine⟨h1,fun j hj=>?_⟩
 have kY:i/64<c.ws.length:=by omega
 unfold jI
 rw[if_pos rfl]
 by_cases he:j/64=i/64
 ·rw[he,List.getD_eq_getElem?_getD,List.getElem?_set_self kY,Option.getD_some,BitVec.getLsbD_or,Ce _ _ ah ah]
  have:=h2 j hj
  rw[he]at this
  rw[this,decide_eq_false ah]
  rfl
 ·rw[List.getD_eq_getElem?_getD,List.getElem?_set_ne (fun e=>he e.symm),← List.getD_eq_getElem?_getD]
  exact h2 j hj
theorem sI.tell{cs:List TC}(h:∀c∈cs,sI c)(b:List UInt8):∀c∈dm cs b,sI c:=by
 have hp:∀d m l,∀c∈lP cs d m l,sI c:=fun d m l c hc=>by
  unfold lP at hc
  split at hc
  ·obtain⟨y,hy,rfl⟩:=List.mem_map.1 hc
   split
   ·rename_i hh
    exact(h y hy).put hh.2.1 _
   ·exact h y hy
  ·exact h c hc
 have hr:∀d,∀c∈Dl cs d,sI c:=fun d c hc=>h c (List.mem_filter.1 hc).1
 unfold dm
 split
 ·exact h
 ·split
  ·exact hr _
  ·split
   ·split
    ·split
     ·split
      ·intro c hc
       rcases List.mem_append.1 hc with hc|hc
       ·exact hr _ c hc
       ·rw[List.mem_singleton.1 hc];exact sI.fresh _
      ·exact h
     ·exact h
    ·split
     ·exact hp _ _ _
     ·exact h
   ·split
    ·exact hp _ _ _
    ·exact h
   ·exact h
theorem sI.told:∀(ls:List (List UInt8)) (cs:List TC),(∀c∈cs,sI c)→∀c∈ls.foldl dm cs,sI c
 | [],cs,h=>h
 | b::ls,cs,h=>sI.told ls _ (sI.tell h b)
theorem Il:∀n:Fin 65,Gr (Gq (BitVec.ofNat 64 (2 ^ n.1-1)))=(n.1:Int):=by decide +kernel
theorem sI.one{c:TC}(h:sI c)(h1:1≤c.n)(Et:c.n≤64)(p:Nat→Bool)(hp:∀i,i<c.n→cE c.ws c.n (i:Int)=p i):∃w,c.ws=[w]∧∀j,j<64→w.getLsbD j=(decide (j<c.n) && p j):=by
 obtain⟨a,b⟩:=h
 have hl:c.ws.length=1:=by omega
 obtain⟨w,hw⟩:=List.length_eq_one_iff.1 hl
 refine⟨w,hw,fun j hj=>?_⟩
 by_cases IU:j<c.n
 ·rw[decide_eq_true IU,Bool.true_and,← hp j IU,yr IU,hw,show j/64=0 by omega,show j%64=j by omega]
  rfl
 ·have:=b j ah
  rw[hw,show j/64=0 by omega,show j%64=j by omega]at this
  rw[decide_eq_false IU,Bool.false_and]
  exact this
theorem sI.all{c:TC}(h:sI c)(h1:1≤c.n)(Et:c.n≤64)(ha:∀i:Nat,i<c.n→cE c.ws c.n (i:Int)=true):mE c.ws=c.n:=by
 obtain⟨w,hw,hb⟩:=h.one h1 Et (fun _=>true) ha
 have e:w=BitVec.ofNat 64 (2 ^ c.n-1):=by
  apply BitVec.eq_of_getLsbD_eq
  intro j hj
  rw[hb j hj,BitVec.getLsbD_ofNat,Nat.testBit_two_pow_sub_one,decide_eq_true hj,Bool.and_true,Bool.true_and]
 have:=Il ⟨c.n,ah⟩
 rw[hw,e]
 unfold mE
 simpa using this
theorem sI.none{c:TC}(h:sI c)(h1:1≤c.n)(Et:c.n≤64)(ha:∀i:Nat,i<c.n→cE c.ws c.n (i:Int)=false):mE c.ws=0:=by
 obtain⟨w,hw,hb⟩:=h.one h1 Et (fun _=>false) ha
 have e:w=BitVec.ofNat 64 (2 ^ 0-1):=by
  apply BitVec.eq_of_getLsbD_eq
  intro j hj
  rw[hb j hj,Bool.and_false]
  simp
 have:=Il ⟨0,ah⟩
 rw[hw,e]
 unfold mE
 simpa using this
def wT(ts:List Tk):Nat:=(ts.map fun y=>1+(jB y.c).length).sum
structure CS(k w u:Nat)(s:eU)(ts:List Tk):Prop where
 dq:DQ k s.A
 brk:s.brk=false
 aY:∀z∈s.aY,z.1=z.2.d∧∃y∈ts,y.x=z.2
 JD:∀y∈ts,gz s.aY y.x.d=some y.x
 keys:(s.aY.map (·.1)).Nodup
 bl:s.aY.length≤w
 ok:∀y∈ts,bo y.x=true∧y.x.size≤600∧(y.n:Int)=bO y.x∧jZ y.c
 nd:(ts.map fun y=>y.x.d).Nodup
 has:∀y∈ts,(vw s.A (gZ y.x.d)).isSome=true∧vw s.A (mw y.x.d)=none
 FP:∀y∈ts,∀i:Nat,cE y.ws y.n i=true→∃(c:List UInt8) (a n:Int) (p:List Dg),vw s.A (gZ y.x.d)=some c∧cP y.x i=some (a,n)∧a+n≤c.length∧y.pf i=some p∧cM y.x i ((c.drop a.toNat).take n.toNat) p=true
 wt:wT ts≤w
 kA:s.A.aq.length≤u
 ns:∀y∈ts,sI y.c
structure CJ(j:Nat)(x:SJ)(cs:List TC):Prop where
 jr:∃(C:List UInt8) (n:Nat) (ls:List (List UInt8)),vw x.1.A cS=some C∧JC C n ls∧x.2=⟨n,((ls.flatMap aR).length:Int),((ls.flatMap aR).length:Int),false⟩∧n≤1+j∧ls.length≤j∧(∀b∈ls,b.length≤900)∧CA (ls.foldl dm []) cs
theorem CS.mono{k w u k' w' u':Nat}{s:eU}{ts:List Tk}(h:CS k w u s ts)(hk:k≤k')(hw:w≤w')(hu:u≤u'):CS k' w' u' s ts :=
 ⟨h.dq.mono hk,h.brk,h.aY,h.JD,h.keys,by have:=h.bl;omega,h.ok,h.nd,h.has,h.FP,by have:=h.wt;omega,by have:=h.kA;omega,h.ns⟩
theorem CJ.mono{j j':Nat}{x:SJ}{cs:List TC}(h:CJ j x cs)(hj:j≤j'):CJ j' x cs:=by
 obtain⟨C,n,ls,h1,h2,h3,h4,h5,h6,h7⟩:=h
 exact⟨C,n,ls,h1,h2,h3,ah,ah,h6,h7⟩
theorem l4:∀(ls:List (List UInt8)),(∀b∈ls,b.length≤900)→(ls.flatMap aR).length≤910*ls.length
 | [],_=>by simp
 | b::ls,h=>by
  have h1:=l4 ls fun x hx=>h x (List.mem_cons_of_mem _ hx)
  have h2:=nQ b (by have:=h b (List.mem_cons_self ..);omega)
  have h3:=h b (List.mem_cons_self ..)
  rw[List.flatMap_cons,List.length_append,List.length_cons]
  omega
theorem iK(d:Dg):gZ d≠cS:=gG kS d
theorem jR(d:Dg):mw d≠cS:=gG kB d
theorem CS.other{k w u u':Nat}{s:eU}{ts:List Tk}{B:Ab}{C:List UInt8}(h:CS k w u s ts)(hB:HA B)(hz:Cz k B)(hr:B.room=s.A.room)(hn:B.names.length=s.A.names.length)(hv:vw B=ew (vw s.A) cS (some C))(hC:C.length≤100000)(hu:B.aq.length≤u'):CS k w u' ⟨B,s.aY,s.brk⟩ ts:=by
 have hS:∀d,vw B (gZ d)=vw s.A (gZ d):=fun d=>by rw[hv,dz _ _ (iK d)]
 have hBd:∀d,vw B (mw d)=vw s.A (mw d):=fun d=>by rw[hv,dz _ _ (jR d)]
 refine⟨h.dq.next hB hz hr (by rw[hn];exact h.dq.PE) (fun n c hc=>?_),h.brk,h.aY,h.JD,h.keys,h.bl,h.ok,h.nd,fun y hy=>?_,fun y hy i hi=>?_,h.wt,hu,h.ns⟩
 ·rw[hv]at hc
  by_cases hp:n=cS
  ·subst hp
   rw[di]at hc
   injection hc with hc
   subst hc
   exact .inr (.inl ⟨rfl,hC⟩)
  ·rw[dz _ _ hp]at hc
   exact .inl hc
 ·show(vw B (gZ y.x.d)).isSome=true∧vw B (mw y.x.d)=none
  rw[hS,hBd];exact h.has y hy
 ·show ∃c a n p,vw B (gZ y.x.d)=some c∧_
  rw[hS];exact h.FP y hy i hi
theorem CS.note{k w u j:Nat}{x y:SJ}{ts:List Tk}{cs:List TC}{b:List UInt8}{e:Nat}(h:CS k w u x.1 ts)(hj:CJ j x cs)(hk:k≤190)(pn:j<100)(hb:b.length≤900)(hR:iA (jK b) x e y) :
  e=0∧CS k w (u+5) y.1 ts∧(∀j6,(∀ls,CA (ls.foldl dm []) cs→CA ((ls++[b]).foldl dm []) j6)→CJ (j+1) y j6)∧y.1.aY=x.1.aY∧(∀n,n≠cS→vw y.1.A n=vw x.1.A n):=by
 obtain⟨C,n,ls,h1,h2,h3,h4,h5,h6,h7⟩:=hj.jr
 have hg:=Ay hR
 obtain⟨⟨A,aY,brk⟩,jn⟩:=x
 simp only at h1 h3
 subst h3
 have hdq:DQ k A:=h.dq
 have zD:=hdq.used
 have IK:=hdq.room
 have nJ:=l4 ls h6
 have pj:=nQ b ah
 obtain⟨r1,r2,r3,⟨C',r4,r5⟩,r6,r7,r8,r9,r10,r11⟩:=Gw (A:=A) hdq.ha hdq.cz h1 h2 rfl ah ah ah ah hR
 have ln:=r5.len
 have acZ:=l4 (ls++[b]) (fun x hx=>by
  rcases List.mem_append.1 hx with hx|hx
  ·exact h6 x hx
  ·rw[List.mem_singleton.1 hx];exact hb)
 rw[List.length_append,List.length_singleton]at acZ
 obtain⟨⟨A',ad0,adZ⟩,jn'⟩:=y
 simp only at r2 r3 r4 r6 r7 r8 r9 r10 r11
 subst r7 r8 r9
 have Ws:=h.kA
 have zL:=hg.1
 simp only at Ws zL
 refine⟨r1,h.other r2 r3 r6 r10 r4 ah ah,fun j6 si=>⟨C',n+1,ls++[b],by show vw A' cS=_;rw[r4,di],r5,rfl,ah,by simp;omega,fun x hx=>?_,si ls h7⟩,rfl,fun m hm=>?_⟩
 ·rcases List.mem_append.1 hx with hx|hx
  ·exact h6 x hx
  ·rw[List.mem_singleton.1 hx];exact hb
 ·show vw A' m=vw A m
  rw[r4,dz _ _ hm]
theorem EO{l:List (Dg × Bl)}(h:∀z∈l,z.2.size≤600):(l.map (·.2.size)).sum≤600*(l.length:Int):=by
 induction l with
 | nil=>simp
 | cons z l ih =>
  have h1:=ih fun x hx=>h x (List.mem_cons_of_mem _ hx)
  have h2:=h z (List.mem_cons_self ..)
  rw[List.map_cons,List.sum_cons,List.length_cons]
  omega
theorem CS.jF{k w u:Nat}{s:eU}{ts:List Tk}(h:CS k w u s ts):jF s≤1000*(k:Int)+600*(w:Int):=by
 have h1:=h.dq.rk
 have h2:=EO (l:=s.aY) (fun z hz=>by
  obtain⟨_,y,hy,Wi⟩:=h.aY z hz
  rw[← Wi];exact(h.ok y hy).2.1)
 have h3:=h.bl
 unfold Proofs.YtedjnjkijiddlaaGreatDoor.jF
 omega
theorem CS.Jf{k w u:Nat}{s:eU}{ts:List Tk}(h:CS k w u s ts){d:Dg}(iZ:∀z∈ts,z.x.d≠d):gz s.aY d=none:=by
 cases hx:gz s.aY d with
 | none=>rfl
 | some z =>
  obtain⟨h1,y,hy,h2⟩:=h.aY _ (OQ hx)
  simp only at h1 h2
  exact absurd (by rw[h2];exact h1.symm) (iZ y hy)
theorem CS.XO{k w u:Nat}{q:Int}{s t:eU}{ts:List Tk}{b:Bl}{e:Nat}(h:CS k w u s ts)(hk:k≤190)(iZ:∀z∈ts,z.x.d≠b.d)(hq:bo b=true→1000*(k:Int)+600*(w:Int)+b.size≤q)(hR:dJ q b s e t) :
    (bo b=false∧e=1∧t=s)∨(bo b=true∧(vw s.A (mw b.d)).isSome=true∧e=5∧t=s) ∨
    (bo b=true∧vw s.A (mw b.d)=none∧e=0∧HA t.A∧t.brk=false∧t.aY=s.aY++[(b.d,b)]∧(∀n,vw t.A n=if n=gZ b.d then some ((vw s.A n).getD [])else vw s.A n)∧t.A.names.length≤s.A.names.length+1∧t.A.room=s.A.room∧Cz (k+1) t.A):=by
  have hn:=h.Jf iZ
  have zD:=h.jF
  have KQ:=Cz.begin (h.dq.cz.mono (fun _ x=>x) (Nat.le_succ k)) h.dq.ha h.brk (by have:=h.dq.PE;omega) ah hR
  have ld:=h.dq.PE
  cases hr:bo b with
  | false =>
    unfold dJ at hR
    rw[if_neg (by rw[h.brk];simp),if_pos hr]at hR
    exact .inl ⟨rfl,hR⟩
  | true =>
  have hq:=hq hr
  right
  cases hB:vw s.A (mw b.d)with
  | some c =>
    unfold dJ at hR
    rw[if_neg (by rw[h.brk];simp),if_neg (by rw[hr];simp),if_pos (.inr (by rw[mQ,show vw s.A (fB b)=some c from hB];rfl))]at hR
    exact .inl ⟨rfl,rfl,hR⟩
  | none =>
  right
  cases hS:vw s.A (gZ b.d)with
  | none =>
    obtain⟨r1,r2,r3,r4,r5,r6,r7⟩:=Fy h.dq.ha h.brk hr hn hB ah hS ah hR
    exact⟨rfl,rfl,r1,r2,r3,r4,fun n=>by
      rw[r5 n]
      show(if n=gZ b.d then _ else _)=_
      split
      · rename_i hx;rw[hx,hS];rfl
      · rfl,ah,r7,KQ⟩
  | some c =>
    unfold dJ at hR
    rw[if_neg (by rw[h.brk];simp),if_neg (by rw[hr];simp),if_neg (by rw[hn,mQ,show vw s.A (fB b)=none from hB];simp),if_neg ah,if_pos (by rw[mQ,show vw s.A (fS b)=some c from hS];rfl)]at hR
    obtain⟨rfl,rfl⟩:=hR
    exact⟨rfl,rfl,rfl,h.dq.ha,h.brk,rfl,fun n=>by
      split
      · rename_i hx;rw[hx];show vw s.A (gZ b.d)=_;rw[hS];rfl
      · rfl,by simp only;omega,rfl,KQ⟩
theorem J7{c:TC}(h:∀i,cE c.ws c.n i=false):jB c=[]:=by
 unfold jB
 exact List.filter_eq_nil_iff.2 fun i _=>by rw[h];simp
theorem P2(ts:List Tk)(y:Tk):wT (ts++[y])=wT ts+(1+(jB y.c).length):=by unfold wT;simp
theorem EF(ts:List Tk)(y:Tk):gh (ts++[y])=gh ts++[y.c]:=by unfold gh;simp
theorem EX(x:Bl):jZ (cQ x):=by
 have:=lE x
 unfold jZ cQ
 simp only[List.length_replicate]
 exact⟨ah,ah,ah,fun k l h=>by cases h⟩
theorem CS.add{k w u u':Nat}{s t:eU}{ts:List Tk}{b:Bl}{y:Tk}(h:CS k w u s ts)(iZ:∀z∈ts,z.x.d≠b.d)(hr:bo b=true)(hs:b.size≤600)(CF:y.x=b)(GN:(y.n:Int)=bO b)(hyo:jZ y.c)(Wi:sI y.c){c0:List UInt8}(sj:vw s.A (gZ b.d)=some c0→c0.length≤1000)(hB:vw s.A (mw b.d)=none)(h1:HA t.A)(h2:t.brk=false)(h3:t.aY=s.aY++[(b.d,b)])(h4:∀n,vw t.A n=if n=gZ b.d then some ((vw s.A n).getD [])else vw s.A n)(h5:t.A.names.length≤s.A.names.length+1)(h6:t.A.room=s.A.room)(h7:Cz (k+1) t.A)(hu:t.A.aq.length≤u')(ac8:∀i:Nat,cE y.ws y.n i=true→∃(c:List UInt8) (a n:Int) (p:List Dg),vw t.A (gZ y.x.d)=some c∧cP y.x i=some (a,n)∧a+n≤c.length∧y.pf i=some p∧cM y.x i ((c.drop a.toNat).take n.toNat) p=true)(hw:1+(jB y.c).length+wT ts≤w+1+(jB y.c).length):CS (k+1) (w+1+(jB y.c).length) u' t (ts++[y]):=by
 have hn:=h.Jf iZ
 have pU:∀d,d≠b.d→vw t.A (gZ d)=vw s.A (gZ d):=fun d hd=>by rw[h4,if_neg (fun e=>hd (B4 e))]
 have hkB:∀d,vw t.A (mw d)=vw s.A (mw d):=fun d=>by rw[h4,if_neg (fun e=>fZ _ _ e.symm)]
 refine⟨h.dq.next h1 h7 h6 (by have:=h.dq.PE;omega) (fun n c hc=>?_),h2,fun z hz=>?_,fun z hz=>?_,?_,?_,fun z hz=>?_,?_,fun z hz=>?_,fun z hz i hi=>?_,?_,hu,fun z hz=>?_⟩
 ·rw[h4]at hc
  by_cases hx:n=gZ b.d
  ·rw[if_pos hx]at hc
   injection hc with hc
   cases hv:vw s.A n with
   | some c1=>rw[hv]at hc;exact .inl (by rw[← hc];rfl)
   | none =>
    rw[hv]at hc
    exact .inr (.inr (.inl ⟨⟨_,hx⟩,by rw[← hc];simp⟩))
  ·rw[if_neg hx]at hc
   exact .inl hc
 ·rw[h3]at hz
  rcases List.mem_append.1 hz with hz|hz
  ·obtain⟨g1,y',hy',g2⟩:=h.aY z hz
   exact⟨g1,y',List.mem_append_left _ hy',g2⟩
  ·rw[List.mem_singleton.1 hz]
   exact⟨rfl,y,by simp,CF⟩
 ·rw[h3,EM _ _ _ hn]
  rcases List.mem_append.1 hz with hz|hz
  ·rw[if_neg (iZ z hz)];exact h.JD z hz
  ·rw[List.mem_singleton.1 hz,CF,if_pos rfl]
 ·rw[h3,List.map_append,List.nodup_append]
  refine⟨h.keys,by simp,fun a ha c hc=>?_⟩
  simp only[List.map_cons,List.map_nil,List.mem_singleton]at hc
  rintro rfl
  exact Rz hn (hc ▸ ha)
 ·rw[h3,List.length_append,List.length_singleton]
  have:=h.bl;omega
 ·rcases List.mem_append.1 hz with hz|hz
  ·exact h.ok z hz
  ·rw[List.mem_singleton.1 hz,CF]
   exact⟨hr,hs,GN,hyo⟩
 ·rw[List.map_append,List.nodup_append]
  refine⟨h.nd,by simp,fun a ha c hc=>?_⟩
  obtain⟨z,hz,rfl⟩:=List.mem_map.1 ha
  simp only[List.map_cons,List.map_nil,List.mem_singleton]at hc
  rw[hc,CF]
  exact iZ z hz
 ·rcases List.mem_append.1 hz with hz|hz
  ·rw[hkB,pU _ (iZ z hz)];exact h.has z hz
  ·rw[List.mem_singleton.1 hz,CF,hkB,h4,if_pos rfl]
   exact⟨rfl,hB⟩
 ·rcases List.mem_append.1 hz with hz|hz
  ·rw[pU _ (iZ z hz)];exact h.FP z hz i hi
  ·rw[List.mem_singleton.1 hz]at hi ⊢
   exact ac8 i hi
 ·rw[P2];have:=h.wt;omega
 ·rcases List.mem_append.1 hz with hz|hz
  ·exact h.ns z hz
  ·rw[List.mem_singleton.1 hz];exact Wi
theorem su(x:Bl)(hs:x.size≤1000000000000)(hp:x.piece≤1000000000000):(bR x).length≤900:=by
 have:=gQ 1 x.d (gM x) (by simp[gM]) (kq x hs hp)
 unfold bR;omega
theorem OE(d:Dg):(EB d).length≤900:=by
 have:=gQ 3 d [] (by simp) (by simp)
 unfold EB;omega
theorem xH(d:Dg)(i:Nat)(hi:i≤1000000000000)(p:List Dg)(hp:p.length≤10):(bF d i p).length≤900:=by
 have:=gQ 2 d (eo i p) (by simp[eo];omega) (kh i hi p)
 unfold bF
 unfold eo at this
 omega
theorem CJ.sto{j:Nat}{x:SJ}{cs:List TC}{t:eU}(h:CJ j x cs)(hv:vw t.A cS=vw x.1.A cS):CJ j (t,x.2) cs:=by
 obtain⟨C,n,ls,h1,h2,h3,h4⟩:=h
 exact⟨C,n,ls,by show vw t.A cS=_;rw[hv];exact h1,h2,h3,h4⟩
theorem uM(ls:List (List UInt8))(b:List UInt8):(ls++[b]).foldl dm []=dm (ls.foldl dm []) b:=by rw[List.foldl_append];rfl
theorem OK(ts:List Tk):(gh ts).map (fun c=>c.x.d)=ts.map fun y=>y.x.d:=by unfold gh;rw[List.map_map];rfl
theorem XT{ts:List Tk}{d:Dg}(h:(ts.any fun y=>decide (y.x.d=d))=false):∀z∈ts,z.x.d≠d:=fun z hz e=>by
 have:=List.any_eq_false.1 h z hz
 exact this (decide_eq_true e)
theorem CS.begin{k w u j:Nat}{x t:SJ}{ts dW:List Tk}{b:Bl}{hJ:Bool}{e:Nat}(h:CS k w u x.1 ts)(hj:CJ j x (gh ts))(hk:k≤180)(hw:w≤150)(pn:j<100)(hs:bo b=true→b.size≤600)(hR:FA 1048576 b ts x false e dW hJ t) :
  hJ=false∧CS (k+1) (w+1) (u+20) t.1 dW∧CJ (j+1) t (gh dW)∧e=(if(ts.any fun y=>decide (y.x.d=b.d))=true then 5 else if bo b=false then 1 else if(vw x.1.A (mw b.d)).isSome=true then 5 else 0) ∧
   (e≠0→dW=ts∧t=x)∧(e=0→gh dW=gh ts++[cQ b]∧∀n,n≠cS→vw t.1.A n=if n=gZ b.d then some ((vw x.1.A n).getD [])else vw x.1.A n):=by
 have hm:=h.mono (k':=k+1) (w':=w+1) (u':=u+20) ah ah ah
 rcases hR with⟨h1,_⟩|⟨_,lY,rfl,rfl,rfl,rfl⟩|⟨_,lY,rfl,hR,pR⟩
 ·cases h1
 ·exact⟨rfl,hm,hj.mono ah,by rw[if_pos lY],fun _=>⟨rfl,rfl⟩,fun h0=>by cases h0⟩
 have iZ:=XT lY
 rw[if_neg (by rw[lY];simp)]
 obtain⟨e1,x1,⟨nK,qM⟩,c1⟩:=hR
 have hg:=gJ nK
 have hg0:=hg.1
 have cF:=h.kA
 rcases h.XO ah iZ (fun hr=>by have:=hs hr;omega) nK with⟨hr,rfl,hx⟩|⟨hr,hB,rfl,hx⟩|⟨hr,hB,rfl,g1,g2,g3,g4,g5,g6,g7⟩
 ·rw[if_pos hr]
  rcases c1 with⟨_,rfl,rfl⟩|⟨h0,_⟩
  ·rcases pR with⟨_,rfl⟩|⟨h0,_⟩
   ·have:t=x:=Prod.ext hx qM
    subst this
    exact⟨rfl,hm,hj.mono ah,rfl,fun _=>⟨rfl,rfl⟩,fun h0=>by cases h0⟩
   ·cases h0
  ·cases h0
 ·rw[if_neg (by rw[hr];simp),if_pos hB]
  rcases c1 with⟨_,rfl,rfl⟩|⟨h0,_⟩
  ·rcases pR with⟨_,rfl⟩|⟨h0,_⟩
   ·have:t=x:=Prod.ext hx qM
    subst this
    exact⟨rfl,hm,hj.mono ah,rfl,fun _=>⟨rfl,rfl⟩,fun h0=>by cases h0⟩
   ·cases h0
  ·cases h0
 ·rw[if_neg (by rw[hr];simp),if_neg (by rw[hB];simp)]
  rcases c1 with⟨bT,_⟩|⟨_,fG⟩
  ·exact absurd rfl bT
  have IX:=df hr
  obtain⟨y,hy⟩:∃y:Tk,y.c=cQ b:=⟨⟨0,0,0,b,(bO b).toNat,List.replicate (((bO b).toNat+63)/64) 0#64,fun _=>none⟩,rfl⟩
  have ys:∀y:Tk,y.c=cQ b→CS (k+1) (w+1) (u+10) x1.1 (ts++[y]):=fun y hy=>by
   have sj:=lE b
   have e1:y.x=b:=congrArg TC.x hy
   have e2:y.n=(bO b).toNat:=congrArg TC.n hy
   have e3:y.ws=List.replicate (((bO b).toNat+63)/64) 0#64:=congrArg TC.ws hy
   have aav:∀i,cE y.c.ws y.c.n i=false:=fun i=>by rw[hy];exact tz _ _ _
   have hp:jB y.c=[]:=J7 aav
   have:=h.add (k:=k) (u':=u+10) (y:=y) (c0:=[]) iZ hr (hs hr) e1 (by rw[e2];omega) (by rw[hy];exact EX b) (by rw[hy];exact sI.fresh b) (fun _=>by simp) hB g1 g2 g3 g4 g5 g6 g7 ah (fun i hi=>absurd hi (by
    have:=aav i
    show ¬cE y.c.ws y.c.n i=true
    rw[this];simp)) (by rw[hp];have:=h.wt;simp only[List.length_nil];omega)
   rw[hp]at this
   exact this
  have aaK:CJ j x1 (gh ts):=by
   have:=hj.sto (t:=x1.1) (by rw[g4,if_neg (fun e=>iK b.d e.symm)])
   rw[← qM]at this
   exact this
  obtain⟨rfl,n1,n2,n3,n4⟩:=(ys y hy).note aaK ah pn (su b ah ah) fG
  rcases pR with⟨bT,_⟩|⟨_,y',hy',rfl⟩
  ·exact absurd rfl bT
  obtain⟨_,m1,m2,m3,m4⟩:=(ys y' hy').note aaK ah pn (su b ah ah) fG
  refine⟨by decide,m1.mono (Nat.le_refl _) (Nat.le_refl _) ah,m2 _ (fun ls IQ=>?_),rfl,fun h0=>absurd rfl h0,fun _=>⟨by rw[EF,hy'],fun n hn=>by rw[m4 n hn,g4]⟩⟩
  rw[uM,wZ _ hr,EF,hy']
  exact IQ.begin fun c hc=>by
   obtain⟨z,hz,rfl⟩:=List.mem_map.1 hc
   exact iZ z hz
theorem C3{x:Bl}{i i' a a' n n':Int}(h:cP x i=some (a,n))(h':cP x i'=some (a',n'))(bT:i≠i'):a+n≤a'∨a'+n'≤a:=by
 obtain⟨_,_,_,_,_,g1,g2,gr⟩:=iE h
 obtain⟨_,_,_,_,_,g1',g2',_⟩:=iE h'
 have hp:=df gr
 rcases Int.lt_or_gt_of_ne bT with hl|hl
 ·left
  have h1:(i+1)*x.piece≤i'*x.piece:=Int.mul_le_mul_of_nonneg_right ah ah
  rw[Int.add_mul,Int.one_mul]at h1
  omega
 ·right
  have h1:(i'+1)*x.piece≤i*x.piece:=Int.mul_le_mul_of_nonneg_right ah ah
  rw[Int.add_mul,Int.one_mul]at h1
  omega
theorem Mf(c:List UInt8)(a:Nat)(b:List UInt8):((bH c a b).drop a).take b.length=b:=by
 refine List.ext_getElem? fun j=>?_
 rw[List.getElem?_take]
 split
 ·rename_i hj
  rw[List.getElem?_drop,zV c a b (a+j) ah ah,show a+j-a=j by omega]
 ·rename_i hj
  rw[List.getElem?_eq_none ah]
theorem CN{c:List UInt8}{a:Nat}{b:List UInt8}{a' n':Nat}(hc:a'+n'≤c.length)(h:a'+n'≤a∨a+b.length≤a'):((bH c a b).drop a').take n'=(c.drop a').take n':=by
 refine List.ext_getElem? fun j=>?_
 rw[List.getElem?_take,List.getElem?_take]
 split
 ·rename_i hj
  rw[List.getElem?_drop,List.getElem?_drop]
  have hl:a'+j<c.length:=by omega
  rw[List.getElem?_eq_getElem hl]
  exact wO (List.getElem?_eq_getElem hl) ah
 ·rfl
theorem rI{α:Type}(f g:α→Bool):∀l:List α,(l.filter fun x=>f x || g x).length≤(l.filter f).length+(l.filter g).length
 | []=>by simp
 | x::l=>by
  have ih:=rI f g l
  rw[List.filter_cons,List.filter_cons,List.filter_cons]
  cases f x <;> cases g x <;> simp <;> omega
theorem range_one(i:Nat):∀n:Nat,((List.range n).filter fun j=>decide (j=i)).length≤if i<n then 1 else 0
 | 0=>by simp
 | n+1=>by
  have ih:=range_one i n
  rw[List.range_succ,List.filter_append,List.length_append]
  by_cases h:n=i
  ·rw[if_neg ah]at ih
   rw[if_pos ah]
   simp[h]at ih ⊢
   omega
  ·have:([n].filter fun j=>decide (j=i))=[]:=by simp[h]
   rw[this,List.length_nil]
   split at ih
   ·rw[if_pos ah];omega
   ·rw[if_neg ah];omega
theorem Qn{c:TC}{i:Nat}(hw:c.n≤c.ws.length*64)(hi:i<c.n)(l:List Dg):(jB (c.put i l)).length≤(jB c).length+1:=by
 have e:jB (c.put i l)=(List.range c.n).filter fun j=>decide (j=i) || cE c.ws c.n (j:Int):=by
  unfold jB TC.put
  simp only
  refine List.filter_congr fun j _=>?_
  rw[iI hw hi]
  by_cases h:j=i
  ·rw[if_pos ah,decide_eq_true h,Bool.true_or]
  ·rw[if_neg ah,decide_eq_false h,Bool.false_or]
 rw[e]
 have h1:=rI (fun j=>decide (j=i)) (fun j:Nat=>cE c.ws c.n (j:Int)) (List.range c.n)
 have h2:=range_one i c.n
 rw[if_pos hi]at h2
 show _≤((List.range c.n).filter fun i:Nat=>cE c.ws c.n (i:Int)).length+1
 omega
theorem Mi:∀(ts:List Tk) (k:Nat) (y z:Tk),ts[k]?=some y→wT (ts.set k z)+(1+(jB y.c).length)=wT ts+(1+(jB z.c).length)
 | [],k,y,z,h=>by cases h
 | t::ts,0,y,z,h=>by
  simp only[List.getElem?_cons_zero,Option.some.injEq]at h
  subst h
  unfold wT
  simp only[List.set_cons_zero,List.map_cons,List.sum_cons]
  omega
 | t::ts,k+1,y,z,h=>by
  have ih:=Mi ts k y z (by simpa using h)
  unfold wT at ih ⊢
  simp only[List.set_cons_succ,List.map_cons,List.sum_cons]
  omega
theorem ny{ts:List Tk}(hn:(ts.map fun y=>y.x.d).Nodup){k:Nat}{z z':Tk}(hk:ts[k]?=some z){w:Tk}(hw:w∈ts.set k z'):(w∈ts∧w.x.d≠z.x.d)∨w=z':=by
 obtain⟨j,hj⟩:=List.mem_iff_getElem?.1 hw
 have WX:=(List.getElem?_eq_some_iff.1 hk).1
 by_cases AJ:j=k
 ·subst AJ
  rw[List.getElem?_set_self WX]at hj
  injection hj with hj
  exact .inr hj.symm
 ·rw[List.getElem?_set_ne (fun e=>AJ e.symm)]at hj
  refine .inl ⟨List.mem_of_getElem? hj,fun e=>AJ ?_⟩
  have d1:(ts.map fun y=>y.x.d)[j]?=some w.x.d:=by rw[List.getElem?_map,hj];rfl
  have d2:(ts.map fun y=>y.x.d)[k]?=some z.x.d:=by rw[List.getElem?_map,hk];rfl
  exact(List.getElem?_inj ((List.getElem?_eq_some_iff.1 d1).1) hn).1 (by rw[d1,d2,e])
theorem Rs(ts:List Tk)(k:Nat)(z:Tk):gh (ts.set k z)=(gh ts).set k z.c:=by unfold gh;rw[List.map_set]
theorem CS.piece{k w u u':Nat}{s t v:eU}{ts:List Tk}{q:Nat}{z:Tk}{i:Nat}{bs:List UInt8}{p:List Dg}{a n:Int}{c:List UInt8}(h:CS k w u s ts)(hq:ts[q]?=some z)(hc:vw s.A (gZ z.x.d)=some c)(hi:i<z.n)(fW:cP z.x i=some (a,n))(tt:cM z.x i bs p=true)(pT:p.length≤10)(hP:mF z.x i bs s 0 t)(hY:j8 z.x t 0 v)(hu:v.A.aq.length≤u')(hk:k≤190) :
  CS k (w+1) u' v (ts.set q (z.put i p))∧v.aY=s.aY∧(∀m,m≠gZ z.x.d→vw v.A m=vw s.A m)∧vw v.A (gZ z.x.d)=some (bH c a.toNat bs):=by
 have hz:=List.mem_of_getElem? hq
 obtain⟨k1,k2,k3,k4⟩:=h.ok z hz
 obtain⟨g0,g1,g2,g3,g4,g5,g6,gr⟩:=iE fW
 have iD:(bs.length:Int)=n:=by
  unfold cM at tt
  rw[fW]at tt
  simp only[Bool.and_eq_true,decide_eq_true_eq]at tt
  exact tt.1
 have ln:c.length≤1000:=by
  rcases h.dq.kd _ c hc with⟨he,_⟩|⟨_,hl⟩|⟨_,hl⟩
  ·exact absurd he (iK _)
  ·exact hl
  ·exact hl
 have zD:=h.dq.used
 have IK:=h.dq.room
 obtain⟨_,p1,p2,p3,p4,p5,p6⟩:=HD h.dq.ha h.brk (h.JD z hz) fW iD hc ah ah hP
 have KQ:=Cz.abR (e:=0) h.dq.cz h.dq.ha p1 hP hY
 have lS:vw t.A (fS z.x)=some (bH c a.toNat bs):=by rw[p4,if_pos rfl]
 have hY2:HA v.A∧vw v.A=vw t.A∧v.A.names=t.A.names∧v.A.room=t.A.room∧v.aY=t.aY∧v.brk=false:=by
  unfold j8 at hY
  split at hY
  ·exact absurd hY.1.symm (by assumption)
  obtain⟨B,⟨e1,A1,hs,mC⟩,rfl⟩:=hY
  rcases mC with⟨bT,h0,_⟩|⟨h0,_,rfl⟩
  ·exact absurd h0.symm bT
  subst h0
  unfold eX at hs
  rw[show isName (fS z.x)=true from gq z.x]at hs
  obtain⟨_,m1,m2,m3,m4⟩:=p1.sync lS hs
  exact⟨m1,funext m2,m3,m4,rfl,by simp[p2]⟩
 obtain⟨y1,y2,y3,y4,y5,y6⟩:=hY2
 have oK:∀m,vw v.A m=if m=gZ z.x.d then some (bH c a.toNat bs)else vw s.A m:=fun m=>by rw[y2];exact p4 m
 have eH:=eP c a.toNat bs
 have vQ:vw v.A (gZ z.x.d)=some (bH c a.toNat bs):=by rw[oK,if_pos rfl]
 have hkB:∀d,vw v.A (mw d)=vw s.A (mw d):=fun d=>by rw[oK,if_neg (fun e=>fZ _ _ e.symm)]
 have pU:∀d,d≠z.x.d→vw v.A (gZ d)=vw s.A (gZ d):=fun d hd=>by rw[oK,if_neg (fun e=>hd (B4 e))]
 have KT:v.aY=s.aY:=y5.trans p3
 refine⟨⟨h.dq.next y1 KQ (y4.trans p6) (by rw[y3,p5];exact h.dq.PE) (fun m c' kU=>?_),y6,fun b hb=>?_,fun b hb=>?_,by rw[KT];exact h.keys,by rw[KT];have:=h.bl;omega,fun b hb=>?_,?_,fun b hb=>?_,fun b hb j hj=>?_,?_,hu,fun b hb=>?_⟩,KT,fun m hm=>by rw[oK,if_neg hm],vQ⟩
 ·rw[oK]at kU
  by_cases hm:m=gZ z.x.d
  ·rw[if_pos hm]at kU
   injection kU with kU
   refine .inr (.inr (.inl ⟨⟨_,hm⟩,?_⟩))
   rw[← kU,eH]
   omega
  ·rw[if_neg hm]at kU
   exact .inl kU
 ·rw[KT]at hb
  obtain⟨b1,y,hy,CG⟩:=h.aY b hb
  refine⟨b1,?_⟩
  obtain⟨j,hj⟩:=List.mem_iff_getElem?.1 hy
  by_cases hjq:q=j
  ·subst hjq
   rw[hq]at hj
   injection hj with hj
   exact⟨z.put i p,List.mem_of_getElem? (List.getElem?_set_self ((List.getElem?_eq_some_iff.1 hq).1)),by rw[← CG,← hj];rfl⟩
  ·exact⟨y,List.mem_of_getElem? (by rw[List.getElem?_set_ne hjq];exact hj),CG⟩
 ·rw[KT]
  rcases ny h.nd hq hb with⟨hb,_⟩|rfl
  ·exact h.JD b hb
  ·exact h.JD z hz
 ·rcases ny h.nd hq hb with⟨hb,_⟩|rfl
  ·exact h.ok b hb
  ·exact⟨k1,k2,k3,k4.put i pT⟩
 ·have:(ts.set q (z.put i p)).map (fun y=>y.x.d)=ts.map fun y=>y.x.d:=by
   rw[List.map_set]
   refine List.ext_getElem? fun j=>?_
   by_cases AJ:j=q
   ·subst AJ
    rw[List.getElem?_set_self (by simpa using(List.getElem?_eq_some_iff.1 hq).1),List.getElem?_map,hq];rfl
   ·rw[List.getElem?_set_ne (fun e=>AJ e.symm)]
  rw[this];exact h.nd
 ·rcases ny h.nd hq hb with⟨hb,hd⟩|rfl
  ·rw[pU _ hd,hkB];exact h.has b hb
  ·show(vw v.A (gZ z.x.d)).isSome=true∧vw v.A (mw z.x.d)=none
   rw[vQ,hkB];exact⟨rfl,(h.has z hz).2⟩
 ·rcases ny h.nd hq hb with⟨hb,hd⟩|rfl
  ·rw[pU _ hd];exact h.FP b hb j hj
  ·show ∃c' a' n' p',vw v.A (gZ z.x.d)=some c'∧cP z.x j=some (a',n')∧a'+n'≤c'.length∧(if(j:Int)=(i:Int)then some p else z.pf j)=some p'∧cM z.x j ((c'.drop a'.toNat).take n'.toNat) p'=true
   by_cases BS:j=i
   ·subst BS
    refine⟨_,a,n,p,vQ,fW,by rw[eH];omega,if_pos rfl,?_⟩
    rw[show n.toNat=bs.length by omega,Mf]
    exact tt
   ·have hold:cE z.ws z.n (j:Int)=true:=by
     have qL:cE (jI z.ws i true) z.n (j:Int)=true:=hj
     rw[iI (show z.n≤z.ws.length*64 from k4.2.1) hi,if_neg ah]at qL
     exact qL
    obtain⟨c',a',n',p',c1,c2,c3,c4,c5⟩:=h.FP z hz j hold
    rw[hc]at c1
    injection c1 with c1
    subst c1
    obtain⟨f0,f1,f2,_⟩:=iE c2
    have FM:=C3 fW c2 ah
    refine⟨_,a',n',p',vQ,c2,by rw[eH];omega,by rw[if_neg ah];exact c4,?_⟩
    rw[CN ah ah]
    exact c5
 ·have h1:=Mi ts q z (z.put i p) hq
  have h2:(jB (z.put i p).c).length≤(jB z.c).length+1:=Qn (c:=z.c) k4.2.1 hi p
  have h3:=h.wt
  omega
 ·rcases ny h.nd hq hb with⟨hb,_⟩|rfl
  ·exact h.ns b hb
  ·exact(h.ns z hz).put hi p
def Qj(ts:List Tk)(b:Bl)(i:Int)(bs:List UInt8)(p:List Dg):Nat:=match gy ts b with
 | none=>4
 | some y=>if i<0∨(y.n:Int)≤i then 1 else if cE y.ws y.n i=true then 0 else if cM b i bs p=true then 0 else 8
theorem CS.put{k w u j:Nat}{x t:SJ}{ts dW:List Tk}{b:Bl}{i:Int}{bs:List UInt8}{p:List Dg}{hJ:Bool}{e:Nat}(h:CS k w u x.1 ts)(hj:CJ j x (gh ts))(hk:k≤180)(pn:j<100)(hR:HE b i bs p ts x false e dW hJ t) :
  hJ=false∧CS k (w+1) (u+20) t.1 dW∧CJ (j+1) t (gh dW)∧e=Qj ts b i bs p ∧
   ((dW=ts∧t=x)∨∃(q:Nat) (y:Tk),ts[q]?=some y∧y.x=b∧0≤i∧i<y.n∧cE y.ws y.n i=false∧cM b i bs p=true∧dW=ts.set q (y.put i.toNat p)∧(∀m,m≠cS→m≠gZ b.d→vw t.1.A m=vw x.1.A m)∧∃(c:List UInt8) (a n:Int),vw x.1.A (gZ b.d)=some c∧cP b i=some (a,n)∧vw t.1.A (gZ b.d)=some (bH c a.toNat bs)):=by
 have hm:=h.mono (k':=k) (w':=w+1) (u':=u+20) ah ah ah
 unfold Qj
 rcases hR with⟨h1,_⟩|⟨_,hf,rfl,rfl,rfl,rfl⟩|⟨_,q,y,hf,hq,CF,hc⟩
 ·cases h1
 ·rw[hf];exact⟨rfl,hm,hj.mono ah,rfl,.inl ⟨rfl,rfl⟩⟩
 rw[hf]
 simp only
 rcases hc with⟨hi,rfl,rfl,rfl,rfl⟩|⟨hi,hh,rfl,rfl,rfl,rfl⟩|⟨hi,hh,hp,rfl,rfl,rfl,rfl⟩|⟨hi,hh,hp,rfl,hR,pR⟩
 ·rw[if_pos hi];exact⟨rfl,hm,hj.mono ah,rfl,.inl ⟨rfl,rfl⟩⟩
 ·rw[if_neg ah,if_pos hh];exact⟨rfl,hm,hj.mono ah,rfl,.inl ⟨rfl,rfl⟩⟩
 ·rw[if_neg ah,if_neg (by rw[hh];simp),if_neg (by rw[hp];simp)];exact⟨rfl,hm,hj.mono ah,rfl,.inl ⟨rfl,rfl⟩⟩
 rw[if_neg ah,if_neg (by rw[hh];simp),if_pos hp]
 subst CF
 obtain⟨i,rfl⟩:∃i':Nat,i=i':=⟨i.toNat,ah⟩
 have hy:=List.mem_of_getElem? hq
 obtain⟨k1,k2,k3,k4⟩:=h.ok y hy
 have pT:=oB hp
 have fW:∃a n,cP y.x i=some (a,n):=by
  unfold cM at hp
  cases fW:cP y.x i with
  | none=>rw[fW]at hp;cases hp
  | some an=>exact⟨an.1,an.2,rfl⟩
 obtain⟨a,n,fW⟩:=fW
 obtain⟨g0,g1,g2,g3,g4,g5,g6,gr⟩:=iE fW
 have iD:(bs.length:Int)=n:=by
  have vO:=hp
  unfold cM at vO
  rw[fW]at vO
  simp only[Bool.and_eq_true,decide_eq_true_eq]at vO
  exact vO.1
 have ac3:p.length=eB y.n i:=by
  have vO:=hp
  unfold cM at vO
  rw[fW]at vO
  simp only[Bool.and_eq_true,decide_eq_true_eq]at vO
  have h2:=vO.2
  unfold jo at h2
  rw[decide_eq_true_iff]at h2
  rw[h2.2.1,k3]
 have QW:y.n≤1024:=k4.1
 obtain⟨c,hc⟩:=Option.isSome_iff_exists.1 (h.has y hy).1
 have ln:c.length≤1000:=by
  rcases h.dq.kd _ c hc with⟨he,_⟩|⟨_,hl⟩|⟨_,hl⟩
  ·exact absurd he (iK _)
  ·exact hl
  ·exact hl
 have zD:=h.dq.used
 have IK:=h.dq.room
 obtain⟨e1,x1,⟨WJ,acw⟩,c1⟩:=hR
 have zL:=nX WJ
 obtain⟨rfl,p1,p2,p3,p4,p5,p6⟩:=HD h.dq.ha h.brk (h.JD y hy) fW iD hc ah ah WJ
 rcases c1 with⟨bT,_⟩|⟨_,e2,x2,⟨vO,acv⟩,c2⟩
 ·exact absurd rfl bT
 have Ee:=sw vO
 have zM:e2=0:=by
  unfold j8 at vO
  have zu:iV x1.1 y.x=0:=by unfold iV tj;rw[p2,p3];simp[h.JD y hy]
  rw[zu,if_neg (by simp)]at vO
  obtain⟨B,⟨e3,A1,hs,mC⟩,_⟩:=vO
  unfold eX at hs
  rw[show isName (fS y.x)=true from gq y.x]at hs
  obtain⟨h0,_⟩:=p1.sync (c:=bH c a.toNat bs) (by rw[p4,if_pos rfl]) hs
  rcases mC with⟨bT,h1,_⟩|⟨_,h1,_⟩
  ·exact absurd h0 bT
  ·exact h1
 subst zM
 rcases c2 with⟨bT,_⟩|⟨_,fG⟩
 ·exact absurd rfl bT
 have Ws:=h.kA
 have adU:=zL.1
 have adT:=Ee.1
 obtain⟨n1,n2,n3,n4⟩:=h.piece (u':=u+10) hq hc ah fW hp pT WJ vO ah ah
 have AK:CJ j x2 (gh ts):=by
  have:=hj.sto (t:=x2.1) (n3 cS (fun e=>iK _ e.symm))
  rw[← acw,← acv]at this
  exact this
 obtain⟨rfl,m1,m2,m3,m4⟩:=n1.note AK ah pn (xH _ _ ah p pT) fG
 rcases pR with⟨bT,_⟩|⟨_,rfl⟩
 ·exact absurd rfl bT
 have e2:((i:Int)).toNat=i:=by omega
 rw[e2]at m2 ⊢
 refine⟨by decide,m1.mono (Nat.le_refl _) (Nat.le_refl _) ah,m2 _ (fun ls IQ=>?_),rfl,.inr ⟨q,y,hq,rfl,ah,ah,hh,hp,rfl,fun m Yk WS=>by rw[m4 m Yk,n3 m WS],c,a,n,hc,fW,by rw[m4 _ (iK _),n4]⟩⟩
 rw[uM,wY _ _ (by have:=k4.1;omega) pT,Rs]
 have hcq:(gh ts)[q]?=some y.c:=by unfold gh;rw[List.getElem?_map,hq];rfl
 exact IQ.piece (by rw[OK];exact h.nd) hcq (i:=i) (show i<y.n by omega) ac3
theorem zZ(p:Tk→Bool):∀ts:List Tk,wT (ts.filter p)≤wT ts
 | []=>Nat.le_refl _
 | t::ts=>by
  have ih:=zZ p ts
  unfold wT at ih ⊢
  rw[List.filter_cons]
  split
  ·simp only[List.map_cons,List.sum_cons];omega
  ·simp only[List.map_cons,List.sum_cons];omega
theorem qC{ts:List Tk}{d:Dg}{w:Tk}(h:w∈lA ts d):w∈ts∧w.x.d≠d:=by
 obtain⟨h1,h2⟩:=List.mem_filter.1 h
 exact⟨h1,by simpa using h2⟩
theorem CS.gone{k k' w u u':Nat}{s t:eU}{ts:List Tk}{z:Tk}(h:CS k w u s ts)(hk:k≤k')(hz:z∈ts)(h1:HA t.A)(h2:t.brk=false)(h3:t.aY=nR s.aY z.x.d)(RV:Cz k' t.A)(hr:t.A.room=s.A.room)(hn:t.A.names.length≤k')(hu:t.A.aq.length≤u')(hS:∀d,d≠z.x.d→vw t.A (gZ d)=vw s.A (gZ d))(hB:∀d,d≠z.x.d→vw t.A (mw d)=vw s.A (mw d))(hkd:∀n c,vw t.A n=some c→vw s.A n=some c∨(∃d,n=mw d∧dM c=d)∧c.length≤1000):CS k' w u' t (lA ts z.x.d):=by
 have iZ:∀b∈s.aY,b∈nR s.aY z.x.d→b.1≠z.x.d:=fun b _ hb=>by
  have:=(List.mem_filter.1 hb).2
  simpa using this
 refine⟨h.dq.next h1 RV hr hn (fun n c hc=>?_),h2,fun b hb=>?_,fun y hy=>?_,?_,?_,fun y hy=>h.ok y (qC hy).1,(List.filter_sublist.map _).nodup h.nd,fun y hy=>?_,fun y hy i hi=>?_,?_,hu,fun y hy=>h.ns y (qC hy).1⟩
 ·rcases hkd n c hc with hc|hc
  ·exact .inl hc
  ·exact .inr (.inr (.inr hc))
 ·rw[h3]at hb
  have rD:=OG hb
  obtain⟨b1,y,hy,CG⟩:=h.aY b rD
  refine⟨b1,y,List.mem_filter.2 ⟨hy,?_⟩,CG⟩
  have:=iZ b rD hb
  rw[b1]at this
  rw[CG]
  simpa using this
 ·rw[h3,Le,if_neg (qC hy).2]
  exact h.JD y (qC hy).1
 ·rw[h3]
  exact(List.filter_sublist.map _).nodup h.keys
 ·rw[h3]
  have:=List.length_filter_le (fun x:Dg × Bl => !decide (x.1=z.x.d)) s.aY
  have:=h.bl
  unfold nR
  omega
 ·obtain⟨QH,AE⟩:=qC hy
  rw[hS _ AE,hB _ AE]
  exact h.has y QH
 ·obtain⟨QH,AE⟩:=qC hy
  rw[hS _ AE]
  exact h.FP y QH i hi
 ·have:=zZ (fun y => !decide (y.x.d=z.x.d)) ts
  have:=h.wt
  unfold lA
  omega
def mL(v:ByteArray→Option (List UInt8))(x:Bl)(inst:Bool)(n:ByteArray):Option (List UInt8) :=
 if inst=true∧n=mw x.d then v (gZ x.d)else if n=gZ x.d then none else v n
theorem xJ(v:ByteArray→Option (List UInt8))(x:Bl)(n:ByteArray):mL v x false n=if n=gZ x.d then none else v n:=by
 unfold mL
 exact if_neg fun e=>by cases e.1
theorem J8(v:ByteArray→Option (List UInt8))(x:Bl)(n:ByteArray):mL v x true n=if n=mw x.d then v (gZ x.d)else if n=gZ x.d then none else v n:=by
 unfold mL
 by_cases h:n=mw x.d
 ·rw[if_pos ⟨rfl,h⟩,if_pos h]
 ·rw[if_neg (fun e=>h e.2),if_neg h]
theorem CS.over{k w u j:Nat}{x x1 y:SJ}{ts:List Tk}{z:Tk}{c:List UInt8}{e e':Nat}(h:CS k w u x.1 ts)(hj:CJ j x (gh ts))(hk:k≤180)(pn:j<100)(hz:z∈ts)(hc:vw x.1.A (gZ z.x.d)=some c){inst:Bool}(h1:(inst=true∧dI z.x x.1 e x1.1)∨(inst=false∧gN z.x x.1 e x1.1))(yu:x1.2=x.2)(fG:iA (jK (EB z.x.d)) x1 e' y) :
  e=(if inst=true∧dP z.x c=false then 8 else 0)∧e'=0∧CS (k+1) w (u+20) y.1 (lA ts z.x.d)∧CJ (j+1) y (gh (lA ts z.x.d))∧∀n,n≠cS→vw y.1.A n=mL (vw x.1.A) z.x (inst && dP z.x c) n:=by
 have hb:=h.JD z hz
 have ln:c.length≤1000:=by
  rcases h.dq.kd _ c hc with⟨he,_⟩|⟨_,hl⟩|⟨_,hl⟩
  ·exact absurd he (iK _)
  ·exact hl
  ·exact hl
 have KQ:=h.dq.cz.mono (fun _ x=>x) (Nat.le_succ k)
 have ld:=h.dq.PE
 have Ws:=h.kA
 have iv:e=(if inst=true∧dP z.x c=false then 8 else 0)∧HA x1.1.A∧x1.1.brk=false∧x1.1.aY=nR x.1.aY z.x.d∧x1.1.A.room=x.1.A.room∧x1.1.A.names.length≤k+1∧Cz (k+1) x1.1.A∧x1.1.A.aq.length≤u+10∧∀n,vw x1.1.A n=mL (vw x.1.A) z.x (inst && dP z.x c) n:=by
  have mD:∀ {e:Nat} {t:eU},gN z.x x.1 e t→e=0∧HA t.A∧t.brk=false∧t.aY=nR x.1.aY z.x.d∧t.A.room=x.1.A.room∧t.A.names.length≤k+1∧Cz (k+1) t.A∧∀n,vw t.A n=mL (vw x.1.A) z.x false n:=fun {e t} hA=>by
   obtain⟨rfl,a1,a2,a3,a4,a5,a6⟩:=uf h.dq.ha h.brk hb hc hA
   refine⟨rfl,a1,a2,a3,a6,?_,Cz.OY KQ h.dq.ha hc ln hA,fun n=>?_⟩
   ·rw[a5]
    have:=List.length_filter_le (fun q:ByteArray × Nat => !decide (q.1=fS z.x)) x.1.A.names
    unfold Ab.dx
    omega
   ·rw[a4,xJ]
    rfl
  rcases h1 with⟨rfl,h1⟩|⟨rfl,h1⟩
  ·have hg:=(nq h1).1
   have RU:=Cz.NI KQ h.dq.ha h.brk hb hc ln (h.has z hz).2 ah h1
   cases hw:dP z.x c with
   | false =>
    obtain⟨rfl,a1,a2,a3,a4,a5,a6⟩:=vJ h.dq.ha h.brk hb hc hw h1
    refine⟨by simp,a1,a2,a3,a6,?_,RU,ah,fun n=>?_⟩
    ·rw[a5]
     have:=List.length_filter_le (fun q:ByteArray × Nat => !decide (q.1=fS z.x)) x.1.A.names
     unfold Ab.dx
     omega
    ·rw[a4,Bool.true_and,xJ]
     rfl
   | true =>
    obtain⟨rfl,a1,a2,a3,a4,a5,f,a6⟩:=zj h.dq.ha h.brk hb hc (h.has z hz).2 hw h1
    refine⟨by simp,a1,a2,a3,a5,?_,RU,ah,fun n=>?_⟩
    ·rw[a6,List.length_append,List.length_singleton]
     have:=List.length_filter_le (fun q:ByteArray × Nat => !decide (q.1=fS z.x)) x.1.A.names
     unfold Ab.dx
     omega
    ·rw[a4,Bool.true_and,J8,hc]
     rfl
  ·have hg:=(qu h1).1
   obtain⟨rfl,a1,a2,a3,a4,a5,a6,a7⟩:=mD h1
   exact⟨by simp,a1,a2,a3,a4,a5,a6,ah,a7⟩
 obtain⟨q0,q1,q2,q3,q4,q5,q6,q7,q8⟩:=iv
 have hS:∀d,d≠z.x.d→vw x1.1.A (gZ d)=vw x.1.A (gZ d):=fun d hd=>by
  rw[q8]
  unfold mL
  rw[if_neg (fun e=>fZ _ _ e.2),if_neg (fun e=>hd (B4 e))]
 have hB:∀d,d≠z.x.d→vw x1.1.A (mw d)=vw x.1.A (mw d):=fun d hd=>by
  rw[q8]
  unfold mL
  rw[if_neg (fun e=>hd (I1 e.2)),if_neg (fun e=>fZ _ _ e.symm)]
 have hP:vw x1.1.A cS=vw x.1.A cS:=by
  rw[q8]
  unfold mL
  rw[if_neg (fun e=>jR _ e.2.symm),if_neg (fun e=>iK _ e.symm)]
 have zL:=h.gone (k':=k+1) (u':=u+10) ah hz q1 q2 q3 q6 q4 q5 q7 hS hB (fun n c' kU=>by
  rw[q8]at kU
  unfold mL at kU
  split at kU
  ·rename_i hi
   rw[hc]at kU
   injection kU with kU
   subst kU
   have hw:dP z.x c=true:=by
    have:=hi.1
    rw[Bool.and_eq_true]at this
    exact this.2
   exact .inr ⟨⟨z.x.d,hi.2,(FU hw).2⟩,ln⟩
  ·split at kU
   ·cases kU
   ·exact .inl kU)
 have AK:CJ j x1 (gh ts):=by
  have:=hj.sto (t:=x1.1) hP
  rw[← yu]at this
  exact this
 obtain⟨rfl,m1,m2,m3,m4⟩:=zL.note AK ah pn (OE _) fG
 refine⟨q0,rfl,m1.mono (Nat.le_refl _) (Nat.le_refl _) ah,m2 _ (fun ls IQ=>?_),fun n hn=>by rw[m4 n hn,q8]⟩
 rw[uM,Mr,He]
 exact IQ.rm _
theorem rH(k:List UInt8)(d:Dg):du k d≠bI cS:=fun h=>by
 have h1:=congrArg (fun s:ByteArray=>s.data.toList.length) h
 simp only[du,cS,strOf,bI,List.length_append,js]at h1
 simp at h1
theorem DQ.fresh{k:Nat}{A:Ab}(h:DQ k A):vw A (bI cS)=none:=by
 cases hx:vw A (bI cS)with
 | none=>rfl
 | some c =>
  rcases h.kd _ c hx with⟨he,_⟩|⟨⟨d,he⟩,_⟩|⟨⟨d,he,_⟩,_⟩
  ·exact absurd he oA
  ·exact absurd he.symm (rH kS d)
  ·exact absurd he.symm (rH kB d)
theorem Ii{A:Ab}(h:HA A){nm:ByteArray}{c:List UInt8}(hv:vw A nm=some c){a n:Int}(h1:0≤a)(h2:0≤n)(h3:a+n≤c.length):A.read nm a n=((c.drop a.toNat).take n.toNat,0):=by
 unfold vw at hv
 cases od:A.look nm with
 | none=>rw[od]at hv;cases hv
 | some f =>
  rw[od]at hv
  simp only[Option.map_some,Option.some.injEq]at hv
  unfold Ab.read
  rw[if_neg (by rw[h.on];simp),od]
  simp only
  rw[hv,if_neg ah]
theorem Ez{A:Ab}(h:HA A){nm:ByteArray}{C:List UInt8}(hv:vw A nm=some C):fH A nm=bY (e8 C):=by
 have hs:(A.size nm).1=C.length:=by
  unfold vw at hv
  cases od:A.look nm with
  | none=>rw[od]at hv;cases hv
  | some f =>
   rw[od]at hv
   simp only[Option.map_some,Option.some.injEq]at hv
   unfold Ab.size
   rw[od]
   simp only
   rw[hv]
 unfold fH
 rw[hs,Ii h hv ah ah ah]
 simp
structure GB(A:Ab)(c:TC):Prop where
 r:bo c.x=true
 s:c.x.size≤600
 n:(c.n:Int)=bO c.x
 ok:jZ c
 has:(vw A (gZ c.x.d)).isSome=true∧vw A (mw c.x.d)=none
 FP:∀i:Nat,cE c.ws c.n i=true→∃(b:List UInt8) (a n:Int) (p:List Dg),vw A (gZ c.x.d)=some b∧cP c.x i=some (a,n)∧a+n≤b.length∧c.pf i=some p∧cM c.x i ((b.drop a.toNat).take n.toNat) p=true
theorem GB.of{A:Ab}{c c':TC}(h:GB A c')(e:P1 c c')(lC:jZ c):GB A c :=
  ⟨by rw[e.x];exact h.r,by rw[e.x];exact h.s,by rw[e.n,e.x];exact h.n,lC,by rw[e.x];exact h.has,fun i hi=>by
    rw[e.x,e.p i hi]
    exact h.FP i (by rw[← e.b i];exact hi)⟩
theorem GB.vw{A B:Ab}{c:TC}(h:GB A c)(h1:∀b,Proofs.YtedjnjkijiddlaaGreatDoor.vw A (gZ c.x.d)=some b→Proofs.YtedjnjkijiddlaaGreatDoor.vw B (gZ c.x.d)=some b)(h2:Proofs.YtedjnjkijiddlaaGreatDoor.vw B (mw c.x.d)=Proofs.YtedjnjkijiddlaaGreatDoor.vw A (mw c.x.d)):GB B c:=by
 refine⟨h.r,h.s,h.n,h.ok,⟨?_,by rw[h2];exact h.has.2⟩,fun i hi=>?_⟩
 ·obtain⟨b,hb⟩:=Option.isSome_iff_exists.1 h.has.1
  rw[h1 b hb];rfl
 ·obtain⟨b,a,n,p,c1,c2⟩:=h.FP i hi
  exact⟨b,a,n,p,h1 b c1,c2⟩
theorem Gt{x:Bl}{i:Nat}{bs:List UInt8}{p:List Dg}{n:Nat}(h:cM x i bs p=true)(hn:(n:Int)=bO x):p.length=eB n i:=by
 unfold cM at h
 split at h
 ·cases h
 ·rw[Bool.and_eq_true]at h
  have h2:=h.2
  unfold jo at h2
  rw[decide_eq_true_iff]at h2
  rw[h2.2.1,hn]
def nj(l:List TC):List (Dg × Bl):=l.map fun c=>(c.x.d,c.x)
theorem Lg{l:List TC}{d:Dg}(h:∀c∈l,c.x.d≠d):gz (nj l) d=none:=by
 unfold gz nj
 rw[List.find?_eq_none.2 (fun x hx=>by
  obtain⟨c,hc,rfl⟩:=List.mem_map.1 hx
  simpa using h c hc)]
 rfl
theorem AY:∀ {l:List TC} {c:TC},(l.map fun c=>c.x.d).Nodup→c∈l→gz (nj l) c.x.d=some c.x
 | [],c,_,h=>by cases h
 | y::l,c,hn,h=>by
  rw[List.map_cons,List.nodup_cons]at hn
  rcases List.mem_cons.1 h with rfl|h
  ·unfold gz nj
   simp
  ·have bT:y.x.d≠c.x.d:=fun e=>hn.1 (List.mem_map.2 ⟨c,h,e.symm⟩)
   have ih:=AY hn.2 h
   unfold gz nj at ih ⊢
   rw[List.map_cons,List.find?_cons_of_neg (by simpa using bT)]
   exact ih
theorem vI{k:Nat}{q:Int}{A:Ab}(hA:DQ k A):∀(l done:List TC) (s:eU) (rs:List (List UInt8)) (e:Nat) (t:eU) (j6:List TC) (Am:List (List UInt8)),s=⟨A,nj done,false⟩→(∀c∈l,GB A c)→(∀c∈done,c.x.size≤600)→((done++l).map fun c=>c.x.d).Nodup →
  1000*(k:Int)+600*((done.length+l.length:Nat):Int)≤q→rL q l s done rs e t j6 Am→e=0∧j6=done++l∧Am=rs++l.flatMap o6∧t=⟨A,nj (done++l),false⟩
 | [],done,s,rs,e,t,j6,Am,hs,_,_,_,_,h=>by
  obtain⟨rfl,rfl,rfl,rfl⟩:=h
  exact⟨rfl,by simp,by simp,by rw[hs];simp⟩
 | c::l,done,s,rs,e,t,j6,Am,hs,hg,hd,hn,hq,h=>by
  subst hs
  have hc:=hg c (List.mem_cons_self ..)
  obtain⟨e1,s1,hb,fG⟩:=h
  have iZ:∀y∈done,y.x.d≠c.x.d:=fun y hy=>by
   rw[List.map_append,List.nodup_append]at hn
   exact hn.2.2 _ (List.mem_map.2 ⟨y,hy,rfl⟩) _ (by simp)
  have zD:jF ⟨A,nj done,false⟩≤1000*(k:Int)+600*(done.length:Int):=by
   have h1:=hA.rk
   have h2:=EO (l:=nj done) (fun z hz=>by
    obtain⟨y,hy,rfl⟩:=List.mem_map.1 hz
    exact hd y hy)
   have h3:(nj done).length=done.length:=by simp[nj]
   unfold jF
   simp only
   omega
  have ir:=hc.s
  have aa7:=Lg iZ
  unfold dJ at hb
  rw[if_neg (by simp),if_neg (by rw[hc.r];simp),if_neg (by
   rw[mQ,show vw A (fB c.x)=none from hc.has.2]
   simp only
   rw[aa7];simp),if_neg (by
   rw[List.length_cons]at hq
   omega),if_pos (by rw[mQ];exact hc.has.1)]at hb
  obtain⟨rfl,rfl⟩:=hb
  rw[if_neg ah,if_neg ah]at fG
  have nK:nj done++[(c.x.d,c.x)]=nj (done++[c]):=by simp[nj]
  have lT:pI (nj (done++[c])) c.x=true:=by
   unfold pI
   refine decide_eq_true ?_
   rw[← nK,EM _ _ _ aa7,if_pos rfl]
  have hh:j0 ⟨A,nj done++[(c.x.d,c.x)],false⟩ c=(c,o6 c):=by
   rw[nK]
   refine D8 (fun i hi hh=>?_) c.n (Nat.le_refl _)
   obtain⟨b,a,n,p,c1,c2,c3,c4,c5⟩:=hc.FP i hh
   obtain⟨f0,f1,f2,_⟩:=iE c2
   have cF:dZ ⟨A,nj (done++[c]),false⟩ c.x (i:Int)=((b.drop a.toNat).take n.toNat,0):=by
    unfold dZ
    rw[if_pos lT,c2]
    exact Ii hA.ha c1 ah ah ah
   rw[cF,c4]
   exact⟨rfl,c5⟩
  simp only[hh]at fG
  have:=vI hA l (done++[c]) _ _ e t j6 Am (by rw[nK]) (fun y hy=>hg y (List.mem_cons_of_mem _ hy)) (fun y hy=>by
   rcases List.mem_append.1 hy with hy|hy
   ·exact hd y hy
   ·rw[List.mem_singleton.1 hy];exact hc.s) (by rw[List.append_assoc];exact hn) (by rw[List.length_append,List.length_singleton];rw[List.length_cons]at hq;omega) fG
  obtain⟨r1,r2,r3,r4⟩:=this
  exact⟨r1,by rw[r2,List.append_assoc];rfl,by rw[r3,List.flatMap_cons,List.append_assoc],by rw[r4,List.append_assoc];rfl⟩
theorem GB.Z7{A:Ab}{c:TC}(h:GB A c){i:Nat}(hi:cE c.ws c.n (i:Int)=true):∃p,c.pf i=some p∧p.length=eB c.n i∧p.length≤10:=by
 obtain⟨b,a,n,p,c1,c2,c3,c4,c5⟩:=h.FP i hi
 exact⟨p,c4,Gt c5 h.n,oB c5⟩
theorem Dn{A:Ab}:∀(l Ja Yz:List TC),CA Ja Yz→(∀c∈l,GB A c)→((Yz++l).map fun c=>c.x.d).Nodup→CA ((l.flatMap o6).foldl dm Ja) (Yz++l)
 | [],Ja,Yz,h,_,_=>by simpa using h
 | c::l,Ja,Yz,h,hg,hn=>by
  have hc:=hg c (List.mem_cons_self ..)
  have iZ:∀y∈Ja,y.x.d≠c.x.d:=fun y hy=>by
   obtain⟨i,hi⟩:=List.mem_iff_getElem?.1 hy
   obtain⟨z,hz,Wi⟩:=h.left hi
   rw[Wi.x]
   rw[List.map_append,List.nodup_append]at hn
   exact hn.2.2 _ (List.mem_map.2 ⟨z,List.mem_of_getElem? hz,rfl⟩) _ (by simp)
  have h1:=hc.n
  have h2:=hc.ok
  obtain⟨c',e1,e2⟩:=JX iZ hc.r ah h2.2.1 (by have:=h2.1;omega) (fun i hi=>hc.Z7 hi)
  rw[List.flatMap_cons,List.foldl_append,e1]
  have:=Dn l (Ja++[c']) (Yz++[c]) (h.snoc e2) (fun y hy=>hg y (List.mem_cons_of_mem _ hy)) (by rw[List.append_assoc];exact hn)
  rw[List.append_assoc]at this
  exact this
theorem MQ{A:Ab}{c:TC}(h:GB A c):∀b∈o6 c,b.length≤900:=fun b hb=>by
 have hr:=df h.r
 have hn:=h.ok.1
 unfold o6 at hb
 rcases List.mem_cons.1 hb with rfl|hb
 ·exact su c.x ah ah
 ·obtain⟨i,hi,rfl⟩:=List.mem_map.1 hb
  have h1:=List.mem_filter.1 hi
  have h2:=List.mem_range.1 h1.1
  obtain⟨p,e1,_,e3⟩:=h.Z7 h1.2
  rw[e1]
  exact xH _ _ ah _ e3
def wC(cs:List TC):Nat:=(cs.map fun c=>1+(jB c).length).sum
theorem YG(ts:List Tk):wC (gh ts)=wT ts:=by unfold wC wT gh;rw[List.map_map];rfl
theorem xE:∀l:List TC,(l.flatMap o6).length=wC l
 | []=>rfl
 | c::l=>by
  have ih:=xE l
  unfold wC at ih ⊢
  rw[List.flatMap_cons,List.length_append,ih,List.map_cons,List.sum_cons]
  unfold o6
  rw[List.length_cons,List.length_map]
  omega
theorem Wb{c c':TC}(h:P1 c c'):jB c=jB c':=by
 unfold jB
 rw[h.n]
 refine List.filter_congr fun i _=>?_
 have:=h.b i
 rw[h.n]at this
 exact this
theorem YF:∀ {cs j6:List TC},CA cs j6→wC cs=wC j6:=fun {cs j6} h=>by
 unfold wC
 congr 1
 refine List.ext_getElem? fun i=>?_
 rw[List.getElem?_map,List.getElem?_map]
 cases hx:cs[i]? with
 | none =>
  rw[List.getElem?_eq_none (by rw[← h.1];exact List.getElem?_eq_none_iff.1 hx)]
 | some c =>
  obtain⟨c',kU,e⟩:=h.left hx
  rw[kU,Option.map_some,Option.map_some,Wb e]
theorem CA.nodup{cs j6:List TC}(h:CA cs j6):cs.map (fun c=>c.x.d)=j6.map fun c=>c.x.d:=by
 refine List.ext_getElem? fun i=>?_
 rw[List.getElem?_map,List.getElem?_map]
 cases hx:cs[i]? with
 | none =>
  rw[List.getElem?_eq_none (by rw[← h.1];exact List.getElem?_eq_none_iff.1 hx)]
 | some c =>
  obtain⟨c',kU,e⟩:=h.left hx
  rw[kU,Option.map_some,Option.map_some,e.x]
theorem CS.uL{k w u:Nat}{s:eU}{ts:List Tk}(h:CS k w u s ts){y:Tk}(hy:y∈ts):GB s.A y.c:=by
 obtain⟨h1,h2,h3,h4⟩:=h.ok y hy
 exact⟨h1,h2,h3,h4,h.has y hy,h.FP y hy⟩
theorem Nw(ts:List Tk):ts.length≤wT ts:=by
 induction ts with
 | nil=>exact Nat.zero_le _
 | cons t ts ih =>
  unfold wT at ih ⊢
  rw[List.map_cons,List.sum_cons,List.length_cons]
  omega
theorem Jy(ls:List (List UInt8)):(bX ls).length=32+(ls.flatMap aR).length:=by
 rw[FV,Kn]
theorem DQ.put{k:Nat}{A:Ab}{ls:List (List UInt8)}{C:List UInt8}{n s c:Int}{e:Nat}{y:PS}(h:DQ k A)(hv:vw A cS=some C)(hk:k≤180)(hl:(ls.flatMap aR).length≤95000)(hR:zQ cS ls (A,n,s,c) e y) :
  e=0∧DQ k y.1∧vw y.1=ew (vw A) cS (some (bX ls))∧y.2=(1,((ls.flatMap aR).length:Int),((ls.flatMap aR).length:Int)):=by
 have eH:=Jy ls
 have zD:=h.used
 have IK:=h.room
 have ld:=h.PE
 obtain⟨rfl,r1,r2,r3,r4⟩:=As h.ha dR jw oA h.fresh ah ah ah hR
 have hn:y.1.names.length=A.names.length:=h.ha.pN r1 (fun m=>by
  rw[r2]
  unfold ew
  split
  ·rename_i hm;rw[hm,hv];rfl
  ·rfl)
 refine⟨rfl,h.next r1 (Gn h.cz h.fresh r1 ah hR) r3 ah (fun m c' kU=>?_),r2,r4⟩
 rw[r2]at kU
 by_cases hm:m=cS
 ·subst hm
  rw[di]at kU
  injection kU with kU
  exact .inr (.inl ⟨rfl,by rw[← kU];omega⟩)
 ·rw[dz _ _ hm]at kU
  exact .inl kU
theorem CS.open{k w u j:Nat}{s:eU}{jn:JN}{ts:List Tk}{A':Ab}{e:Nat}{t:SJ}{cs:List TC}(h:CS k w u s ts)(hj:CJ j (s,jn) (gh ts))(hq:DQ k A')(pU:∀n c,vw s.A n=some c→vw A' n=some c)(WK:∀n,(∀d,n≠gZ d)→vw A' n=vw s.A n)(hk:k≤180)(hw:w≤100)(pn:j≤100)(hO:EW 1048576 A' e t cs) :
  e=0∧CA cs (gh ts)∧(∀n,n≠cS→vw t.1.A n=vw A' n)∧∀dW,gh dW=cs→CS k w (A'.aq.length+20) t.1 dW∧CJ w t (gh dW):=by
 obtain⟨C,n,ls,h1,h2,h3,h4,h5,h6,h7⟩:=hj.jr
 have WD:vw A' cS=some C:=pU _ _ h1
 have nJ:=l4 ls h6
 have hlen:=h2.len
 have lW:fH A' cS=ls:=by
  rw[Ez hq.ha WD,h2.found ah ah]
  exact pD ls fun x hx=>by have:=h6 x hx;omega
 obtain⟨e1,B,ho,hO⟩:=hO
 obtain⟨rfl,rfl⟩:=hq.open ho
 rw[if_neg ah]at hO
 obtain⟨s',jn',hT,rfl⟩:=hO
 obtain⟨e2,A1,j1,hR,hT⟩:=hT
 simp only at hR hT
 have zL:=sy hR
 rw[lW]at hT
 unfold nY at hR
 rw[if_neg (by rw[dR,jw];simp),if_neg (by rw[hq.ha.on];simp),lW]at hR
 obtain⟨y1,hR,rfl,rfl⟩:=hR
 obtain⟨rfl,d1,v1,j1e⟩:=hq.put WD hk ah hR
 rw[if_neg ah]at hT
 obtain⟨e3,s2,rs,hL,hT⟩:=hT
 obtain⟨C0,Xr⟩:∃C0,C0=ls.foldl dm []:=⟨_,rfl⟩
 rw[← Xr]at hL h7
 have ace:∀c∈C0,Ma c:=fun c hc=>(px ls).1 c (Xr ▸ hc)
 have mN:∀c∈C0,GB y1.1 c:=fun c hc=>by
  obtain⟨i,hi⟩:=List.mem_iff_getElem?.1 hc
  obtain⟨c',kU,he⟩:=h7.left hi
  obtain⟨y,hy,rfl⟩:=List.mem_map.1 (List.mem_of_getElem? kU)
  have hb:=(h.uL hy).of he (ace c hc).1
  refine hb.vw (fun b hb=>?_) ?_
  ·rw[v1,dz _ _ (iK _)];exact pU _ _ hb
  ·rw[v1,dz _ _ (jR _)];exact WK _ fun d e=>fZ _ _ e.symm
 have j4:(C0.map fun c=>c.x.d).Nodup:=by rw[h7.nodup,OK];exact h.nd
 have hlC:C0.length≤w:=by
  have e1:=h7.1
  rw[mU]at e1
  have:=Nw ts
  have:=h.wt
  omega
 obtain⟨rfl,rfl,rfl,rfl⟩:=vI (q:=1048576) d1 C0 [] _ [] e3 s2 _ rs rfl mN (fun c hc=>by cases hc) (by simpa using j4) (by simp only[List.length_nil];omega) hL
 rw[if_neg ah]at hT
 obtain⟨A3,hC,rfl⟩:=hT
 simp only[List.nil_append]at hC ⊢
 have hwC:wC cs=wT ts:=by rw[YF h7,YG]
 have hwt:=h.wt
 have D5:∀b∈cs.flatMap o6,b.length≤900:=fun b hb=>by
  obtain⟨c,hc,hb⟩:=List.mem_flatMap.1 hb
  exact MQ (mN c hc) b hb
 have NV:=xE cs
 have wu:=l4 _ D5
 have WJ:vw y1.1 cS=some (bX ls):=by rw[v1,di]
 unfold n7 at hC
 simp only[j1e]at hC
 rw[if_neg (by simp),if_neg (by
  rw[Bool.not_eq_true,List.any_eq_false]
  intro b hb
  have:=D5 b hb
  simp;omega),if_neg ah]at hC
 obtain⟨y3,hR3,rfl,rfl⟩:=hC
 have hg3:=u0 hR3
 obtain⟨rfl,d3,v3,j3e⟩:=d1.put WJ hk ah hR3
 have hv3:∀m,m≠cS→vw y3.1 m=vw B m:=fun m hm=>by rw[v3,dz _ _ hm,v1,dz _ _ hm]
 refine⟨rfl,h7,hv3,fun dW pR=>?_⟩
 have hgB:∀c∈cs,GB y3.1 c:=fun c hc=>(mN c hc).vw (fun b hb=>by rw[v3,dz _ _ (iK _)];exact hb) (by rw[v3,dz _ _ (jR _)])
 have fg:∀y∈dW,GB y3.1 y.c:=fun y hy=>hgB _ (by rw[← pR];exact List.mem_map.2 ⟨y,hy,rfl⟩)
 have PT:∀y∈dW,sI y.c:=fun y hy=>sI.told ls [] (fun c h=>by cases h) _ (by rw[← Xr,← pR];exact List.mem_map.2 ⟨y,hy,rfl⟩)
 have acX:=zL.1
 have acW:=hg3.1
 simp only at acX acW
 refine⟨⟨d3,rfl,fun z hz=>?_,fun y hy=>?_,?_,?_,fun y hy=>?_,?_,fun y hy=>(fg y hy).has,fun y hy i hi=>(fg y hy).FP i hi,?_,by simp only;omega,fun y hy=>PT y hy⟩,⟨bX (cs.flatMap o6),1,cs.flatMap o6,?_,JC.whole _,?_,ah,ah,D5,?_⟩⟩
 ·obtain⟨c,hc,rfl⟩:=List.mem_map.1 hz
  rw[← pR]at hc
  obtain⟨y,hy,rfl⟩:=List.mem_map.1 hc
  exact⟨rfl,y,hy,rfl⟩
 ·exact AY (c:=y.c) j4 (by rw[← pR];exact List.mem_map.2 ⟨y,hy,rfl⟩)
 ·show((nj cs).map (·.1)).Nodup
  unfold nj
  rw[List.map_map]
  exact j4
 ·show(nj cs).length≤w
  unfold nj
  rw[List.length_map]
  exact hlC
 ·exact⟨(fg y hy).r,(fg y hy).s,(fg y hy).n,(fg y hy).ok⟩
 ·rw[← OK,pR];exact j4
 ·rw[← YG,pR,hwC];exact hwt
 ·show vw y3.1 cS=_
  rw[v3,di]
 ·rw[j3e]
  simp
 ·rw[pR]
  have:=Dn (A:=y3.1) cs [] [] eT.nil hgB (by simpa using j4)
  simpa using this
end Go.Proofs.YtedjnjkijiddlaaGreatDoor
