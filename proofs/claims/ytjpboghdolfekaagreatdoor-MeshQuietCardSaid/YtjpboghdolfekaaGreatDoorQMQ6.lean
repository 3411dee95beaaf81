import Derived.Test.YtjpboghdolfekaaGreatDoorQMQ2
import Derived.Test.YtjpboghdolfekaaGreatDoorQMQ3
import Derived.Test.YtjpboghdolfekaaGreatDoorQMQ4
import Derived.Test.YtjpboghdolfekaaGreatDoorQMQ5
import Derived.WideKeyRuns
set_option linter.unusedSectionVars false
set_option linter.unusedSimpArgs false
set_option linter.unusedVariables false
set_option maxRecDepth 20000
set_option linter.defProp false
namespace Go.Proofs.YtjpboghdolfekaaGreatDoor
open Go Go.SL
attribute [local irreducible] J K aw Ends ag aH au bE aW aJ a6
def F1(bd:Nat)(D:Dk)(A:Ab)(hR:Rel D A)(old name:ByteArray)(dE:A.aI.length≤1000000000) :
  aw Tryz.prog 312 [ptr bd,.string old,.string name] [fG bd D]
   (fun v H=>∃D',Rel D' (A.rename ([old,name].all isName) old name).2∧H=[fG bd D']∧v = .int .i64 (A.rename ([old,name].all isName) old name).1):=by
 refine aw.ao Tryz.func312 Tryz.ntmps312 fun G F R hE=>?_
 refine go ?_
 refine bC zr zr bq ?_
 intro wS
 refine bC zr zr bq ?_
 intro wR
 refine go ?_
 cases Bm:(A.find old ([old,name].all isName)).2.1 with
 | none =>
  refine aO (fun w=>Sat G w ([ag wR (cl [.string name] 9),ag wS (cl [.string old] 9)])) (cM 0 4 (.fork (.act 4 (.fork (.act 5 (.fork (.act 6 (cM 7 3 (.act 10 (.act 11 (.st 12 .nil))))) (.act 10 (.act 6 (cM 7 3 (.act 11 (.st 12 .nil))))))) (.act 10 (.act 5 (.act 6 (cM 7 3 (.act 11 (.st 12 .nil)))))))) (.act 10 (.act 4 (.act 5 (.act 6 (cM 7 3 (.act 11 (.st 12 .nil))))))))) rfl ae ae ae (fun w hw=>hw.cp (ak.bu ([0,1]) rfl)) ?_
  repeat'(first|(with_reducible intro kQ)|refine eK ?_|refine nL ?_ ?_|refine aD zr zr ?_ ?_|(refine aq zr zr zr zr zr zr zr zr zr (fun _ w hw=>hw.cp (by first|exact ak.bu [1,2] rfl|exact ak.bu [2,3] rfl)) ?_;intro _)|(refine aB zr zr zr (fun _ w hw=>hw.cp (by first|exact ak.bu [1,2] rfl|exact ak.bu [2,3] rfl|exact ak.bu [3,4] rfl)) ?_;intro _)|(refine bS [0] rfl rfl rfl rfl (iE _ _ [old,name] (Vw.ag rfl) (by simp)) rfl (fun _ _ w hp hw=>by obtain⟨_,rfl⟩:=hp;exact(fun _ w hw=>hw.cp (by first|exact ak.bu [1,2] rfl|exact ak.bu [2,3] rfl)) 0 w hw) ?_;rintro _ _⟨rfl,rfl⟩)|(refine bS [1] rfl rfl rfl rfl (iE _ _ [old,name] (Vw.ag rfl) (by simp)) rfl (fun _ _ w hp hw=>by obtain⟨_,rfl⟩:=hp;exact(fun _ w hw=>hw.cp (by(exact ak.bu [2,3] rfl))) 0 w hw) ?_;rintro _ _⟨rfl,rfl⟩)|(refine bS [3] rfl rfl rfl rfl (iW bd D A hR old ([old,name].all isName)) rfl (fun _ _ w hp hw=>by obtain⟨_,_,rfl,_⟩:=hp;exact(fun _ w hw=>hw.cp (by(exact ak.bu [2,3] rfl))) 0 w hw) ?_;rintro _ _⟨D',fh,rfl,rfl⟩;rw[Bm])|(refine bS [4] rfl rfl rfl rfl (iW bd D A hR old ([old,name].all isName)) rfl (fun _ _ w hp hw=>by obtain⟨_,_,rfl,_⟩:=hp;exact(fun _ w hw=>hw.cp (by(exact ak.bu [3,4] rfl))) 0 w hw) ?_;rintro _ _⟨D',fh,rfl,rfl⟩;rw[Bm])|(refine aX ?_;first|refine bG 0 (fun w hw=>(fun _ w hw=>hw.cp (by(exact ak.bu [3,4] rfl))) 0 w hw) zr zr zr zr zr zr zr zr zr ?_|refine bG 1 (fun w hw=>(fun _ w hw=>hw.cp (by(exact ak.bu [3,4] rfl))) 0 w hw) zr zr zr zr zr zr zr zr zr ?_|refine bG 2 (fun w hw=>(fun _ w hw=>hw.cp (by(exact ak.bu [3,4] rfl))) 0 w hw) zr zr zr zr zr zr zr zr zr ?_))
  all_goals(
   have n9:¬(A.find old ([old,name].all isName)).1=0:=fun h=>by obtain⟨_,fl,h1,_⟩:=kL h;rw[Bm]at h1;cases h1
   have hw:A.rename ([old,name].all isName) old name=((A.find old ([old,name].all isName)).1,(A.find old ([old,name].all isName)).2.2):=by
    unfold Ab.rename
    generalize A.find old ([old,name].all isName)=z at n9 Bm ⊢
    obtain⟨e,fo,A1⟩:=z
    simp only at Bm
    subst Bm
    cases e <;> rfl
   rw[hw]at hE
   first|(exfalso;omega)|refine aL hE Tryz.func312 rfl _ rfl ⟨D',fh,rfl,rfl⟩ (ak.fin [0] 4 zr zr)|refine aL hE Tryz.func312 rfl _ rfl ⟨D',fh,rfl,rfl⟩ (ak.fin [1] 4 zr zr))
 | some fl =>
  refine aO (fun w=>Sat G w ([ag wR (cl [.string name] 9),ag wS (cl [.string old] 9)])) (cM 0 4 (.fork (.act 4 (.fork (.act 5 (.fork (.act 6 (cM 7 3 (.act 10 (.act 11 (.st 12 .nil))))) (.act 10 (.act 6 (cM 7 3 (.act 11 (.st 12 .nil))))))) (.act 10 (.act 5 (.act 6 (cM 7 3 (.act 11 (.st 12 .nil)))))))) (.act 10 (.act 4 (.act 5 (.act 6 (cM 7 3 (.act 11 (.st 12 .nil))))))))) rfl ae ae ae (fun w hw=>hw.cp (ak.bu ([0,1]) rfl)) ?_
  repeat'(first|(with_reducible intro kQ)|refine eK ?_|refine nL ?_ ?_|refine aD zr zr ?_ ?_|(refine aq zr zr zr zr zr zr zr zr zr (fun _ w hw=>hw.cp (by first|exact ak.bu [1,2] rfl|exact ak.bu [2,3] rfl)) ?_;intro _)|(refine aB zr zr zr (fun _ w hw=>hw.cp (by first|exact ak.bu [1,2] rfl|exact ak.bu [2,3] rfl|exact ak.bu [3,4] rfl)) ?_;intro _)|(refine bS [0] rfl rfl rfl rfl (iE _ _ [old,name] (Vw.ag rfl) (by simp)) rfl (fun _ _ w hp hw=>by obtain⟨_,rfl⟩:=hp;exact(fun _ w hw=>hw.cp (by first|exact ak.bu [1,2] rfl|exact ak.bu [2,3] rfl)) 0 w hw) ?_;rintro _ _⟨rfl,rfl⟩)|(refine bS [1] rfl rfl rfl rfl (iE _ _ [old,name] (Vw.ag rfl) (by simp)) rfl (fun _ _ w hp hw=>by obtain⟨_,rfl⟩:=hp;exact(fun _ w hw=>hw.cp (by(exact ak.bu [2,3] rfl))) 0 w hw) ?_;rintro _ _⟨rfl,rfl⟩)|(refine bS [3] rfl rfl rfl rfl (iW bd D A hR old ([old,name].all isName)) rfl (fun _ _ w hp hw=>by obtain⟨_,_,rfl,_⟩:=hp;exact(fun _ w hw=>hw.cp (by(exact ak.bu [2,3] rfl))) 0 w hw) ?_;rintro _ _⟨D',fh,rfl,rfl⟩;rw[Bm])|(refine bS [4] rfl rfl rfl rfl (iW bd D A hR old ([old,name].all isName)) rfl (fun _ _ w hp hw=>by obtain⟨_,_,rfl,_⟩:=hp;exact(fun _ w hw=>hw.cp (by(exact ak.bu [3,4] rfl))) 0 w hw) ?_;rintro _ _⟨D',fh,rfl,rfl⟩;rw[Bm])|(refine aX ?_;first|refine bG 0 (fun w hw=>(fun _ w hw=>hw.cp (by(exact ak.bu [3,4] rfl))) 0 w hw) zr zr zr zr zr zr zr zr zr ?_|refine bG 1 (fun w hw=>(fun _ w hw=>hw.cp (by(exact ak.bu [3,4] rfl))) 0 w hw) zr zr zr zr zr zr zr zr zr ?_|refine bG 2 (fun w hw=>(fun _ w hw=>hw.cp (by(exact ak.bu [3,4] rfl))) 0 w hw) zr zr zr zr zr zr zr zr zr ?_))
  all_goals(
   have n9:(A.find old ([old,name].all isName)).1=0:=by
    rcases Nat.eq_zero_or_pos (A.find old ([old,name].all isName)).1 with h|h
    ·exact h
    ·exfalso
     unfold Ab.find at Bm h
     split at Bm
     ·rename_i h1
      rw[if_pos h1]at h
      cases hl:(A.meet ([old,name].all isName)).2.look old with
      | none=>rw[hl]at Bm;cases Bm
      | some f=>rw[hl]at h;simp at h
     ·cases Bm)
  any_goals (exfalso;omega)
  all_goals(
   obtain⟨_,fl',adD,dU⟩:=kL n9
   rw[Bm]at adD
   cases adD
   have hw:A.rename ([old,name].all isName) old name=(0,(A.find old ([old,name].all isName)).2.2.nU (Ab.jl (Ab.dZ (A.find old ([old,name].all isName)).2.2.names old) name fl)):=by
    unfold Ab.rename
    generalize A.find old ([old,name].all isName)=z at n9 Bm ⊢
    obtain⟨e,fo,A1⟩:=z
    simp only at n9 Bm
    subst n9 Bm
    rfl
   rw[hw]at hE
   have Mo:(A.find old ([old,name].all isName)).2.2.aI.length≤1000000000:=by rw[(mD A old _).2.2.1];exact dE
   generalize (A.find old ([old,name].all isName)).2.2=A1 at *
   have Mm:D'.fg.length≤1000000000:=by rw[fh.aI.1];exact Mo
   have hN:=fh.ek _ (List.mem_cons_self ..)
   have cB:=PV dU
   have Ku:=K6 (Ab.dZ A1.names old) name fl
   have aaC:∀b' v,Rel { D' with bm:=b',maps:=(b',dT (Ab.jl (Ab.dZ A1.names old) name fl))::D'.maps,k5:=v,fg:=D'.fg++[b'] } (A1.nU (Ab.jl (Ab.dZ A1.names old) name fl)):=fun b' v=>fh.nU
    (fun x hx=>by
     rcases K5 hx with rfl|hx
     ·have:=fh.known _ (List.mem_cons_self ..) _ dU;exact this
     ·exact fh.known _ (List.mem_cons_self ..) _ (C2 hx).1)
    (Ei (wF (fh.nodup _ (List.mem_cons_self ..)) old) name fl) aj
   first|(refine aR (ak.pick ([4,0,3,1]) rfl) ?_;refine aR (ak.bT [_,_,_] _) ?_;refine bS [1,0] zr zr zr zr (kO (α:=Unit) bd D' A1.names fh.names 426 #[ptr wS,ptr _,ptr wR] _ (fun _=>Ab.jl (Ab.dZ A1.names old) name fl) (fun _=>emp) (fun _=>True) (fun b'=>aw.post (oW b' wS _ wR fl A1.names old name) (fun v H h=>⟨(),trivial,h⟩)) Mm) rfl iM ?_;rintro _ _⟨_,b',v,_,rfl⟩;refine go ?_;refine aL hE Tryz.func312 rfl _ rfl ⟨_,aaC b' v,rfl,rfl⟩ (ak.fin [0] 2 zr zr))|(refine aR (ak.pick ([4,1,3,0]) rfl) ?_;refine aR (ak.bT [_,_,_] _) ?_;refine bS [1,0] zr zr zr zr (kO (α:=Unit) bd D' A1.names fh.names 426 #[ptr wS,ptr _,ptr wR] _ (fun _=>Ab.jl (Ab.dZ A1.names old) name fl) (fun _=>emp) (fun _=>True) (fun b'=>aw.post (oW b' wS _ wR fl A1.names old name) (fun v H h=>⟨(),trivial,h⟩)) Mm) rfl iM ?_;rintro _ _⟨_,b',v,_,rfl⟩;refine go ?_;refine aL hE Tryz.func312 rfl _ rfl ⟨_,aaC b' v,rfl,rfl⟩ (ak.fin [0] 2 zr zr))|(refine aR (ak.pick ([4,2,3,0]) rfl) ?_;refine aR (ak.bT [_,_,_] _) ?_;refine bS [1,0] zr zr zr zr (kO (α:=Unit) bd D' A1.names fh.names 426 #[ptr wS,ptr _,ptr wR] _ (fun _=>Ab.jl (Ab.dZ A1.names old) name fl) (fun _=>emp) (fun _=>True) (fun b'=>aw.post (oW b' wS _ wR fl A1.names old name) (fun v H h=>⟨(),trivial,h⟩)) Mm) rfl iM ?_;rintro _ _⟨_,b',v,_,rfl⟩;refine go ?_;refine aL hE Tryz.func312 rfl _ rfl ⟨_,aaC b' v,rfl,rfl⟩ (ak.fin [0] 2 zr zr)))
end Go.Proofs.YtjpboghdolfekaaGreatDoor
namespace Go.SL
def Bo(M:eG)(s:Nat)(v:Value)(n:Nat)(cs:List Value):Prop :=
 cs.length=n*s∧∃a cap,v = .slice a n cap∧n≤cap∧(n=0∨∃b o row,a=Option.some ⟨b,o,none⟩∧(b,row)∈M∧(row.drop o).take cs.length=cs)
def Bo.mono{M M':eG}{s n:Nat}{v:Value}{cs:List Value}(h:Bo M s v n cs)(hs:∀x∈M,x∈M'):Bo M' s v n cs:=by
 obtain⟨hl,a,cap,hv,hc,h0|⟨b,o,row,ha,hm,ht⟩⟩:=h
 ·exact⟨hl,a,cap,hv,hc,.inl h0⟩
 ·exact⟨hl,a,cap,hv,hc,.inr ⟨b,o,row,ha,hs _ hm,ht⟩⟩
theorem Bo.nil(M:eG)(s:Nat)(a:Option Addr)(cap:Nat):Bo M s (.slice a 0 cap) 0 []:=⟨by simp,a,cap,rfl,Nat.zero_le _,.inl rfl⟩
def Bo.shape{M:eG}{s n:Nat}{v:Value}{cs:List Value}(h:Bo M s v n cs):∃a cap,v = .slice a n cap∧n≤cap:=by
 obtain⟨_,a,cap,hv,hc,_⟩:=h;exact⟨a,cap,hv,hc⟩
def Bo.view{M:eG}{s n:Nat}{v:Value}{cs:List Value}(h:Bo M s v n cs)(e:TypeId):Vw (a6 e M) v n cs:=by
 obtain⟨hl,a,cap,rfl,hc,h0|⟨b,o,row,ha,hm,ht⟩⟩:=h
 ·have:cs=[]:=List.eq_nil_of_length_eq_zero (by rw[hl,h0,Nat.zero_mul])
  subst h0 this;exact⟨a,cap,rfl,.inl rfl⟩
 ·have h1:Vw (ag b (cl row e)) (.slice a n cap) n cs:=by rw[ha];exact Vw.ag ht
  exact h1.mono fun h hs=>AQ (List.mem_map.2 ⟨(b,row),hm,rfl⟩) hs
theorem BN(e:TypeId)(s n:Nat)(v:Value)(cs:List Value)(M:eG):∀h,star (aH e s v n cs) (a6 e M) h→∃M',(Bo M' s v n cs∧∀x∈M,x∈M')∧Sep [a6 e M'] h:=by
 rintro h⟨h1,h2,⟨hl,⟨a,rfl,hn,he⟩|⟨b,o,cap,pre,junk,rfl,hp,hn,hc,vW⟩⟩,hM,hd,hj⟩
 ·have:cs=[]:=List.eq_nil_of_length_eq_zero (by rw[hl,hn,Nat.zero_mul])
  subst hn this
  exact⟨M,⟨Bo.nil M s a 0,fun _ h=>h⟩,di (wD ⟨h1,h2,he,hM,hd,hj⟩)⟩
 ·refine⟨(b,pre++cs++junk)::M,⟨⟨hl,_,cap,rfl,hn,.inr ⟨b,o,pre++cs++junk,rfl,by simp,?_⟩⟩,fun x hx=>by simp[hx]⟩,di ⟨h1,h2,vW,hM,hd,hj⟩⟩
  grind
def aw.conv{P:Program}{f:FuncId}{args:List Value}{Pre Nw:List HP}{Post tS:Value→List HP→Prop}(c:aw P f args Pre Post)(h:ak Nw Pre)(hp:∀v H,Post v H→∃H',tS v H'∧ak H H'):aw P f args Nw tS :=
 ⟨c.1,fun G w F hw=>(c.2 G w F (hw.cp (ak.append F h))).mono fun e w' h'=>let ⟨v,H,he,Pc,hs⟩:=h';let ⟨H',hq,hE⟩:=hp v H Pc;⟨v,H',he,hq,hs.cp (ak.append F hE)⟩⟩
def aw.frame{P:Program}{f:FuncId}{args:List Value}{Pre:List HP}{Post:Value→List HP→Prop}(X:List HP)(c:aw P f args Pre Post):aw P f args (Pre++X) (fun v H=>∃H',Post v H'∧H=H'++X) :=
 ⟨c.1,fun G w F hw=>(c.2 G w (X++F) (by rw[List.append_assoc]at hw;exact hw)).mono fun e w' h'=>let ⟨v,H,he,Pc,hs⟩:=h';⟨v,H++X,he,⟨H,Pc,rfl⟩,by rw[List.append_assoc];exact hs⟩⟩
def aw.MQ{P:Program}{f:FuncId}{args:List Value}{v:Value}(X:HP)(c:aw P f args [] (fun r H=>r=v∧H=[])):aw P f args [X] (fun r H=>r=v∧H=[X]) :=
 aw.post (aw.frame [X] c) (by rintro r H⟨H',⟨rfl,rfl⟩,rfl⟩;exact⟨rfl,rfl⟩)
end Go.SL
namespace Go.Proofs.YtjpboghdolfekaaGreatDoor
open Go Go.SL
def sT{σ:Type}:List (σ→Nat→σ→Prop)→σ→Nat→σ→Prop
 | [],x,e,y=>e=0∧y=x
 | s::ss,x,e,y=>∃e1 x1,s x e1 x1∧((e1≠0∧e=e1∧y=x1)∨(e1=0∧sT ss x1 e y))
attribute [local irreducible] J K aw Ends ag aH au bE aW aJ a6
def aG(bd:Nat)(A:Ab):HP:=fun h=>∃D,Rel D A∧fG bd D h
def fD{bd:Nat}{D:Dk}{A:Ab}(h:Rel D A)(H:List HP):ak (fG bd D::H) (aG bd A::H):=ak.fold (B:=[_]) fun h' hs=>⟨h',sub.refl h',D,h,cT hs⟩
def Ic{G:cg}{w:World}{bd:Nat}{A:Ab}{H:List HP}(hs:Sat G w (aG bd A::H)):∃D,Rel D A∧Sat G w (fG bd D::H):=by
 obtain⟨t,o,u,hp,yV,h1,h2,⟨D,hR,hA⟩,hH,hd,he⟩:=hs
 exact⟨D,hR,t,o,u,hp,yV,h1,h2,hA,hH,hd,he⟩
end Go.Proofs.YtjpboghdolfekaaGreatDoor
namespace Go.Proofs.YtjpboghdolfekaaGreatDoor
open Go Go.SL
def fW{P:Program}{f:FuncId}{args:List Value}{bd:Nat}{A:Ab}{Pre:List HP}{Post tS:Value→List HP→Prop}(hc:P.funcs[f]?.map hG=some true)(h:∀D,Rel D A→aw P f args (fG bd D::Pre) Post)(hp:∀v H,Post v H→∃H',tS v H'∧ak H H'):aw P f args (aG bd A::Pre) tS :=
  ⟨hc,fun G w F hw=>by
    obtain⟨D,hR,yU⟩:=Ic hw
    exact((h D hR).2 G w F yU).mono fun e w' h'=>let ⟨v,H,he,Pc,hs⟩:=h';let ⟨H',hq,hE⟩:=hp v H Pc;⟨v,H',he,hq,hs.cp (ak.append F hE)⟩⟩
attribute [local irreducible] J K aw Ends ag aH au bE aW aJ a6
def Ny(bd:Nat)(A:Ab):aw Tryz.prog 106 [ptr bd] [aG bd A] (fun v H=>v = .bool A.off∧H=[aG bd A]):=by
 refine fW ae (Post:=fun v H=>v = .bool A.off∧H=[aG bd A]) (fun D hR=>?_) (fun v H h=>⟨H,h,ak.refl _⟩)
 obtain⟨room,bm,k5,mJ,l5,off,maps,dg,files,fg,wl⟩:=D
 have iS:=hR.off
 simp only at iS
 subst iS
 refine aw.ao Tryz.func106 Tryz.ntmps106 fun G F R hE=>?_
 refine ai (gD _ _ _ _ _ _ _ _ _ _ _ _ _) (go ?_)
 refine ai ((ak.pick [0,1,2,3,4,5] rfl).trans (dy _ _ _ _ _ _ _ _ _ _ _ _ _)) ?_
 refine ai (fD hR _) ?_
 refine ad hE Tryz.func106 zr zr ⟨rfl,rfl⟩
def NC(room:Nat)(h1:1≤room)(h2:room≤1073741824):aw Tryz.prog 19 [.int .i64 room] [] (fun v H=>∃bd,v = .tuple #[ptr bd,.int .i64 0]∧H=[aG bd (Ab.new room)]) :=
 (NB room h1 h2).conv (ak.refl _) (by rintro v H⟨bd,D,hR,rfl,rfl⟩;exact⟨_,⟨bd,rfl,rfl⟩,fD hR _⟩)
def rA(bd:Nat)(A:Ab)(name:ByteArray):aw Tryz.prog 189 [ptr bd,.string name] [aG bd A] (fun v H=>H=[aG bd A]∧v = .tuple #[.int .i64 (A.size name).1,.int .i64 (A.size name).2]) :=
 fW ae (Post:=fun v H=>∃D,Rel D A∧H=[fG bd D]∧v = .tuple #[.int .i64 (A.size name).1,.int .i64 (A.size name).2]) (fun D hR=>(Ns bd D A hR name).conv (ak.refl _) (by rintro v H⟨rfl,rfl⟩;exact⟨_,⟨D,hR,rfl,rfl⟩,ak.refl _⟩)) (by rintro v H⟨D,hR,rfl,rfl⟩;exact⟨_,⟨rfl,rfl⟩,fD hR _⟩)
def AT(bd:Nat)(A:Ab)(name:ByteArray)(at_ n:Int):aw Tryz.prog 190 [ptr bd,.string name,.int .i64 at_,.int .i64 n] [aG bd A]
  (fun v H=>∃r,H=[aG bd A,aH 5 1 r (A.read name at_ n).1.length (bV (A.read name at_ n).1)]∧v = .tuple #[r,.int .i64 (A.read name at_ n).2]) :=
 fW ae (Post:=fun v H=>∃D r,Rel D A∧H=[aH 5 1 r (A.read name at_ n).1.length (bV (A.read name at_ n).1),fG bd D]∧v = .tuple #[r,.int .i64 (A.read name at_ n).2])
  (fun D hR=>(Nv bd D A hR name at_ n).conv (ak.refl _) (by rintro v H⟨r,rfl,rfl⟩;exact⟨_,⟨D,r,hR,rfl,rfl⟩,ak.refl _⟩)) (by rintro v H⟨D,r,hR,rfl,rfl⟩;exact⟨_,⟨r,rfl,rfl⟩,(ak.pick [1,0] rfl).trans (fD hR _)⟩)
def sW(bd:Nat)(A:Ab)(name:ByteArray)(dE:A.aI.length≤1000000000):aw Tryz.prog 203 [ptr bd,.string name] [aG bd A]
  (fun v H=>∃f,f ∉ A.fs.map (·.1)∧H=[aG bd (A.create (isName name) name f).2]∧v = .int .i64 (A.create (isName name) name f).1) :=
 fW ae (fun D hR=>Gh bd D A hR name dE) (by rintro v H⟨f,D',hf,hR,rfl,rfl⟩;exact⟨_,⟨f,hf,rfl,rfl⟩,fD hR _⟩)
def zz(bd:Nat)(A:Ab)(name:ByteArray)(dE:A.aI.length≤1000000000):aw Tryz.prog 175 [ptr bd,.string name] [aG bd A]
  (fun v H=>H=[aG bd (A.remove (isName name) name).2]∧v = .int .i64 (A.remove (isName name) name).1) :=
 fW ae (fun D hR=>F3 bd D A hR name dE) (by rintro v H⟨D',hR,rfl,rfl⟩;exact⟨_,⟨rfl,rfl⟩,fD hR _⟩)
def Nn(bd:Nat)(A:Ab)(name:ByteArray)(at_:Int)(X:HP)(bv:Value)(b:List UInt8)(hv:Vw X bv b.length (bV b))(k4:A.writes.length≤1000000000)(uj:b.length≤1000000000)(hat : -9223372036854775808≤at_∧at_≤9223372036854775807) :
  aw Tryz.prog 264 [ptr bd,.string name,.int .i64 at_,bv] [aG bd A,X]
   (fun v H=>H=[aG bd (A.write (kF name at_ b) name at_.toNat b).2,X]∧v = .int .i64 (A.write (kF name at_ b) name at_.toNat b).1) :=
 fW ae (fun D hR=>JJ bd D A hR name at_ X bv b hv k4 uj hat) (by rintro v H⟨D',hR,rfl,rfl⟩;exact⟨_,⟨rfl,rfl⟩,fD hR _⟩)
def P9(bd:Nat)(A:Ab)(name:ByteArray)(k4:A.writes.length≤1000000000):aw Tryz.prog 310 [ptr bd,.string name] [aG bd A]
  (fun v H=>H=[aG bd (A.sync (isName name) name).2]∧v = .int .i64 (A.sync (isName name) name).1) :=
 fW ae (fun D hR=>Nr bd D A hR name k4) (by rintro v H⟨D',hR,rfl,rfl⟩;exact⟨_,⟨rfl,rfl⟩,fD hR _⟩)
def nF(bd:Nat)(A:Ab):aw Tryz.prog 115 [ptr bd] [aG bd A]
  (fun v H=>H=[aG bd A.cq.2]∧v = .int .i64 A.cq.1) :=
 fW ae (fun D hR=>yc bd D A hR) (by rintro v H⟨D',hR,rfl,rfl⟩;exact⟨_,⟨rfl,rfl⟩,fD hR _⟩)
def JQ(bd:Nat)(A:Ab)(old name:ByteArray)(dE:A.aI.length≤1000000000):aw Tryz.prog 312 [ptr bd,.string old,.string name] [aG bd A]
  (fun v H=>H=[aG bd (A.rename ([old,name].all isName) old name).2]∧v = .int .i64 (A.rename ([old,name].all isName) old name).1) :=
 fW ae (fun D hR=>F1 bd D A hR old name dE) (by rintro v H⟨D',hR,rfl,rfl⟩;exact⟨_,⟨rfl,rfl⟩,fD hR _⟩)
def N3(bd:Nat)(A:Ab)(last dS cut:Int)(X:HP)(bv:Value)(stay:List UInt8)(hv:Vw X bv stay.length (bV stay))(eR:stay.length≤9223372036854775807)(dE:A.aI.length≤1000000000)(k4:A.writes.length≤1000000000)(h1 : -9223372036854775808≤last∧last≤9223372036854775807)(h2 : -9223372036854775808≤dS∧dS≤9223372036854775807)(h3 : -9223372036854775808≤cut∧cut≤9223372036854775807) :
  aw Tryz.prog 54 [ptr bd,.int .i64 last,bv,.int .i64 dS,.int .i64 cut] [aG bd A,X] (fun v H=>H=[aG bd (A.rp last stay dS cut),X]) :=
 fW ae (fun D hR=>Kf bd D A hR last dS cut X bv stay hv eR dE k4 h1 h2 h3) (by rintro v H⟨D',hR,rfl⟩;exact⟨_,rfl,fD hR _⟩)
end Go.Proofs.YtjpboghdolfekaaGreatDoor
namespace Go.Proofs.YtjpboghdolfekaaGreatDoor
open Go Go.SL
def kY(A B:Ab):Prop:=B.aI.length≤A.aI.length+1∧B.writes.length≤A.writes.length+1
theorem pt(A:Ab)(n:ByteArray)(ok:Bool):(A.find n ok).2.2.aI.length=A.aI.length∧(A.find n ok).2.2.writes.length=A.writes.length:=by
 grind [mD]
theorem y9(A:Ab)(ok:Bool):(A.meet ok).2.aI.length=A.aI.length∧(A.meet ok).2.writes.length=A.writes.length:=by
 unfold Ab.meet
 grind
def oN(A:Ab)(ok:Bool)(n:ByteArray):kY A (A.remove ok n).2:=by
 have h:=pt A n ok
 unfold Ab.remove
 split
 ·rename_i f A1 he
  rw[he]at h
  simp only at h
  constructor <;> simp[Ab.nU] <;> omega
 ·rename_i e o A1 _ he
  rw[he]at h
  simp only at h
  constructor <;> simp only <;> omega
def tO(A:Ab)(ok:Bool)(o n:ByteArray):kY A (A.rename ok o n).2:=by
 have h:=pt A o ok
 unfold Ab.rename
 split
 ·rename_i f A1 he
  rw[he]at h
  simp only at h
  constructor <;> simp[Ab.nU] <;> omega
 ·rename_i e o A1 _ he
  rw[he]at h
  simp only at h
  constructor <;> simp only <;> omega
theorem oO(A:Ab)(ok:Bool)(n:ByteArray)(f:Nat):kY A (A.create ok n f).2:=by
 have h:=y9 A ok
 unfold Ab.create
 split
 ·split
  ·constructor <;> simp only <;> omega
  split
  ·constructor <;> simp only <;> omega
  ·constructor <;> simp[Ab.nU] <;> omega
 ·constructor <;> simp only <;> omega
def we(A:Ab)(ok:Bool)(n:ByteArray)(at_:Nat)(b:List UInt8):kY A (A.write ok n at_ b).2:=by
 have h:=pt A n ok
 unfold Ab.write
 split
 ·split
  ·split
   ·constructor <;> simp only <;> omega
   ·constructor <;> simp <;> omega
  ·constructor <;> simp only <;> omega
 ·constructor <;> simp only <;> omega
theorem y8(A:Ab)(ok:Bool)(n:ByteArray):kY A (A.sync ok n).2:=by
 have h:=pt A n ok
 unfold Ab.sync
 split
 ·split
  ·constructor
   ·grind
   grind
  ·constructor <;> simp only <;> omega
 ·constructor <;> simp only <;> omega
def iT(A:Ab):kY A A.cq.2:=by
 have h:=y9 A true
 unfold Ab.cq
 split
 ·constructor <;> simp only[List.length_singleton] <;> omega
 ·constructor <;> simp only <;> omega
instance aeq(n:ByteArray)(K:List ByteArray):Decidable (n∈K):=decidable_of_iff (K.any (fun x=>decide (x=n))=true) (by rw[List.any_eq_true];exact⟨fun⟨x,hx,h⟩=>of_decide_eq_true h ▸ hx,fun h=>⟨n,h,decide_eq_true rfl⟩⟩)
def gj(A:Ab):List ByteArray:=A.names.map (·.1)
def ET{α:Type}{a b:List α}(ha:a.Nodup)(hb:b.Nodup)(h:∀n,n∈a↔n∈b):a.length=b.length :=
 ((List.perm_ext_iff_of_nodup ha hb).2 h).length_eq
def ov(l:List ByteArray):List (List UInt8):=(l.map fun b=>b.data.toList).mergeSort fun x y=>decide (x≤y)
def qH(l:List ByteArray):(ov l).Pairwise (·≤·) :=
 (List.pairwise_mergeSort (le:=fun x y:List UInt8=>decide (x≤y)) (fun a b c h1 h2=>decide_eq_true (List.le_trans (of_decide_eq_true h1) (of_decide_eq_true h2))) (fun a b=>by simpa using List.le_total a b) _).imp fun h=>of_decide_eq_true h
def lj(l:List ByteArray):(ov l).Perm (l.map fun b=>b.data.toList):=List.mergeSort_perm _ _
def Ee{a b:List ByteArray}(h:a.Perm b):ov a=ov b :=
 List.Perm.eq_of_pairwise (fun x y _ _ h1 h2=>List.le_antisymm h1 h2) (qH a) (qH b) ((lj a).trans ((h.map _).trans (lj b).symm))
def si(l:List ByteArray):(ov l).length=l.length:=by rw[(lj l).length_eq,List.length_map]
def kS:List UInt8:=[115,45]
def kB:List UInt8:=[98,45]
def kN:List UInt8:=[110,45]
def kI:List UInt8:=[105,45]
def qg(A:Ab)(nm:ByteArray):Bool:=(A.look nm).isSome
def gg(A:Ab)(nm:ByteArray):Option (List UInt8):=match A.look nm with
 | none=>none
 | some f=>if A.off then none else some (A.now f)
def iy(A:Ab)(d:Dg):Option (List Bl):=(gg A (eZ kI d)).bind wG
def jh(A:Ab)(d:Dg):Bool:=match gg A (eZ kB d)with
 | none=>false
 | some b=>decide (ff b=d)
def eV(A:Ab)(d:Dg):Bool:=match iy A d with
 | none=>false
 | some x=>decide (tz x=d) && x.all fun y=>jh A y.d
def KK(A:Ab):Nat:=(A.names.map fun x=>if(gk kB x.1).isSome then(A.now x.2).length else 0).sum
def eQ(A:Ab):List ByteArray:=(ov (gj A)).map strOf
def lz(A:Ab):List Dg:=(eQ A).filterMap (gk kI)
abbrev FV:=Ab→Nat→Ab→Prop
def gq(nm:ByteArray):FV:=fun A e B=>∃f,f ∉ A.fs.map (·.1)∧(e,B)=A.create (isName nm) nm f
def BD(nm:ByteArray):FV:=fun A e B=>(e,B)=A.remove (isName nm) nm
def uw(nm:ByteArray)(at_:Nat)(b:List UInt8):FV:=fun A e B=>(e,B)=A.write (kF nm at_ b) nm at_ b
def zO(nm:ByteArray):FV:=fun A e B=>(e,B)=A.sync (isName nm) nm
def u3(o n:ByteArray):FV:=fun A e B=>(e,B)=A.rename ([o,n].all isName) o n
def dO:FV:=fun A e B=>(e,B)=A.cq
def kV(kind:List UInt8)(right:Ab→Dg→Bool):List ByteArray→FV
 | [],A,e,B=>e=0∧B=A
 | nm::l,A,e,B=>match gk kind nm with
  | none=>kV kind right l A e B
  | some d=>if right A d then kV kind right l A e B else ∃e1 A1,BD nm A e1 A1∧((e1≠0∧e=e1∧B=A1)∨(e1=0∧kV kind right l A1 e B))
def ej(kind:List UInt8)(right:Ab→Dg→Bool):FV:=fun A=>kV kind right (eQ A) A
def pU:FV:=fun A e B=>∃e1 A1,sT [ej kB jh,ej kN (fun _ _=>false),ej kI eV] A e1 A1 ∧
 if e1=0∧A1.names.length<A.names.length then dO A1 e B else e=e1∧B=A1
structure nV where
 A:Ab
 cy:List (Dg × Bl)
 brk:Bool
def AJ(l:List (Dg × Bl))(d:Dg):Option Bl:=(l.find? fun x=>decide (x.1=d)).map (·.2)
def pK(s:nV):Int:=KK s.A+(s.cy.map (·.2.size)).sum
def P0(ss:List FV)(s:nV)(e:Nat)(t:nV):Prop:=∃B,sT ss s.A e B∧t=⟨B,s.cy,s.brk || decide (e≠0)⟩
def fS(x:Bl):ByteArray:=eZ kS x.d
def fB(x:Bl):ByteArray:=eZ kB x.d
def gJ(q:Int)(x:Bl)(s:nV)(e:Nat)(t:nV):Prop :=
 if s.brk then e=10∧t=s else if bY x=false then e=1∧t=s else if(AJ s.cy x.d).isSome∨qg s.A (fB x)then e=5∧t=s
 else if q<pK s+x.size then e=11∧t=s
 else if qg s.A (fS x)then e=0∧t=⟨s.A,s.cy++[(x.d,x)],s.brk⟩
 else ∃e1 s1,P0 [gq (fS x),dO] s e1 s1∧((e1≠0∧e=e1∧t=s1)∨(e1=0∧e=0∧t=⟨s1.A,s1.cy++[(x.d,x)],s1.brk⟩))
end Go.Proofs.YtjpboghdolfekaaGreatDoor
namespace Go.SL
section
variable{P:Program}{U:Tr}[hU:eO P U]{f:FuncId}{n:Nat}{R:Ending→World→Prop}{G:cg}{k:List Item}{L:eC}{H H':List HP}{S:World→Prop}{all:Array Oper}{rest:Pl}{ty:TypeId}{pos:String}{af:Array Edge}{gd:Option (Nat × Bool)}{m:Bool}{d:Tmp}
theorem gH{Hs:List HP}{t:TypeId}{x:Operand}{b o off nn cap:Nat}{bL:Ty}{es cs:List Value}{A:HP}(i idx:Nat)(hd:Nat.blt d n=true)(hx:ev L x=some (.pointer (some ⟨b,off,none⟩)))(hi:bU Hs i=some A)(hv:Vw A (.slice (some ⟨b,o,none⟩) nn cap) nn cs)(iS:off=o+idx)(lC:∀j v,es[j]?=some v→cs[idx+j]?=some v)(ht:U.get t=some bL)(hg:bL.isAgg=true)(hl:Nat.beq es.length bL.info.size=true)(h:J P f n R G (fun w=>Sat G w Hs) all rest k ((d,.agg es.toArray)::L) H):J P f n R G (fun w=>Sat G w Hs) all (.cons true true ⟨some d,.load t x,ty,pos,af,gd⟩ rest) k L H :=
 jZ hd (fun a w ha hw=>by
  have hc:∀j v,es[j]?=some v→w.cell? ⟨b,off+j,none⟩=some v:=fun j v hj=>by
   obtain⟨h,hh,hA⟩:=Sat.jM hw hi
   have:=hv.cell (lC j v hj) h hA
   grind [gb]
  simp[execOp,ha.ev hx,gr (P:=P) ht hg (Nat.eq_of_beq_eq_true hl) hc]) h
end
end Go.SL
namespace Go.SL
open Go
def pz(l:List jD):gU (wV l)=true:=by
 induction l with
 | nil=>rfl
 | cons x l ih =>
  show(Value.oneCell' (u32 x) && gU (wV l))=true
  rw[ih];rfl
section
variable{P:Program}{U:Tr}[hU:eO P U]{f:FuncId}{n:Nat}{R:Ending→World→Prop}{G:cg}{k:List Item}{L:eC}{H H':List HP}{S:World→Prop}{all:Array Oper}{rest:Pl}{ty:TypeId}{pos:String}{af:Array Edge}{gd:Option (Nat × Bool)}{m:Bool}{d:Tmp}
def aa7{t:TypeId}{x:Operand}{j:IntKind}{p:Int}(hd:Nat.blt d n=true)(hx:ev L x=some (.int j p))(hr:fZ j (-p))(h:J P f n R G S all rest k ((d,.int j (-p))::L) H):J P f n R G S all (.cons m true ⟨some d,.unOp .neg t x,ty,pos,af,gd⟩ rest) k L H :=
 cR hd (fun a ha w=>by
  have e:j.wrap (0-p) = -p:=by rw[Int.zero_sub];exact cz hr
  simp only[execOp,ha.ev hx,Sem.run_bind,Result.andThen_ok,Op.unary,Op.intArith]
  simp
  simpa using e) h
def aV{t:TypeId}{x:Operand}{b:Nat}{bL:Ty}{l:List Value}{e:TypeId}(i:Nat)(hd:Nat.blt d n=true)(hx:ev L x=some (.pointer (some ⟨b,0,none⟩)))(hi:bU H i=some (ag b (cl l e)))(ht:U.get t=some bL)(hg:bL.isAgg=true)(hl:l.length=bL.info.size)(h:J P f n R G S all rest k ((d,.agg l.toArray)::L) H):J P f n R G S all (.cons false true ⟨some d,.load t x,ty,pos,af,gd⟩ rest) k L H :=
 xp (U:=U) hd hx ht hg (by rw[hl];exact Nat.beq_refl _) (fun w hw j v hj=>by rw[cZ (hw.rf hi),Nat.zero_add];exact hj) h
def cm{Hs:List HP}{t:TypeId}{x:Operand}{b:Nat}{bL:Ty}{l:List Value}{e:TypeId}(i:Nat)(hd:Nat.blt d n=true)(hx:ev L x=some (.pointer (some ⟨b,0,none⟩)))(hi:bU Hs i=some (ag b (cl l e)))(ht:U.get t=some bL)(hg:bL.isAgg=true)(hl:l.length=bL.info.size)(h:J P f n R G (fun w=>Sat G w Hs) all rest k ((d,.agg l.toArray)::L) H):J P f n R G (fun w=>Sat G w Hs) all (.cons true true ⟨some d,.load t x,ty,pos,af,gd⟩ rest) k L H :=
 jZ hd (fun a w ha hw=>by
  have hw:Sat G w Hs:=hw
  simp[execOp,ha.ev hx,gr (P:=P) ht hg hl (fun j v hj=>by rw[cZ (hw.rf hi),Nat.zero_add];exact hj)]) h
def eb{t:TypeId}{x y:Operand}{b:Nat}{bL:Ty}{l l':List Value}{e:TypeId}(i:Nat)(hS:∀w,Sat G w H'→Sx rest S w)(hx:ev L x=some (.pointer (some ⟨b,0,none⟩)))(hy:ev L y=some (.agg l'.toArray))(ht:U.get t=some bL)(js:l'.length=bL.info.size)(gf:l'≠[])(gA:gU l'=true)(hi:bU H i=some (ag b (cl l e)))(hll:l.length=l'.length)(hp:jI i (ag b (cl l' e)) H [] = .mk H')(h:J P f n R G S all rest k L H'):J P f n R G S all (.cons false true ⟨none,.store t x y,ty,pos,af,gd⟩ rest) k L H:=by
 have hc:bg (.agg l'.toArray)=l':=by simp[bg]
 refine iz (U:=U) (l':=l') i hS hx hy ht (by rw[hc,js];exact Nat.beq_refl _) (by rw[hc];cases l' with|nil=>exact absurd rfl gf|cons _ _=>rfl) (by rw[hc];exact gA) hi (by rw[hc];omega) (by rw[hc];simp[hll]) hp h
def lM{t:TypeId}{x y:Operand}{b off:Nat}{bL:Ty}{l:List Value}{u:Value}{e:TypeId}(i:Nat)(hS:∀w,Sat G w H'→Sx rest S w)(hx:ev L x=some (.pointer (some ⟨b,off,none⟩)))(hy:ev L y=some u)(ht:U.get t=some bL)(js:Nat.beq bL.info.size 1=true)(hc:bg u=[u])(gA:gU [u]=true)(hi:bU H i=some (ag b (cl l e)))(hq:off<l.length)(hp:jI i (ag b (cl (l.set off u) e)) H [] = .mk H')(h:J P f n R G S all rest k L H'):J P f n R G S all (.cons false true ⟨none,.store t x y,ty,pos,af,gd⟩ rest) k L H:=by
 refine iz (U:=U) (l':=l.set off u) i hS hx hy ht (by rw[hc,Nat.eq_of_beq_eq_true js];rfl) (by rw[hc];rfl) (by rw[hc];exact gA) hi (by rw[hc];simp;omega) ?_ hp h
 rw[hc,List.set_eq_take_append_cons_drop,if_pos hq]
 simp
def iZ{t elem:TypeId}{bL te:Ty}{x y:Operand}{j:IntKind}{b o len:Nat}{p:Int}(q:Nat)(hd:Nat.blt d n=true)(ht:U.get t=some bL)(hu:bL.fe = .array len elem)(he:U.get elem=some te)(hs:Nat.beq te.info.size 1=true)(hx:ev L x=some (.pointer (some ⟨b,o,none⟩)))(hy:ev L y=some (.int j p))(hq:p=(q:Int))(cB:q<len)(h:J P f n R G S all rest k ((d,.pointer (some ⟨b,o+q,none⟩))::L) H):J P f n R G S all (.cons m true ⟨some d,.indexAddr t x y,ty,pos,af,gd⟩ rest) k L H:=by
 subst hq
 refine qo hd ht hu he hx hy aj aj ?_
 rw[Nat.eq_of_beq_eq_true hs,Int.toNat_natCast,Nat.mul_one]
 exact h
def xl{t:TypeId}{x:Operand}{b off:Nat}{bL:Ty}{l:List Value}{e:TypeId}{v:Value}(i q:Nat)(hd:Nat.blt d n=true)(hx:ev L x=some (.pointer (some ⟨b,off,none⟩)))(hi:bU H i=some (ag b (cl l e)))(hq:off=q)(hv:l[q]?=some v)(ht:U.get t=some bL)(hg:bL.isAgg=false)(h:J P f n R G S all rest k ((d,v)::L) H):J P f n R G S all (.cons false true ⟨some d,.load t x,ty,pos,af,gd⟩ rest) k L H:=by
 subst hq
 exact ec (U:=U) i hd hx hi (by rw[de];exact hv) ht hg h
def jE{Hs:List HP}{t:TypeId}{x:Operand}{b off:Nat}{bL:Ty}{l:List Value}{e:TypeId}{v:Value}(i q:Nat)(hd:Nat.blt d n=true)(hx:ev L x=some (.pointer (some ⟨b,off,none⟩)))(hi:bU Hs i=some (ag b (cl l e)))(hq:off=q)(hv:l[q]?=some v)(ht:U.get t=some bL)(hg:bL.isAgg=false)(h:J P f n R G (fun w=>Sat G w Hs) all rest k ((d,v)::L) H):J P f n R G (fun w=>Sat G w Hs) all (.cons true true ⟨some d,.load t x,ty,pos,af,gd⟩ rest) k L H:=by
 subst hq
 exact gm (U:=U) i hd hx hi (by rw[de];exact hv) ht hg h
def qp{t e:TypeId}{bL te:Ty}{nn:Nat}{z:Array Value}{parts:Array (Nat × Operand)}{cs:List Value}(hd:Nat.blt d n=true)(ht:U.get t=some bL)(hu:bL.fe = .array nn e)(he:U.get e=some te)(hz:bL.info.zero=some (.agg z))(hb:sN L te.info.size z.toList parts.toList = .mk cs)(h:J P f n R G S all rest k ((d,.agg cs.toArray)::L) H):J P f n R G S all (.cons m true ⟨some d,.build t parts,ty,pos,af,gd⟩ rest) k L H:=by
 have nX:∀a w,Has n L a→(execOp a.eval ⟨some d,.build t parts,ty,pos,af,gd⟩).run P w = .ok (.value (.agg cs.toArray)) w:=fun a w ha=>by
  have hf:=tQ ha te.info.size parts.toList z.toList cs hb
  rw[Array.toArray_toList]at hf
  simp only[execOp,Instr.build,Sem.run_bind,cY ht hz,run_underlying ht,Result.andThen_ok,hu,run_sizeOf he,Value.cells,Array.toList_map,hf,Sem.run_pure]
 cases m with
 | false=>exact iY hd (fun a w ha _=>nX a w ha) h
 | true=>exact jZ hd (fun a w ha _=>nX a w ha) h
end
end Go.SL
namespace Go.SL
open Go
def NJ{P:Program}{f:FuncId}{n:Nat}{R:Ending→World→Prop}{G:cg}{ds:List Nat}{k k0:List Item}{L:eC}{H H':List HP}{fn:Func}{F:List HP}{Post:Value→List HP→Prop}{v:Value}{Hq:List HP}(hR:Ends R G F Post)(hf:P.funcs[f]?=some fn)(hk:fU 1000 k0 = .mk (.code .ret::k))(he:ak H (ds.map (fun r=>ag r (.deferred (some [])))++H'))(k7:∀a w,Has n L a→Sat { G with ds:=ds } w H'→(results fn a.tmps).run P w = .ok v w)(ef:Post v Hq)(Fi:ak H' (Hq++F)):K P f n R { G with ds:=ds } k0 L H:=by
 refine eU 1000 hk ?_
 intro a w ha hw cs
 have I1:({ G with ds:=ds }:cg).ro=none:=hR.1.1
 rw[I1]
 obtain⟨w',lA,hs⟩:=oH (P:=P) ds { bf none f a (.code .ret::k)with mode := .returning } cs w rfl ha.2 ⟨H',hw.cp he,rfl⟩
 exact⟨_,w',_,hR.2 _ _ w' ef (by have:=lA.cp Fi;exact this),Steps.trans (.one (stepR_ret rfl)) hs,rfl,rfl,rfl,rfl,fn,hf,k7 a w' ha.1 lA⟩
def vg{P:Program}{U:Tr}[hU:eO P U]{n:Nat}{L:eC}{a:Act}{p b:Nat}{t e:TypeId}{bL:Ty}{u:Value}{G:cg}{w:World}{H:List HP}(i:Nat)(ha:Has n L a)(hw:Sat G w H)(hp:dp L p=some (.pointer (some ⟨b,0,none⟩)))(ht:U.get t=some bL)(hg:bL.isAgg=false)(hi:bU H i=some (ag b (cl [u] e))):(zX a.tmps (.cell p t)).run P w = .ok u w:=by
 have hc:w.cell? ⟨b,0,none⟩=some u:=by rw[cZ (hw.rf hi)];rfl
 have Pk:=mW (P:=P) (w:=w) ht hg hc
 have g1:a.tmps.getD p undef = .pointer (some ⟨b,0,none⟩):=by simp[Array.getD_eq_getD_getElem?,ha.2.2 p _ hp]
 simp only[zX,g1,asAddr,Sem.run_bind,Sem.run_pure,Result.andThen_ok]
 simpa[Instr.loadAt,Instr.sureAddr]using Pk
def qm{P:Program}{U:Tr}[hU:eO P U]{f:FuncId}{n:Nat}{R:Ending→World→Prop}{G:cg}{ds:List Nat}{k k0:List Item}{L:eC}{H H':List HP}{fn:Func}{F:List HP}{Post:Value→List HP→Prop}{p q b1 b2:Nat}{t1 t2 e1 e2:TypeId}{ty1 ty2:Ty}{u1 u2:Value}{Hq:List HP}(i j:Nat)(hR:Ends R G F Post)(hf:P.funcs[f]?=some fn)(hk:fU 1000 k0 = .mk (.code .ret::k))(Hc:fn.results.toList=[.cell p t1,.cell q t2])(hp:dp L p=some (.pointer (some ⟨b1,0,none⟩)))(hq:dp L q=some (.pointer (some ⟨b2,0,none⟩)))(Ks:U.get t1=some ty1)(Pr:ty1.isAgg=false)(ht2:U.get t2=some ty2)(Pq:ty2.isAgg=false)(he:ak H (ds.map (fun r=>ag r (.deferred (some [])))++H'))(hi:bU H' i=some (ag b1 (cl [u1] e1)))(hj:bU H' j=some (ag b2 (cl [u2] e2)))(ef:Post (.tuple #[u1,u2]) Hq)(Fi:ak H' (Hq++F)):K P f n R { G with ds:=ds } k0 L H:=by
 refine NJ hR hf hk he (fun a w ha hw=>?_) ef Fi
 have h1:=vg (P:=P) i ha hw hp Ks Pr hi
 have h2:=vg (P:=P) j ha hw hq ht2 Pq hj
 rw[mY,Array.mapM_eq_mapM_toList,Hc]
 simp_all
def bh{P:Program}{f:FuncId}{n:Nat}{R:Ending→World→Prop}{G:cg}{k:List Item}{L:eC}{H F:List HP}{Post:Value→List HP→Prop}(hE:Ends R G F Post)(h:K P f n R { G with ds:=[] } k L H):K P f n R G k L H:=by
 have:({ G with ds:=[] }:cg)=G:=by have:=hE.1.2;cases G;simp_all
 rw[this]at h
 exact h
def o4{P:Program}{f:FuncId}{n:Nat}{R:Ending→World→Prop}{G:cg}{k:List Item}{L:eC}{H:List HP}{ps:Array Tmp}{assign body:Code}{k0:List Item}{g:Operand}{gid:FuncId}{cap:Array Value}{Pre:Nat→Nat→List HP}{Fr:List HP}(Post:Nat→Nat→(LoopState→Option Code→HP)→Value→List HP→Prop)(hk:fU 1000 k0 = .mk (.code (.rangeFunc g ps assign body)::k))(I1:G.ro=none)(hg:ev L g=some (.func (.func gid) #[] cap))(c:∀l r,aw P gid (.func (.yield l) #[] #[]::cap.toList) (aZ l .ready none f n L ps assign body r::Pre l r) (Post l r (fun st pd=>aZ l st pd f n L ps assign body r)))(he:∀l r,ak H (Pre l r++Fr))(fR:∀l r v H',Post l r (fun st pd=>aZ l st pd f n L ps assign body r) v H'→∃st pd H'',H'=aZ l st pd f n L ps assign body r::H''∧st ≠ .busy ∧
   K P f n R { G with ds:=r::G.ds } ((pd.map Item.code).toList++k) L (H''++(ag r (.deferred (some []))::Fr))):K P f n R G k0 L H :=
 rF hk I1 hg c he fR
def dz{P:Program}{f:FuncId}{n:Nat}{R:Ending→World→Prop}{G:cg}{k:List Item}{L:eC}{H:List HP}{e:TypeId}{sz nn:Nat}{v:Value}{cs:List Value}(i:Nat)(hi:bU H i=some (aH e sz v nn cs))(h:Vw (aH e sz v nn cs) v nn cs→K P f n R G k L H):K P f n R G k L H :=
 oZ fun⟨w,hw⟩=>by
  obtain⟨h1,_,hA⟩:=hw.jM hi
  exact h (Vw.lV e sz v nn cs ⟨h1,hA⟩)
theorem Gz{e:TypeId}{sz nn c:Nat}{a:Option Addr}{cs:List Value}{h:Hp}(hs:aH e sz (.slice a nn c) nn cs h):nn≤c:=by
 obtain⟨_,⟨a',hv,hn,_⟩|⟨b,o,cap,pre,junk,hv,hp,hn,hc,_⟩⟩:=hs
 ·omega
 grind
def HD{P:Program}{f:FuncId}{n:Nat}{R:Ending→World→Prop}{G:cg}{k:List Item}{L:eC}{H:List HP}{S:World→Prop}{all:Array Oper}{rest:Pl}{e:TypeId}{sz nn c:Nat}{a:Option Addr}{cs:List Value}(i:Nat)(hi:bU H i=some (aH e sz (.slice a nn c) nn cs))(h:Vw (aH e sz (.slice a nn c) nn cs) (.slice a nn c) nn cs→nn≤c→J P f n R G S all rest k L H):J P f n R G S all rest k L H :=
 xk fun w hw=>by
  obtain⟨h1,_,hA⟩:=hw.jM hi
  exact h (Vw.lV e sz _ nn cs ⟨h1,hA⟩) (Gz hA)
def Ig{P:Program}{U:Tr}[hU:eO P U]{n:Nat}{G:cg}{L:eC}{H:List HP}{fn:Func}{p b:Nat}{t e:TypeId}{bL:Ty}{cs:List Value}{a:Act}{w:World}(i:Nat)(ha:qs G n L a)(hw:Sat G w H)(Hc:fn.results.toList=[.cell p t])(hp:dp L p=some (.pointer (some ⟨b,0,none⟩)))(ht:U.get t=some bL)(hg:bL.isAgg=true)(hl:cs.length=bL.info.size)(hi:bU H i=some (ag b (cl cs e))):(results fn a.tmps).run P w = .ok (.agg cs.toArray) w:=by
 have hc:∀j v,cs[j]?=some v→w.cell? ⟨b,0+j,none⟩=some v:=fun j v hj=>by rw[cZ (hw.rf hi),Nat.zero_add];exact hj
 have Pk:=gr (P:=P) (w:=w) ht hg hl hc
 have aao:(loadVar t ⟨b,0,none⟩).run P w = .ok (.agg cs.toArray) w:=by simpa[Instr.loadAt,Instr.sureAddr]using Pk
 have g1:a.tmps.getD p undef = .pointer (some ⟨b,0,none⟩):=by simp[Array.getD_eq_getD_getElem?,ha.get hp]
 rw[mY,Array.mapM_eq_mapM_toList,Hc]
 simp only[Sem.run_bind,Sem.run_map,List.mapM_cons,List.mapM_nil,zX,g1,asAddr,Sem.run_pure,Result.andThen_ok,aao]
 simp
def nH{P:Program}{U:Tr}[hU:eO P U]{f:FuncId}{n:Nat}{R:Ending→World→Prop}{G:cg}{k k0:List Item}{L:eC}{H:List HP}{fn:Func}{F:List HP}{Post:Value→List HP→Prop}{p b:Nat}{t e:TypeId}{bL:Ty}{cs:List Value}(i:Nat)(hR:Ends R G F Post)(hf:P.funcs[f]?=some fn)(hk:fU 1000 k0 = .mk (.code .ret::k))(Hc:fn.results.toList=[.cell p t])(hp:dp L p=some (.pointer (some ⟨b,0,none⟩)))(ht:U.get t=some bL)(hg:bL.isAgg=true)(hl:cs.length=bL.info.size)(hi:bU H i=some (ag b (cl cs e))){Hq:List HP}(ef:Post (.agg cs.toArray) Hq)(he:ak H (Hq++F)):K P f n R G k0 L H:=by
 refine eU 1000 hk ?_
 intro a w ha hw wH
 have nX:=Ig (P:=P) i ha hw Hc hp ht hg hl hi
 rw[hR.1.1]
 exact⟨_,w,_,hR.2 _ _ w ef (hw.cp he),.one (stepR_ret rfl),rfl,rfl,by show a.defers=[];rw[ha.2,hR.1.2];rfl,rfl,fn,hf,nX⟩
end Go.SL
namespace Go.Proofs.YtjpboghdolfekaaGreatDoor
open Go Go.SL
attribute [local irreducible] J K aw Ends ag aH au bE aW aJ a6 aZ bI
def Lc(n:Nat)(h1:1≤n)(h2:n≤31):IntKind.u64.wrap ((BitVec.ofInt IntKind.u64.bits (IntKind.u64.wrap (-(n:Int))) &&& BitVec.ofInt IntKind.u64.bits 31).toNat:Int)=((32-n:Nat):Int):=by
 have:∀n:Nat,n<32→1≤n→IntKind.u64.wrap ((BitVec.ofInt 64 (IntKind.u64.wrap (-(n:Int))) &&& BitVec.ofInt 64 31).toNat:Int)=((32-n:Nat):Int):=by decide
 exact this n aj h1
def sU(x:jD)(n:Nat)(h1:1≤n)(h2:n≤31):aw Tryz.prog 473 [u32 x,.int .i64 (-(n:Int))] [] (fun r H=>r=u32 (Sha.Kn x n)∧H=[]):=by
 unfold u32
 refine aw.ao Tryz.func473 Tryz.ntmps473 fun G F R hE=>?_
 refine go ?_
 refine ib ?_
 refine kr zr zr zr zr zr zr ?_
 refine rW ?_
 refine aQ 5 ((.int .u64 ((32-n:Nat):Int))) rfl ((congrArg (Value.int .u64) (Lc n h1 h2))) (go ?_)
 refine NR (32-n) zr zr zr zr aj ?_
 (repeat(first|refine eK ?_|refine A6 n zr zr zr aj aj ?_|refine NS zr zr zr ?_))
 refine ad hE Tryz.func473 zr zr ⟨rfl,rfl⟩
def gW(x:jD)(n:Nat)(h1:1≤n)(h2:n≤31):aw Tryz.prog 399 [u32 x,.int .i64 (n:Int)] [] (fun r H=>r=u32 (Sha.Kn x n)∧H=[]):=by
 refine aw.ao Tryz.func399 Tryz.ntmps399 fun G F R hE=>?_
 refine go ?_
 refine aa7 zr zr (by simp only[fZ];omega) ?_
 refine aF (sU x n h1 h2) ?_
 refine go ?_
 refine ad hE Tryz.func399 zr zr ⟨rfl,rfl⟩
theorem Ec(A:HP)(v:Value)(b:List UInt8)(hv:fb A v b)(Q0:64≤b.length) :
  aw Tryz.prog 398 [v] [A] (fun r H=>r = .agg (wV (Sha.sched b 64)).toArray∧H=[A]):=by
 obtain⟨a,c,rfl,hc⟩:=hv.2
 have hf:=hv.front 64 Q0
 refine aw.ao Tryz.func398 Tryz.ntmps398 fun G F R hE=>?_
 refine aN rfl ?_
 refine aB zr zr zr bq ?_
 intro b2
 refine rW ?_
 (refine aN rfl ?_;refine rW ?_)
 refine aB zr zr zr bq ?_
 intro b3
 refine go ?_
 refine bo (p:=0) (q:=64) zr zr zr zr zr zr zr aj aj (.inr aj) ?_
 refine aC 10 ((.slice (sliceAt a c 0 1) 64 c)) rfl (rfl) (go ?_)
 refine bj (fun i:Nat=>i≤64) (fun i=>64-i)
  (fun i=>[(2,ptr b2),(3,ptr b3),(10,.slice (sliceAt a c 0 1) 64 c),(11,.int .i64 64),(12,.int .i64 (i:Int))])
  (fun i=>ag b3 (cl (wV (Sha.lD b i)) 508)::ag b2 (cl (wV (List.replicate 64 0)) 508)::A::F) 0 (Nat.zero_le _) rfl bO (by rw[Sha.Fq];exact ah) ?_
 rintro i hi ih
 refine go ?_
 refine aD zr zr ?_ ?_
 ·intro cB
  have xE:i<64:=by omega
  obtain⟨x,hx⟩:∃x,b[i]?=some x:=⟨b[i]' aj,by simp⟩
  have hxd:b.getD i 0=x:=by rw[List.getD_eq_getElem?_getD,hx];rfl
  have Cv:(bV (b.take 64))[i]?=some (u8 x):=by
   grind [sQ]
  obtain⟨bb,oo,cc,eR⟩:=hf.1.some (by intro e;rw[e]at Cv;simp at Cv)
  simp only[Value.slice.injEq,true_and]at eR
  obtain⟨eR,-,rfl⟩:=eR
  have hlen:(b.take 64).length=64:=by rw[List.length_take];omega
  have hf2:=hf.1
  rw[eR,hlen]at hf2
  rw[eR]
  refine go ?_
  refine bD i zr zr zr zr zr zr zr zr xE ?_
  refine aS ?_
  refine aP 2 i zr zr zr hf2 rfl Cv zr zr (go ?_)
  refine aO (fun w=>Sat G w ([ag b3 (cl (wV (Sha.lD b i)) 508)])) (cM 0 13 (.act 13 .nil)) rfl ae ae ae dv ?_
  refine go ?_
  have hg:=Sha.ko b i (i/4) aj
  have hq:(i:Int)/4=((i/4:Nat):Int):=by omega
  have hr:24-8*((i:Int)%4)=((24-8*(i%4):Nat):Int):=by omega
  have agf:(wV (Sha.lD b i)).length=64:=by rw[uO,Sha.kj]
  (repeat(first|refine eK ?_|refine tU zr zr zr aj aj (by simp only[fZ];omega) ?_|refine tT zr zr zr aj aj ?_|refine iG zr zr zr (by simp only[fZ];omega) ?_|refine iZ (U:=aY) (i/4) zr zr zr zr zr zr zr hq aj ?_|(refine aS ?_;refine jE (U:=aY) 0 (i/4) zr zr zr (Nat.zero_add _) (oh hg) zr zr ?_)|(refine ib ?_;refine NM (U:=aY) zr zr zr zr zr zr ?_)|refine NR (24-8*(i%4)) zr zr zr hr aj ?_|refine NS zr zr zr ?_))
  refine aX ?_
  refine lM (U:=aY) 0 fE zr zr zr zr zr zr zr (by rw[uO,Sha.kj];omega) rfl ?_
  rw[show 0+i/4=i/4 from Nat.zero_add _]
  refine go ?_
  have dE:=Sha.Fs b i xE
  rw[hxd]at dE
  have jL:(wV (Sha.lD b i)).set (i/4) (.int .u32 (((Sha.part b (i/4) (min 4 (i-4*(i/4))) ||| wB x <<< (24-8*(i%4))).toNat:Nat):Int))=wV (Sha.lD b (i+1)):=by
   rw[← dE,show min 4 (i-4*(i/4))=i%4 from by omega]
   exact KG _ _ _
  rw[jL,← eR]
  refine aK ih (i+1) rfl aj aj bO ah
 intro eN
 have Ja:i=64:=by omega
 subst Ja
 clear ih
 refine go ?_
 refine bj (fun t:Nat=>16≤t∧t≤64) (fun t=>64-t)
  (fun t=>[(2,ptr b2),(3,ptr b3),(6,.int .i64 (t:Int))])
  (fun t=>ag b3 (cl (wV (Sha.iO b t)) 508)::ag b2 (cl (wV (List.replicate 64 0)) 508)::A::F) 16 ⟨aj,aj⟩ rfl bO (by rw[Sha.Jt];exact ah) ?_
 rintro t⟨Ks,ht2⟩ ih
 have hlen:=Sha.Ek b t ht2
 refine go ?_
 refine aD zr zr ?_ ?_
 ·intro cB
  have ht:t<64:=by omega
  have g2:=Sha.mT b t (t-2) aj
  have g7:=Sha.mT b t (t-7) aj
  have g15:=Sha.mT b t (t-15) aj
  have g16:=Sha.mT b t (t-16) aj
  refine go ?_
  refine aO (fun w=>Sat G w ([ag b3 (cl (wV (Sha.iO b t)) 508)])) (cM 0 10 .nil) rfl ae ae ae dv ?_
  refine go ?_
  (repeat(first|refine eK ?_|refine iZ (U:=aY) (t-2) zr zr zr zr zr zr zr aj aj ?_|refine iZ (U:=aY) (t-15) zr zr zr zr zr zr zr aj aj ?_|(refine aS ?_;first|refine jE (U:=aY) 0 (t-2) zr zr zr (Nat.zero_add _) (oh g2) zr zr ?_|refine jE (U:=aY) 0 (t-15) zr zr zr (Nat.zero_add _) (oh g15) zr zr ?_)))
  refine aF (gW _ 17 aj aj) ?_
  refine go ?_
  refine aF (gW _ 19 aj aj) ?_
  (repeat(first|refine eK ?_|refine qn zr zr zr ?_|refine A6 10 zr zr zr zr aj ?_))
  refine aF (gW _ 7 aj aj) ?_
  refine go ?_
  refine aF (gW _ 18 aj aj) ?_
  (repeat(first|refine eK ?_|refine qn zr zr zr ?_|refine A6 3 zr zr zr zr aj ?_))
  refine aO (fun w=>Sat G w ([ag b3 (cl (wV (Sha.iO b t)) 508)])) (cM 0 15 (.act 15 .nil)) rfl ae ae ae dv ?_
  refine go ?_
  (repeat(first|refine eK ?_|refine iZ (U:=aY) (t-16) zr zr zr zr zr zr zr aj aj ?_|refine iZ (U:=aY) (t-7) zr zr zr zr zr zr zr aj aj ?_|refine iZ (U:=aY) t zr zr zr zr zr zr zr zr ht ?_|(refine aS ?_;first|refine jE (U:=aY) 0 (t-16) zr zr zr (Nat.zero_add _) (oh g16) zr zr ?_|refine jE (U:=aY) 0 (t-7) zr zr zr (Nat.zero_add _) (oh g7) zr zr ?_)|refine Ba zr zr zr ?_))
  refine aX ?_
  refine lM (U:=aY) 0 fE zr zr zr zr zr zr zr (by rw[uO,hlen];omega) rfl ?_
  rw[show 0+t=t from Nat.zero_add _]
  refine go ?_
  have jL:=(KG (Sha.iO b t) t _).trans (congrArg wV (Sha.BJ b t Ks ht))
  refine ai (H':=ag b3 (cl (wV (Sha.iO b (t+1))) 508)::ag b2 (cl (wV (List.replicate 64 0)) 508)::A::F) (by rw[← jL];exact ak.refl _) ?_
  refine aK ih (t+1) rfl ⟨aj,aj⟩ aj bO ah
 intro eN
 have aab:t=64:=by omega
 subst aab
 rw[Sha.El]
 have Fm:(wV (Sha.sched b 64)).length=64:=by rw[uO,Sha.fk]
 have gA:gU (wV (Sha.sched b 64))=true:=pz _
 generalize wV (Sha.sched b 64)=W at Fm gA hE ⊢
 refine go ?_
 refine aV (U:=aY) 0 zr zr zr zr zr Fm ?_
 refine eb (U:=aY) 1 fE rfl rfl rfl Fm (by intro e;rw[e]at Fm;cases Fm) gA rfl (by rw[Fm];simp[uO]) rfl ?_
 refine go ?_
 refine nH (U:=aY) 1 hE Tryz.func398 zr zr zr zr zr Fm rfl ⟨rfl,rfl⟩ ah
def lL(X:HP):Prop:=Vw X (.slice (some ⟨0,0,none⟩) 64 64) 64 (wV Sha.ks)
def lL.mono{A B:HP}(h:lL A)(hAB:∀h,B h→∃h',sub h' h∧A h'):lL B:=Vw.mono h hAB
def Z3{t:Nat}(h:t<64):Sha.ks[t]?=some (Sha.ks.getD t 0):=by
 rw[List.getD_eq_getElem?_getD,List.getElem?_eq_getElem (show t<Sha.ks.length from h)];rfl
def stV(s:Sha.St):Value := .agg (wV s.l).toArray
def Bz(A:HP)(hK:lL A)(v:Value)(b:List UInt8)(hv:fb A v b)(Q0:64≤b.length)(s:Sha.St) :
  aw Tryz.prog 271 [stV s,v] [A] (fun r H=>r=stV (Sha.chunk s b)∧H=[A]):=by
 have DV:=Ec A v b hv Q0
 obtain⟨a,c,rfl,hc⟩:=hv.2
 unfold lL at hK
 have k4:(Sha.sched b 64).length=64:=Sha.fk b 64
 have hch:Sha.chunk s b=Sha.plus s (Sha.rounds s (Sha.sched b 64) 64):=rfl
 rw[hch]
 generalize Sha.sched b 64=W at DV k4 ⊢
 obtain⟨s1,s2,s3,s4,s5,s6,s7,s8⟩:=s
 dsimp only [stV,Sha.St.l,wV,List.map_cons,List.map_nil]
 refine aw.ao Tryz.func271 Tryz.ntmps271 fun G F R hE=>?_
 refine go ?_
 refine bC zr zr bq ?_
 intro b2
 refine go ?_
 refine aB zr zr zr bq ?_
 intro b4
 refine go ?_
 refine aO (fun w=>Sat G w ([ag b2 (cl [u32 s1,u32 s2,u32 s3,u32 s4,u32 s5,u32 s6,u32 s7,u32 s8] 415)])) (cM 0 24 .nil) rfl ae ae ae dv ?_
 refine go ?_
 (repeat(first|refine eK ?_|refine qo (U:=aY) zr zr zr zr zr zr aj aj ?_))
 refine aF DV ?_
 refine go ?_
 generalize hs:(⟨s1,s2,s3,s4,s5,s6,s7,s8⟩:Sha.St)=s at hE
 refine bj (fun t:Nat=>t≤64) (fun t=>64-t)
  (fun t=>[(2,ptr b2),(4,ptr b4),(34,.agg (wV W).toArray),(35,.int .i64 (t:Int)),(5,u32 (Sha.rounds s W t).a),(6,u32 (Sha.rounds s W t).b),(7,u32 (Sha.rounds s W t).c),(8,u32 (Sha.rounds s W t).d),(9,u32 (Sha.rounds s W t).e),(10,u32 (Sha.rounds s W t).f),(11,u32 (Sha.rounds s W t).g),(12,u32 (Sha.rounds s W t).h)])
  (fun _=>ag b4 (cl (wV (List.replicate 8 0)) 415)::ag b2 (cl [u32 s1,u32 s2,u32 s3,u32 s4,u32 s5,u32 s6,u32 s7,u32 s8] 415)::A::F) 0 (Nat.zero_le _) rfl (by subst hs;repeat(first|exact Cs|refine yS rfl ?_)) ah ?_
 rintro t ht ih
 refine go ?_
 refine aD zr zr ?_ ?_
 ·intro cB
  have Ks:t<64:=by omega
  have hr:Sha.rounds s W (t+1)=Sha.round (Sha.rounds s W t) (Sha.ks.getD t 0) (W.getD t 0):=rfl
  generalize Sha.rounds s W t=T at hr ⊢
  obtain⟨ta,tb,tc,td,te,tf,tg,th⟩:=T
  have hwg:(wV W).toArray.toList[((t:Nat):Int).toNat]?=some (u32 (W.getD t 0)):=by
   rw[Int.toNat_natCast]
   exact oh (by rw[List.getD_eq_getElem?_getD,List.getElem?_eq_getElem aj];rfl)
  have hkg:=oh (Z3 Ks)
  generalize Sha.ks.getD t 0=kt at hr hkg
  generalize W.getD t 0=wt at hr hwg
  simp only
  refine go ?_
  refine e7 zr zr zr zr zr zr zr zr aj aj hwg (go ?_)
  refine aO (fun w=>Sat G w ([A])) (.st 0 (.st 1 (.st 3 (.st 6 (cM 10 7 (cM 18 3 (.st 22 (.act 2 (.act 4 (.st 5 (.act 7 (.st 8 (.st 9 (.st 17 (.st 21 (.st 23 (.st 24 .nil))))))))))))))))) rfl ae ae ae dv ?_
  refine go ?_
  (repeat(first|refine eK ?_|refine iZ (U:=aY) t zr zr zr zr zr zr zr zr Ks ?_|(refine aS ?_;refine cV 0 t zr zr zr hK rfl hkg zr zr ?_)|refine qn zr zr zr ?_|refine NZ zr zr zr ?_))
  refine bP ((gW _ 6 aj aj)) ?_
  refine go ?_
  refine bP ((gW _ 11 aj aj)) ?_
  refine go ?_
  (repeat((refine qn zr zr zr ?_)))
  refine bP ((gW _ 25 aj aj)) ?_
  (repeat(first|refine eK ?_|refine qn zr zr zr ?_|refine Ba zr zr zr ?_))
  refine aF (gW _ 2 aj aj) ?_
  refine go ?_
  refine aF (gW _ 13 aj aj) ?_
  (repeat(first|refine eK ?_|refine qn zr zr zr ?_))
  refine aF (gW _ 22 aj aj) ?_
  (repeat(first|refine eK ?_|refine qn zr zr zr ?_|refine NZ zr zr zr ?_|refine NS zr zr zr ?_|refine Ba zr zr zr ?_))
  ((refine aQ 5 ((u32 (Sha.rounds s W (t+1)).a)) rfl ((by rw[hr];rfl)) ?_))
  ((refine aQ 6 ((u32 (Sha.rounds s W (t+1)).b)) rfl ((by rw[hr];rfl)) ?_))
  ((refine aQ 7 ((u32 (Sha.rounds s W (t+1)).c)) rfl ((by rw[hr];rfl)) ?_))
  ((refine aQ 8 ((u32 (Sha.rounds s W (t+1)).d)) rfl ((by rw[hr];rfl)) ?_))
  ((refine aQ 9 ((u32 (Sha.rounds s W (t+1)).e)) rfl ((by rw[hr];rfl)) ?_))
  ((refine aQ 10 ((u32 (Sha.rounds s W (t+1)).f)) rfl ((by rw[hr];rfl)) ?_))
  ((refine aQ 11 ((u32 (Sha.rounds s W (t+1)).g)) rfl ((by rw[hr];rfl)) ?_))
  ((refine aQ 12 ((u32 (Sha.rounds s W (t+1)).h)) rfl ((by rw[hr];rfl)) ?_))
  refine aK ih (t+1) rfl aj aj bO ah
 intro eN
 have aab:t=64:=by omega
 subst aab
 have uf:stV (Sha.plus s (Sha.rounds s W 64)) = .agg (List.map u32 [(Sha.plus s (Sha.rounds s W 64)).a,(Sha.plus s (Sha.rounds s W 64)).b,(Sha.plus s (Sha.rounds s W 64)).c,(Sha.plus s (Sha.rounds s W 64)).d,(Sha.plus s (Sha.rounds s W 64)).e,(Sha.plus s (Sha.rounds s W 64)).f,(Sha.plus s (Sha.rounds s W 64)).g,(Sha.plus s (Sha.rounds s W 64)).h]).toArray:=rfl
 rw[← uf]at hE
 clear uf hch ih
 generalize Sha.rounds s W 64=T at hE ⊢
 obtain⟨ta,tb,tc,td,te,tf,tg,th⟩:=T
 subst hs
 simp only
 refine go ?_
 (repeat(first|refine eK ?_|refine qo (U:=aY) zr zr zr zr zr zr aj aj ?_|refine Ba zr zr zr ?_))
 refine qp (U:=aY) zr zr zr zr zr zr (go ?_)
 refine nH (U:=aY) 0 hE Tryz.func271 zr zr zr zr zr zr zr ⟨rfl,rfl⟩ ah
end Go.Proofs.YtjpboghdolfekaaGreatDoor
namespace Go.SL
open Go
def dV(x:Dg):Value := .agg (dC x).toArray
theorem aaO{a b:Dg}(h:dV a=dV b):a=b:=by
 grind [dV,aaP]
section
variable{P:Program}
theorem P1{kt e:TypeId}(hu:P.underlying kt=some (.array 32 e))(he:P.underlying e=some (.int .u8))(hc:P.cellsOf e=1)(em:Bool)(k:Dg)(w:World):(Instr.checkKey em 10000 kt (dV k)).run P w = .ok () w:=by
 obtain⟨i,hi⟩:=info_of_underlying he
 have Pd:P.plainKey e=true:=by unfold Program.plainKey;rw[he]
 have js:(sizeOf e).run P w = .ok 1 w:=by
  rw[Go.run_sizeOf w hi];congr 1
 rw[show(10000:Nat)=9999+1 from rfl,Instr.checkKey]
 simp only[Sem.run_bind,Go.run_underlying hu,Result.andThen_ok,dV]
 simp only[Std.Legacy.Range.forIn_eq_forIn_range',Std.Legacy.Range.size,Nat.sub_zero,Nat.add_one_sub_one,Nat.div_one]
 have each:∀j∈List.range' 0 32,j<32:=fun j hj=>by simp[List.mem_range']at hj;omega
 generalize List.range' 0 32=is at each
 induction is with
 | nil=>simp
 | cons j is ih =>
  have hj:=each j (by simp)
  have dq:(dC k).toArray[j*1]?=some (u8 (k.at j)):=by
   rw[Nat.mul_one,eF]
   simp only[List.getElem?_toArray]
   rw[show bV k.bs=k.bs.map u8 from rfl,List.getElem?_map,List.getElem?_eq_getElem (by rw[k.len];exact hj)]
   grind [Dg.at]
  have p1:(part e (dC k).toArray (j*1)).run P w = .ok (u8 (k.at j)) w:=run_part_plain w Pd dq
  have p2:(Instr.checkKey em 9999 e (u8 (k.at j))).run P w = .ok () w:=by
   rw[show(9999:Nat)=9998+1 from rfl,Instr.checkKey]
   simp[Go.run_underlying he,u8]
  simp_all
def BL{kt e:TypeId}(hu:P.underlying kt=some (.array 32 e))(he:P.underlying e=some (.int .u8))(hc:P.cellsOf e=1)(a b:Dg)(w:World):(Op.equal kt (dV a) (dV b)).run P w = .ok (decide (a=b)) w :=
 p7 hu he hc a b 9998 w
theorem acM{kt e:TypeId}(hu:P.underlying kt=some (.array 32 e))(he:P.underlying e=some (.int .u8))(hc:P.cellsOf e=1):jg P kt dV where
 inj _ _:=aaO
 check em k w:=P1 hu he hc em k w
 find k l ks w h:=by
  rw[run_findKey_eq (w:=w) (by rw[hu])]
  have key:∀(l:List MapEntry) (ks:List Dg) (o:Nat),l.map (·.key)=ks.map dV →
    ∃r,(Instr.findAsking kt (dV k) l o).run P w = .ok r w∧((r=none∧k ∉ ks)∨∃i e,r=some (o+i,e.val)∧l[i]?=some e∧ks[i]?=some k∧∀j,j<i→ks[j]? ≠ some k):=by
   intro l
   induction l with
   | nil =>
    intro ks o h
    have:ks=[]:=by simpa using h.symm
    subst this
    exact⟨none,by simp[Instr.findAsking],.inl ⟨rfl,by simp⟩⟩
   | cons en l ih =>
    intro ks o h
    cases ks with
    | nil=>simp at h
    | cons c ks =>
     simp only[List.map_cons,List.cons.injEq]at h
     obtain⟨h1,h2⟩:=h
     have hq:(Op.equal kt (dV k) en.key).run P w = .ok (decide (k=c)) w:=by rw[h1];exact BL hu he hc k c w
     by_cases MD:k=c
     ·subst MD
      refine⟨some (o+0,en.val),by simp[Instr.findAsking,hq],.inr ⟨0,en,rfl,by simp,by simp,fun j hj=>absurd hj aj⟩⟩
     ·obtain⟨r,hr,gB⟩:=ih ks (o+1) h2
      refine⟨r,by simp[Instr.findAsking,hq,MD,hr],?_⟩
      rcases gB with⟨rfl,hn⟩|⟨i,e',rfl,hi,hk,hj⟩
      ·grind
      ·refine .inr ⟨i+1,e',by congr 2;omega,by simpa using hi,by simpa using hk,fun j pG=>?_⟩
       cases j with
       | zero=>simp;exact fun h=>MD h.symm
       | succ j=>simpa using hj j aj
  obtain⟨r,hr,gB⟩:=key l ks 0 h
  grind
 bits k:=by
  rw[show(10000:Nat)=9999+1 from rfl]
  simp only[dV,Instr.sameBits,beq_self_eq_true,Bool.true_and,List.all_eq_true]
  have:∀(l:List UInt8),∀x∈((bV l).zip (bV l)),Instr.sameBits 9999 x.1 x.2=true:=by
   intro l
   induction l with
   | nil=>simp[bV]
   | cons c l ih =>
    intro x hx
    simp only[bV,List.map_cons,List.zip_cons_cons,List.mem_cons]at hx
    rcases hx with rfl|hx
    ·simp[u8,Instr.sameBits]
    ·exact ih x hx
  grind [eF]
end
end Go.SL
namespace Go.Proofs.YtjpboghdolfekaaGreatDoor
open Go Go.SL
attribute [local irreducible] J K aw Ends ag aH au bE aW aJ a6 aZ bI Sha.chunks Sha.chunk Sha.rounds Sha.sched ff
theorem wP(A:HP)(v:Value)(b:List UInt8)(hv:fb A v b)(hl:b.length≤1000000000):aw Tryz.prog 272 [v] [A] (fun r H=>H=[aH 5 1 r b.length (bV b),A]):=by
 obtain⟨a,c,rfl,hc⟩:=hv.2
 refine aw.ao Tryz.func272 Tryz.ntmps272 fun G F R hE=>?_
 cases a with
 | none =>
  have hb:b=[]:=by
   obtain⟨a,cap,h1,h2|⟨x,o,h2,_⟩⟩:=hv.1
   ·simpa[bV]using h2
   grind
  subst hb
  refine go ?_
  refine ai (bp 5 1 none _) ?_
  refine aL hE Tryz.func272 rfl _ zr zr ah
 | some a =>
  refine go ?_
  refine aq zr zr zr zr zr zr zr zr zr bq ?_
  intro b0
  refine go ?_
  (refine aR (eW 5 1 b0 0 0 [] [] _ rfl (Nat.le_refl _) (by simp)) ?_;refine aU (mm:=(b).length) (news:=bV (b)) 0 1 zr zr zr zr zr zr zr zr zr zr zr zr (hv.1) (by show _=_*1;rw[bK];omega) (dL _) aj (by show(_+_)*1≤_;omega) (fun _=>rfl) bq ?_;intro vA;rw[Nat.zero_add,List.nil_append];((refine aM 0 rfl ?_));rintro aA cA rfl)
  refine go ?_
  refine aL hE Tryz.func272 rfl _ zr zr ah
theorem uI(A:HP)(hK:lL A)(v:Value)(b:List UInt8)(hv:fb A v b)(hl:b.length≤1000000000) :
    aw Tryz.prog 159 [v] [A] (fun r H=>r=dV (ff b)∧H=[A]):=by
  obtain⟨a,c,rfl,hc⟩:=hv.2
  refine aw.ao Tryz.func159 Tryz.ntmps159 fun G F R hE=>?_
  refine aN rfl ?_
  refine aB zr zr zr bq ?_
  intro b2
  refine rW ?_
  refine aN rfl ?_
  refine qp (U:=aY) (cs:=wV Sha.start.l) zr zr zr zr zr zr ?_
  refine aB zr zr zr bq ?_
  intro b3
  refine eb (U:=aY) (l':=wV Sha.start.l) 0 fE zr zr zr zr (by decide) (pz _) zr zr zr ?_
  refine aR (H':=ag b3 (cl (wV (Sha.chunks Sha.start b 0).l) 415)::ag b2 (cl (dC Dg.zero) 35)::A::F) (by unfold Sha.chunks;exact ah) ?_
  refine go ?_
  refine tU zr zr zr aj aj (by simp only[fZ];omega) ?_
  refine go ?_
  refine iG zr zr zr (by simp only[fZ];omega) ?_
  refine aC 15 ((.int .i64 ((64*(b.length/64):Nat):Int))) rfl ((congrArg (Value.int .i64) aj)) (go ?_)
  refine bj (fun q:Nat=>q≤b.length/64) (fun q=>b.length/64-q)
    (fun q=>[(0,.slice a b.length c),(2,ptr b2),(3,ptr b3),(4,.int .i64 ((64*(b.length/64):Nat):Int)),(5,.int .i64 ((64*q:Nat):Int))])
    (fun q=>ag b3 (cl (wV (Sha.chunks Sha.start b q).l) 415)::ag b2 (cl (dC Dg.zero) 35)::A::F) 0 (Nat.zero_le _) rfl bO ah ?_
  rintro q hq ih
  refine go ?_
  refine aD zr zr ?_ ?_
  · intro cB
    have hq1:q<b.length/64:=by omega
    have lg:=hv.cut (64*q) aj
    have l6:=Bz A hK _ _ lg (by rw[List.length_drop];omega) (Sha.chunks Sha.start b q)
    have ug:Sha.chunk (Sha.chunks Sha.start b q) (b.drop (64*q))=Sha.chunks Sha.start b (q+1):=by conv=>rhs;unfold Sha.chunks
    rw[ug]at l6
    have hl8:∀s:Sha.St,(wV s.l).length=8:=fun s=>rfl
    refine go ?_
    refine aO (fun w=>Sat G w ([ag b3 (cl (wV (Sha.chunks Sha.start b q).l) 415)])) (cM 0 4 (.act 4 (.act 5 .nil))) rfl ae ae ae dv ?_
    refine go ?_
    refine cm (U:=aY) 0 zr zr zr zr zr zr (go ?_)
    refine bo (p:=((64*q:Nat):Int)) (q:=(b.length:Int)) zr zr zr zr zr zr zr aj aj (.inl rfl) ?_
    refine aC 24 ((.slice (sliceAt a c (64*q) 1) (b.length-64*q) (c-64*q))) rfl (rfl) ?_
    refine bP l6 ?_
    unfold stV
    refine aX ?_
    refine eb (U:=aY) 1 fE rfl rfl rfl rfl (by intro e;have:=congrArg List.length e;rw[hl8]at this;cases this) (pz _) rfl (by rw[hl8,hl8]) rfl ?_
    refine go ?_
    refine aQ 5 ((.int .i64 ((64*(q+1):Nat):Int))) rfl ((congrArg (Value.int .i64) aj)) ?_
    refine aK ih (q+1) rfl aj aj bO ah
  intro eN
  have hqe:q=b.length/64:=by omega
  subst hqe
  clear ih
  have lg:=hv.cut (64*(b.length/64)) aj
  obtain⟨B1,hB1⟩:∃B1,B1=b.drop (64*(b.length/64)):=⟨_,rfl⟩
  have aaG:B1.length=b.length-64*(b.length/64):=by rw[hB1,List.length_drop]
  rw[← hB1,← aaG]at lg
  refine go ?_
  refine bo (p:=((64*(b.length/64):Nat):Int)) (q:=(b.length:Int)) zr zr zr zr zr zr zr aj aj (.inl rfl) ?_
  ((refine aC 28 ((.slice (sliceAt a c (64*(b.length/64)) 1) B1.length (c-64*(b.length/64)))) rfl ((by rw[aaG];rfl)) ?_))
  refine go ?_
  refine az (wP A _ B1 lg aj) ?_
  rintro r _ rfl
  refine aM 0 rfl ?_
  rintro ra rc rfl
  refine go ?_
  (refine aq (cs:=bV [(128:UInt8)]) zr zr zr zr zr zr zr zr zr bq ?_;intro bA;refine aU (mm:=1) (news:=bV [(128:UInt8)]) 1 0 zr zr zr zr zr zr zr zr zr zr zr zr (Vw.ag rfl) rfl (dL _) aj (by show(_+_)*1≤_;omega) (fun _=>rfl) bq ?_;intro vA;rw[show bV (B1)++bV [(128:UInt8)]=bV ((B1)++[(128:UInt8)])from by simp[bV],show(B1).length+1=((B1)++[(128:UInt8)]).length from(@List.length_append _ (B1) [(128:UInt8)]).symm];((refine aM 1 rfl ?_));rintro aA cA rfl)
  refine go ?_
  obtain⟨z,hz⟩:∃z,z=(119-b.length%64)%64:=⟨_,rfl⟩
  have hz1:(B1.length+1+z)%64=56:=by omega
  have hz2:z<64:=by omega
  have adP:B1.length<64:=by omega
  have qZ:∀j:Nat,(B1++128::List.replicate j (0:UInt8)).length=B1.length+1+j:=fun j=>by simp;omega
  obtain⟨S1,hS1⟩:∃S1,S1=Sha.chunks Sha.start b (b.length/64):=⟨_,rfl⟩
  rw[← hS1]
  refine bj (fun y:Nat × Option Addr × Nat=>y.1≤z) (fun y=>z-y.1)
    (fun y=>[(0,.slice a b.length c),(2,ptr b2),(3,ptr b3),(6,.slice y.2.1 (B1++128::List.replicate y.1 (0:UInt8)).length y.2.2)])
    (fun y=>aH 5 1 (.slice y.2.1 (B1++128::List.replicate y.1 (0:UInt8)).length y.2.2) (B1++128::List.replicate y.1 (0:UInt8)).length (bV (B1++128::List.replicate y.1 (0:UInt8)))::A::ag b3 (cl (wV S1.l) 415)::ag b2 (cl (dC Dg.zero) 35)::F) (0,aA,cA) (Nat.zero_le _) rfl bO ah ?_
  rintro⟨j,a2,c2⟩ hj ih
  simp only at hj
  have MA:=qZ j
  dsimp only
  refine go ?_
  refine tT zr zr zr aj aj (go ?_)
  refine aD zr zr ?_ ?_
  · intro gf
    have hjz : j < z := by rcases Nat.lt_or_ge j z with h | h; exact h; exfalso; apply gf; rw [MA]; have : j = z := by omega
                           subst this;omega
    refine go ?_
    (refine aq (cs:=bV [(0:UInt8)]) zr zr zr zr zr zr zr zr zr bq ?_;intro bA;refine aU (mm:=1) (news:=bV [(0:UInt8)]) 1 0 zr zr zr zr zr zr zr zr zr zr zr zr (Vw.ag rfl) rfl (dL _) (by(rw[MA];omega)) (by show(_+_)*1≤_;(rw[MA];omega)) (fun _=>rfl) bq ?_;intro vA;rw[show bV ((B1++128::List.replicate j (0:UInt8)))++bV [(0:UInt8)]=bV (((B1++128::List.replicate j (0:UInt8)))++[(0:UInt8)])from by simp[bV],show((B1++128::List.replicate j (0:UInt8))).length+1=(((B1++128::List.replicate j (0:UInt8)))++[(0:UInt8)]).length from(@List.length_append _ ((B1++128::List.replicate j (0:UInt8))) [(0:UInt8)]).symm];((refine aM 1 rfl ?_));rintro aA cA rfl)
    rw[show B1++128::List.replicate j (0:UInt8)++[0]=B1++128::List.replicate (j+1) (0:UInt8)from by rw[List.replicate_succ'];simp]
    refine go ?_
    refine aK ih (j+1,aA,cA) rfl (by simp only;omega) (by simp only;omega) bO ah
  intro heq
  have hjz:j=z:=by
    grind
  subst hjz
  clear ih
  obtain⟨T0,hT0⟩:∃T0,T0=B1++128::List.replicate j (0:UInt8):=⟨_,rfl⟩
  rw[← hT0]at MA ⊢
  have hl3:∀i:Nat,i≤8→(T0++(Sha.zq (8*b.length)).take i).length=T0.length+i:=fun i hi=>by
    rw[List.length_append,List.length_take];simp only[Sha.zq,List.length_map,List.length_range];omega
  refine go ?_
  refine bj (fun y:Nat × Option Addr × Nat=>y.1≤8) (fun y=>8-y.1)
    (fun y=>[(0,.slice a b.length c),(2,ptr b2),(3,ptr b3),(6,.slice y.2.1 (T0++(Sha.zq (8*b.length)).take y.1).length y.2.2),(39,.int .i64 (y.1:Int))])
    (fun y=>aH 5 1 (.slice y.2.1 (T0++(Sha.zq (8*b.length)).take y.1).length y.2.2) (T0++(Sha.zq (8*b.length)).take y.1).length (bV (T0++(Sha.zq (8*b.length)).take y.1))::A::ag b3 (cl (wV S1.l) 415)::ag b2 (cl (dC Dg.zero) 35)::F) (0,a2,c2) (Nat.zero_le _) rfl (by simp only[List.take_zero,List.append_nil];exact bO) (by simp only[List.take_zero,List.append_nil];exact ah) ?_
  rintro⟨i,a3,c3⟩ hi ih
  simp only at hi
  have hli:=hl3 i hi
  dsimp only
  refine go ?_
  refine aD zr zr ?_ ?_
  · intro cB
    have hi8:i<8:=by omega
    have hbe:(Sha.zq (8*b.length)).take (i+1)=(Sha.zq (8*b.length)).take i++[UInt8.ofNat (8*b.length/2 ^ (56-8*i))]:=by
      rw[List.take_add_one];simp[Sha.zq,hi8]
    refine go ?_
    refine l4 zr zr zr aj ?_
    refine aC 46 ((.int .u64 ((8*b.length:Nat):Int))) rfl ((yD (x:=b.length) (q:=3) aj aj aj)) (go ?_)
    refine iG zr zr zr (by simp only[fZ];omega) ?_
    refine go ?_
    refine aC 49 ((.int .i64 ((56-8*i:Nat):Int))) rfl ((congrArg (Value.int .i64) aj)) ?_
    refine fL zr zr zr aj ?_
    ((refine aC 50 ((.int .u64 ((8*b.length/2 ^ (56-8*i):Nat):Int))) rfl ((congrArg (Value.int .u64) (by rw[Int.toNat_natCast,show min (56-8*i) IntKind.u64.bits=56-8*i from by show min (56-8*i) 64=_;omega];simp))) ?_))
    refine ib ?_
    refine kr zr zr zr zr zr zr ?_
    refine aC 51 ((u8 (UInt8.ofNat (8*b.length/2 ^ (56-8*i))))) rfl ((nz _)) ?_
    (refine aq (cs:=bV [(UInt8.ofNat (8*b.length/2 ^ (56-8*i)))]) zr zr zr zr zr zr zr zr zr bq ?_;intro bA;refine aU (mm:=1) (news:=bV [(UInt8.ofNat (8*b.length/2 ^ (56-8*i)))]) 1 0 zr zr zr zr zr zr zr zr zr zr zr zr (Vw.ag rfl) rfl (dL _) (by(rw[hli];omega)) (by show(_+_)*1≤_;(rw[hli];omega)) (fun _=>rfl) bq ?_;intro vA;rw[show bV ((T0++(Sha.zq (8*b.length)).take i))++bV [(UInt8.ofNat (8*b.length/2 ^ (56-8*i)))]=bV (((T0++(Sha.zq (8*b.length)).take i))++[(UInt8.ofNat (8*b.length/2 ^ (56-8*i)))])from by simp[bV],show((T0++(Sha.zq (8*b.length)).take i)).length+1=(((T0++(Sha.zq (8*b.length)).take i))++[(UInt8.ofNat (8*b.length/2 ^ (56-8*i)))]).length from(@List.length_append _ ((T0++(Sha.zq (8*b.length)).take i)) [(UInt8.ofNat (8*b.length/2 ^ (56-8*i)))]).symm];((refine aM 1 rfl ?_));rintro aA cA rfl)
    rw[show T0++(Sha.zq (8*b.length)).take i++[UInt8.ofNat (8*b.length/2 ^ (56-8*i))]=T0++(Sha.zq (8*b.length)).take (i+1)from by rw[hbe,List.append_assoc]]
    refine go ?_
    refine aK ih (i+1,aA,cA) rfl (by simp only;omega) (by simp only;omega) bO ah
  intro eN
  have hi8:i=8:=by omega
  subst hi8
  clear ih
  have My:=Sha.H6 b
  rw[← hS1,← hB1]at My
  have ada:B1++Sha.pad b.length=T0++(Sha.zq (8*b.length)).take 8:=by
    rw[hT0,List.take_of_length_le (by simp[Sha.zq])]
    unfold Sha.pad
    grind
  rw[ada]at My
  generalize T0++(Sha.zq (8*b.length)).take 8=T at hli My ⊢
  have agr:T.length%64=0:=by omega
  have hTl:T.length≤1000000200:=by omega
  clear MA hl3 ada hT0 qZ hB1 aaG lg hz hz1 hz2 adP hS1 hli
  have hl8:∀s:Sha.St,(wV s.l).length=8:=fun s=>rfl
  refine xe (bs:=T) 0 rfl ?_
  intro hvT
  have aeE:fb (Sep [aH 5 1 (.slice a3 T.length c3) T.length (bV T),A]) (.slice a3 T.length c3) T:=hvT.mono (bz (i:=0) rfl)
  have hK2:lL (Sep [aH 5 1 (.slice a3 T.length c3) T.length (bV T),A]):=hK.mono (bz (i:=1) rfl)
  refine ai (ak.bT [_,_] _) (go ?_)
  refine bj (fun q:Nat=>q≤T.length/64) (fun q=>T.length/64-q)
    (fun q=>[(2,ptr b2),(3,ptr b3),(6,.slice a3 T.length c3),(8,.int .i64 ((64*q:Nat):Int))])
    (fun q=>Sep [aH 5 1 (.slice a3 T.length c3) T.length (bV T),A]::ag b3 (cl (wV (Sha.chunks S1 T q).l) 415)::ag b2 (cl (dC Dg.zero) 35)::F) 0 (Nat.zero_le _) rfl bO (by unfold Sha.chunks;exact ah) ?_
  rintro q hq ih
  refine go ?_
  refine aD zr zr ?_ ?_
  · intro cB
    have hq1:q<T.length/64:=by omega
    have lg:=aeE.cut (64*q) aj
    have l6:=Bz _ hK2 _ _ lg (by rw[List.length_drop];omega) (Sha.chunks S1 T q)
    have ug:Sha.chunk (Sha.chunks S1 T q) (T.drop (64*q))=Sha.chunks S1 T (q+1):=by conv=>rhs;unfold Sha.chunks
    rw[ug]at l6
    refine go ?_
    refine aO (fun w=>Sat G w ([ag b3 (cl (wV (Sha.chunks S1 T q).l) 415)])) (cM 0 4 (.act 4 (.act 5 .nil))) rfl ae ae ae dv ?_
    refine go ?_
    refine cm (U:=aY) 0 zr zr zr zr zr zr (go ?_)
    refine bo (p:=((64*q:Nat):Int)) (q:=(T.length:Int)) zr zr zr zr zr zr zr aj aj (.inl rfl) ?_
    refine aC 64 ((.slice (sliceAt a3 c3 (64*q) 1) (T.length-64*q) (c3-64*q))) rfl (rfl) ?_
    refine bP l6 ?_
    unfold stV
    refine aX ?_
    refine eb (U:=aY) 1 fE rfl rfl rfl rfl (by intro e;have:=congrArg List.length e;rw[hl8]at this;cases this) (pz _) rfl (by rw[hl8,hl8]) rfl ?_
    refine go ?_
    refine aQ 8 ((.int .i64 ((64*(q+1):Nat):Int))) rfl ((congrArg (Value.int .i64) aj)) ?_
    refine aK ih (q+1) rfl aj aj bO ah
  intro eN
  have hqe:q=T.length/64:=by omega
  subst hqe
  rw[← My]
  have ue:(ff b).bs=Sha.out (Sha.chunks Sha.start (Sha.msg b) ((Sha.msg b).length/64)):=Ot b
  clear My ih
  generalize Sha.chunks Sha.start (Sha.msg b) ((Sha.msg b).length/64)=S2 at ue ⊢
  refine ai (ak.cL _ _) (go ?_)
  refine aB zr zr zr bq ?_
  intro b9
  refine go ?_
  have hol:=Sha.GM S2
  have QV:∀i,i≤32→((Sha.out S2).take i++List.replicate (32-i) (0:UInt8)).length=32:=fun i hi=>by
    grind
  refine bj (fun i:Nat=>i≤32) (fun i=>32-i)
    (fun i=>[(2,ptr b2),(3,ptr b3),(9,ptr b9),(66,.int .i64 (i:Int))])
    (fun i=>ag b9 (cl (bV ((Sha.out S2).take i++List.replicate (32-i) (0:UInt8))) 35)::ag b3 (cl (wV S2.l) 415)::ag b2 (cl (dC Dg.zero) 35)::A::F) 0 (Nat.zero_le _) rfl bO ah ?_
  rintro i hi ih
  refine go ?_
  refine aD zr zr ?_ ?_
  · intro cB
    have Ar:i<32:=by omega
    have hq4:(i:Int)/4=((i/4:Nat):Int):=by omega
    have hr4:24-8*((i:Int)%4)=((24-8*(i%4):Nat):Int):=by omega
    have hwg:(wV S2.l)[i/4]?=some (u32 (S2.l.getD (i/4) 0)):=oh (by rw[List.getD_eq_getElem?_getD,List.getElem?_eq_getElem (show i/4<S2.l.length from by show i/4<8;omega)];rfl)
    have Pe:(Sha.out S2)[i]?=some (UInt8.ofNat ((S2.l.getD (i/4) 0) >>> (24-8*(i%4))).toNat):=by simp[Sha.out,Ar]
    (repeat(first|refine eK ?_|refine tU zr zr zr aj aj (by simp only[fZ];omega) ?_|refine tT zr zr zr aj aj ?_|refine iG zr zr zr (by simp only[fZ];omega) ?_|refine iZ (U:=aY) (i/4) zr zr zr zr zr zr zr hq4 aj ?_|(refine aS ?_;refine xl (U:=aY) 1 (i/4) zr zr zr (Nat.zero_add _) hwg zr zr ?_)|refine A6 (24-8*(i%4)) zr zr zr hr4 aj ?_|(refine ib ?_;refine Ka (U:=aY) zr zr zr zr zr zr ?_)|refine iZ (U:=aY) i zr zr zr zr zr zr zr zr Ar ?_))
    refine aX ?_
    refine lM (U:=aY) 0 fE zr zr zr zr zr zr zr (by rw[bK,QV i aj];omega) rfl ?_
    rw[show 0+i=i from Nat.zero_add _,Lm hol Pe]
    refine go ?_
    refine aK ih (i+1) rfl aj aj bO ah
  intro eN
  have Ar:i=32:=by omega
  subst Ar
  rw[List.take_of_length_le aj,show 32-32=0 from rfl,List.replicate_zero,List.append_nil,← ue,← eF]
  clear ih QV hol ue
  have hd:(dC (ff b)).length=32:=rfl
  have gA:gU (dC (ff b))=true:=by rw[eF];exact jv _
  have hdv:dV (ff b) = .agg (dC (ff b)).toArray:=rfl
  rw[hdv]at hE
  generalize dC (ff b)=cs at hd gA hE ⊢
  refine go ?_
  refine aV (U:=aY) 0 zr zr zr zr zr hd ?_
  refine eb (U:=aY) 2 fE rfl rfl rfl hd (by intro e;rw[e]at hd;cases hd) gA rfl (by rw[hd];rfl) rfl ?_
  refine go ?_
  refine nH (U:=aY) 2 hE Tryz.func159 zr zr zr zr zr hd rfl ⟨rfl,rfl⟩ ah
end Go.Proofs.YtjpboghdolfekaaGreatDoor
namespace Go.Proofs.YtjpboghdolfekaaGreatDoor
open Go Go.SL
def qx(A:HP)(v:Value)(ls:List (List UInt8)):Prop:=∃cs:List Value,Vw A v ls.length cs∧cs.length=ls.length∧(∃a c,v = .slice a ls.length c∧ls.length≤c)∧∀(i:Nat) (x:List UInt8),ls[i]?=some x→∃cv,cs[i]?=some cv∧fb A cv x
def qx.row{X:HP}{b:Nat}{e:TypeId}{n:Nat}{cs:List Value}{ls:List (List UInt8)}(hn:ls.length=n)(hc:cs.length=n)(h:∀(i:Nat) (x:List UInt8),ls[i]?=some x→∃cv,cs[i]?=some cv∧fb X cv x) :
  qx (Sep [ag b (cl cs e),X]) (.slice (some ⟨b,0,none⟩) n n) ls:=by
 subst hn
 refine⟨cs,(Vw.ag (by rw[List.drop_zero,List.take_length])).mono (bz (i:=0) rfl),hc,⟨_,_,rfl,Nat.le_refl _⟩,fun i x hx=>?_⟩
 obtain⟨cv,h1,h2⟩:=h i x hx
 exact⟨cv,h1,h2.mono (bz (i:=1) rfl)⟩
end Go.Proofs.YtjpboghdolfekaaGreatDoor
namespace Go.SL
open Go
inductive aT(P:Program)(U:Tr)(L:eC)(H:List HP):List ResultVar→List Value→Prop where
 | nil:aT P U L H [] []
 | tmp {q:Nat} {u:Value} {rs:List ResultVar} {us:List Value} (hq:dp L q=some u) (h:aT P U L H rs us):aT P U L H (.tmp q::rs) (u::us)
 | agg {p b:Nat} {t e:TypeId} {bL:Ty} {cs:List Value} {rs:List ResultVar} {us:List Value} (i:Nat) (hp:dp L p=some (.pointer (some ⟨b,0,none⟩))) (ht:U.get t=some bL) (hg:bL.isAgg=true) (hi:bU H i=some (ag b (cl cs e))) (hl:cs.length=bL.info.size) (h:aT P U L H rs us):aT P U L H (.cell p t::rs) (.agg cs.toArray::us)
 | one {p b:Nat} {t e:TypeId} {bL:Ty} {u:Value} {rs:List ResultVar} {us:List Value} (i:Nat) (hp:dp L p=some (.pointer (some ⟨b,0,none⟩))) (ht:U.get t=some bL) (hg:bL.isAgg=false) (hi:bU H i=some (ag b (cl [u] e))) (h:aT P U L H rs us):aT P U L H (.cell p t::rs) (u::us)
def aT.run{P:Program}{U:Tr}[hU:eO P U]{n:Nat}{G:cg}{L:eC}{H:List HP}{a:Act}{w:World}(ha:Has n L a)(hw:Sat G w H):∀ {rs us},aT P U L H rs us→(rs.mapM (zX a.tmps)).run P w = .ok us w:=by
 intro rs us h
 induction h with
 | nil=>simp
 | @tmp q u rs us hq h ih =>
  have g2:a.tmps.getD q undef=u:=by rw[Array.getD_eq_getD_getElem?,ha.2.2 _ _ hq];rfl
  simp only[List.mapM_cons,Sem.run_bind,zX,g2,Sem.run_pure,Result.andThen_ok,ih]
 | @agg p b t e bL cs rs us i hp ht hg hi hl h ih =>
  have hc:∀j v,cs[j]?=some v→w.cell? ⟨b,0+j,none⟩=some v:=fun j v hj=>by rw[cZ (hw.rf hi),Nat.zero_add];exact hj
  have Pk:=gr (P:=P) (w:=w) ht hg hl hc
  have aao:(loadVar t ⟨b,0,none⟩).run P w = .ok (.agg cs.toArray) w:=by simpa[Instr.loadAt,Instr.sureAddr]using Pk
  have g1:a.tmps.getD p undef = .pointer (some ⟨b,0,none⟩):=by simp[Array.getD_eq_getD_getElem?,ha.2.2 p _ hp]
  simp only[List.mapM_cons,Sem.run_bind,zX,g1,asAddr,Sem.run_pure,Result.andThen_ok,aao,ih]
 | @one p b t e bL u rs us i hp ht hg hi h ih =>
  have g1:=vg (P:=P) i ha hw hp ht hg hi
  simp_all
def a7{P:Program}{U:Tr}[hU:eO P U]{f:FuncId}{n:Nat}{R:Ending→World→Prop}{G:cg}{ds:List Nat}{k k0:List Item}{L:eC}{H H':List HP}{fn:Func}{F:List HP}{Post:Value→List HP→Prop}{us:List Value}{Hq:List HP}(hR:Ends R G F Post)(hf:P.funcs[f]?=some fn)(hk:fU 1000 k0 = .mk (.code .ret::k))(he:ak H (ds.map (fun r=>ag r (.deferred (some [])))++H'))(hr:aT P U L H' fn.results.toList us)(ef:Post (dJ us) Hq)(Fi:ak H' (Hq++F)):K P f n R { G with ds:=ds } k0 L H:=by
 refine NJ hR hf hk he (fun a w ha hw=>?_) ef Fi
 have h1:=hr.run (P:=P) ha hw
 rw[mY,Array.mapM_eq_mapM_toList]
 simp only[Sem.run_bind,Sem.run_map,h1,Sem.run_pure,Result.andThen_ok]
 match us with
 | []=>simp[dJ]
 | [v]=>simp[dJ]
 | v::u::vs=>simp[dJ]
section
variable{P:Program}{U:Tr}[hU:eO P U]{f:FuncId}{n:Nat}{R:Ending→World→Prop}{G:cg}{k:List Item}{L:eC}{H H':List HP}{S:World→Prop}{all:Array Oper}{rest:Pl}{ty:TypeId}{pos:String}{af:Array Edge}{gd:Option (Nat × Bool)}{m:Bool}{d:Tmp}
theorem J6{t elem:TypeId}{bL te:Ty}{x lo hi mx:Operand}{a0:Option Addr}{len cap:Nat}{p q r:Int}{j1 j2 j3:IntKind}(hd:Nat.blt d n=true)(ht:U.get t=some bL)(hu:bL.fe = .slice elem)(he:U.get elem=some te)(hx:ev L x=some (.slice a0 len cap))(yY:ev L lo=some (.int j1 p))(DW:ev L hi=some (.int j2 q))(hmx:ev L mx=some (.int j3 r))(h0:0≤p)(Kt:p≤q)(hqr:q≤r)(Og:r≤(cap:Int))(h:J P f n R G S all rest k ((d,.slice (sliceAt a0 r.toNat p.toNat te.info.size) (q.toNat-p.toNat) (r.toNat-p.toNat))::L) H) :
  J P f n R G S all (.cons m true ⟨some d,.slice t x (some lo) (some hi) (some mx),ty,pos,af,gd⟩ rest) k L H:=by
 refine cR hd (fun a ha w=>?_) h
 have hb:(Instr.sliceBounds true len cap (some (a.eval lo)) (some (a.eval hi)) (some (a.eval mx))).run P w = .ok (p.toNat,q.toNat,r.toNat) w:=by
  unfold Instr.sliceBounds
  have e1:0≤r∧r≤(cap:Int):=⟨aj,Og⟩
  have e2:0≤q∧q≤((r.toNat:Nat):Int):=⟨aj,aj⟩
  have e3:0≤p∧p≤((q.toNat:Nat):Int):=⟨aj,aj⟩
  have e4:q≤max r 0:=by omega
  have e5:p≤max q 0:=by omega
  have e6:0≤q:=by omega
  simp[ha.ev yY,ha.ev DW,ha.ev hmx,Instr.sliceBound,asIntOf,e1,e2,e3,e4,e5,e6,h0]
 simp only[execOp,ha.ev hx,Instr.sliceAt,Sem.run_bind,run_underlying ht,Result.andThen_ok,hu,Instr.slice,Option.map_some,hb,run_sizeOf he,Sem.run_pure,sliceAt]
 grind
end
end Go.SL
namespace Go.Proofs.YtjpboghdolfekaaGreatDoor
open Go Go.SL
attribute [local irreducible] J K aw Ends ag aH au bE aW aJ a6 aZ bI Sha.chunks Sha.chunk Sha.rounds Sha.sched ff
def B5{tag:UInt8}{ps:List (List UInt8)}{i:Nat}{p:List UInt8}(h:ps[i]?=some p):fz tag (ps.take (i+1))=fz tag (ps.take i)++(rS p.length++p):=by
 unfold fz
 rw[List.take_add_one,h]
 simp
theorem Iv(tag:UInt8)(ps:List (List UInt8))(i:Nat):(fz tag (ps.take i)).length≤(fz tag ps).length:=by
 conv=>rhs;rw[← List.take_append_drop i ps]
 grind [fz]
theorem Ad(tag:UInt8)(ps:List (List UInt8)):ps.length≤(fz tag ps).length:=by
 unfold fz
 induction ps with
 | nil=>simp
 | cons p ps ih =>
  grind [rS]
def OZ(n:Nat):(rS n).length=8:=by simp[rS]
def L9{n i:Nat}(h:i<8):(rS n).take (i+1)=(rS n).take i++[UInt8.ofNat (n/2 ^ (8*i))]:=by
 rw[List.take_add_one];simp[rS,h]
theorem wZ(A:HP)(hK:lL A)(tag:UInt8)(v:Value)(ps:List (List UInt8))(hv:qx A v ps)(hl:(fz tag ps).length≤1000000000) :
  aw Tryz.prog 273 [u8 tag,v] [A] (fun r H=>r=dV (cI tag ps)∧H=[A]):=by
 obtain⟨cs,dt,jF,⟨a,c,rfl,hc⟩,rU⟩:=hv
 have agn:=Ad tag ps
 refine aw.ao Tryz.func273 Tryz.ntmps273 fun G F R hE=>?_
 refine aN rfl ?_
 refine aB zr zr zr bq ?_
 intro b4
 refine rW ?_
 refine aN rfl ?_
 refine rW ?_
 refine aq (cs:=bV [tag]) zr zr zr zr zr zr zr zr zr bq ?_
 intro b0
 refine go ?_
 refine ai (eW 5 1 b0 1 1 (bV [tag]) [] _ rfl (Nat.le_refl _) (by simp[bV])) ?_
 refine bj (fun y:Nat × Option Addr × Nat=>y.1≤ps.length) (fun y=>ps.length-y.1)
  (fun y=>[(4,ptr b4),(11,.slice a ps.length c),(12,.int .i64 (ps.length:Int)),(13,.int .i64 (y.1:Int)),(5,.slice y.2.1 (fz tag (ps.take y.1)).length y.2.2)])
  (fun y=>aH 5 1 (.slice y.2.1 (fz tag (ps.take y.1)).length y.2.2) (fz tag (ps.take y.1)).length (bV (fz tag (ps.take y.1)))::A::ag b4 (cl (dC Dg.zero) 35)::F) (0,some ⟨b0,0,none⟩,1) (Nat.zero_le _) rfl bO ah ?_
 rintro⟨i,a1,c1⟩ hi ih
 refine go ?_
 refine aD zr zr ?_ ?_
 ·intro cB
  have k9:i<ps.length:=by omega
  obtain⟨p,hp⟩:∃p,ps[i]?=some p:=⟨ps[i],List.getElem?_eq_getElem k9⟩
  obtain⟨cv,n5,hb⟩:=rU i p hp
  obtain⟨b1,o1,c0,xU⟩:=dt.some (by intro h;rw[h]at n5;simp at n5)
  obtain⟨rfl,-,rfl⟩:=xU
  have l6:=B5 (tag:=tag) hp
  have hle:=Iv tag ps (i+1)
  have afO:=OZ p.length
  rw[l6]at hle
  simp only[List.length_append]at hle
  obtain⟨T0,hT0⟩:∃T0,T0=fz tag (ps.take i):=⟨_,rfl⟩
  rw[← hT0]at l6 hle ⊢
  obtain⟨ax,cx,rfl,hcx⟩:=hb.2
  have hl3:∀j:Nat,j≤8→(T0++(rS p.length).take j).length=T0.length+j:=fun j hj=>by
   grind
  refine go ?_
  refine bD i zr zr zr zr zr zr zr zr k9 ?_
  refine aS ?_
  refine aP 1 i zr zr zr dt rfl n5 zr zr (go ?_)
  refine bj (fun y:Nat × Option Addr × Nat=>y.1≤8) (fun y=>8-y.1)
   (fun y=>[(4,ptr b4),(7,.slice ax p.length cx),(11,.slice (some ⟨b1,o1,none⟩) ps.length c),(12,.int .i64 (ps.length:Int)),(13,.int .i64 (i:Int)),(5,.slice y.2.1 (T0++(rS p.length).take y.1).length y.2.2),(17,.int .i64 (y.1:Int))])
   (fun y=>aH 5 1 (.slice y.2.1 (T0++(rS p.length).take y.1).length y.2.2) (T0++(rS p.length).take y.1).length (bV (T0++(rS p.length).take y.1))::A::ag b4 (cl (dC Dg.zero) 35)::F) (0,a1,c1) (Nat.zero_le _) rfl (by simp only[List.take_zero,List.append_nil];exact bO) (by simp only[List.take_zero,List.append_nil];exact ah) ?_
  rintro⟨j,a2,c2⟩ hj O2
  have MA:=hl3 j hj
  refine go ?_
  refine aD zr zr ?_ ?_
  ·intro hj8
   have afe:j<8:=by omega
   have htj:=L9 (n:=p.length) afe
   refine go ?_
   refine iG zr zr zr (by simp only[fZ];omega) ?_
   refine aC 25 ((.int .i64 ((8*j:Nat):Int))) rfl ((congrArg (Value.int .i64) aj)) ?_
   refine fL zr zr zr aj ?_
   ((refine aC 26 ((.int .u64 ((p.length/2 ^ (8*j):Nat):Int))) rfl ((congrArg (Value.int .u64) (by rw[Int.toNat_natCast,show min (8*j) IntKind.u64.bits=8*j from by show min (8*j) 64=_;omega];simp))) ?_))
   refine ib ?_
   refine kr zr zr zr zr zr zr ?_
   refine aC 27 ((u8 (UInt8.ofNat (p.length/2 ^ (8*j))))) rfl ((nz _)) ?_
   (refine aq (cs:=bV [(UInt8.ofNat (p.length/2 ^ (8*j)))]) zr zr zr zr zr zr zr zr zr bq ?_;intro bA;refine aU (mm:=1) (news:=bV [(UInt8.ofNat (p.length/2 ^ (8*j)))]) 1 0 zr zr zr zr zr zr zr zr zr zr zr zr (Vw.ag rfl) rfl (dL _) (by(rw[MA];omega)) (by show(_+_)*1≤_;(rw[MA];omega)) (fun _=>rfl) bq ?_;intro vA;rw[show bV ((T0++(rS p.length).take j))++bV [(UInt8.ofNat (p.length/2 ^ (8*j)))]=bV (((T0++(rS p.length).take j))++[(UInt8.ofNat (p.length/2 ^ (8*j)))])from by simp[bV],show((T0++(rS p.length).take j)).length+1=(((T0++(rS p.length).take j))++[(UInt8.ofNat (p.length/2 ^ (8*j)))]).length from(@List.length_append _ ((T0++(rS p.length).take j)) [(UInt8.ofNat (p.length/2 ^ (8*j)))]).symm];((refine aM 1 rfl ?_));rintro aA cA rfl)
   rw[show T0++(rS p.length).take j++[UInt8.ofNat (p.length/2 ^ (8*j))]=T0++(rS p.length).take (j+1)from by rw[htj,List.append_assoc]]
   refine go ?_
   refine aK O2 (j+1,aA,cA) rfl aj aj bO ah
  intro eN
  rw[List.take_of_length_le aj]at MA ⊢
  refine go ?_
  (refine aU (mm:=(p).length) (news:=bV (p)) 0 1 zr zr zr zr zr zr zr zr zr zr zr zr (hb.1) (by show _=_*1;rw[bK];omega) (dL _) (by(rw[MA];omega)) (by show(_+_)*1≤_;(rw[MA];omega)) (fun _=>rfl) bq ?_;intro vA;rw[show bV ((T0++rS p.length))++bV (p)=bV (((T0++rS p.length))++(p))from by simp[bV],show((T0++rS p.length)).length+(p).length=(((T0++rS p.length))++(p)).length from(@List.length_append _ ((T0++rS p.length)) (p)).symm];((refine aM 0 rfl ?_));rintro aA cA rfl)
  rw[show T0++rS p.length++p=fz tag (ps.take (i+1))from by rw[l6,List.append_assoc]]
  refine go ?_
  refine aK ih (i+1,aA,cA) rfl aj aj bO ah
 intro eN
 have dP:i=ps.length:=by omega
 subst dP
 rw[List.take_length]
 refine xe (bs:=fz tag ps) 0 rfl ?_
 intro hvT
 refine ai (ak.bT [_,_] _) (go ?_)
 refine aF (uI _ (hK.mono (bz (i:=1) rfl)) _ (fz tag ps) (hvT.mono (bz (i:=0) rfl)) hl) ?_
 refine aR (ak.cL _ _) (go ?_)
 refine nH (U:=aY) 2 hE Tryz.func273 zr zr zr zr zr zr zr ⟨rfl,rfl⟩ ah
theorem Nk(x:Nat)(hx:x<256):IntKind.u8.wrap ((BitVec.ofInt IntKind.u8.bits (x:Int) &&& BitVec.ofInt IntKind.u8.bits 15).toNat:Int)=((x%16:Nat):Int):=by
 have e2:(BitVec.ofInt IntKind.u8.bits (15:Int)).toNat=2 ^ 4-1:=by decide
 rw[BitVec.toNat_and,uA hx,e2,Nat.and_two_pow_sub_one_eq_mod]
 grind [cz,fZ]
def Mg(n:Nat)(h:n<16):sM ⟨#[48,49,50,51,52,53,54,55,56,57,97,98,99,100,101,102]⟩ n=zR n:=by
 have:∀n:Nat,n<16→sM ⟨#[48,49,50,51,52,53,54,55,56,57,97,98,99,100,101,102]⟩ n=zR n:=by decide
 exact this n h
def D5{d:Dg}{i:Nat}(h:i<32):(gX d).take (2*(i+1))=(gX d).take (2*i)++[zR ((d.at i).toNat/16),zR ((d.at i).toNat%16)]:=by
 have e1:s9 d (2*i)=zR ((d.at i).toNat/16):=by unfold s9;rw[if_pos aj,show 2*i/2=i from by omega]
 have e2:s9 d (2*i+1)=zR ((d.at i).toNat%16):=by unfold s9;rw[if_neg aj,show(2*i+1)/2=i from by omega]
 rw[show 2*(i+1)=2*i+1+1 from by omega,List.take_add_one,List.take_add_one,mh d aj,mh d aj,e1,e2]
 simp
def aaQ(d:Dg){i:Nat}(h:i<32):(dC d)[i]?=some (u8 (d.at i)):=by
 rw[eF]
 exact sQ (d.Ng h)
def Np(d:Dg):aw Tryz.prog 287 [dV d] [] (fun r H=>r = .string (strOf (gX d))∧H=[]):=by
 refine aw.ao Tryz.func287 Tryz.ntmps287 fun G F R hE=>?_
 refine aN rfl ?_
 refine bC zr zr bq ?_
 intro b1
 refine go ?_
 refine hJ (p:=0) (q:=64) zr zr zr zr zr zr zr zr zr aj aj (by decide) bq ?_
 intro b3
 refine go ?_
 have afm:=eW 5 1 b3 0 64 [] (List.replicate 64 (u8 0)) (ag b1 (cl (dC d) 35)::F) rfl aj (by rw[List.length_replicate];exact Nat.le_add_left _ _)
 refine aR afm ?_
 refine aV (U:=aY) 1 zr zr zr zr zr zr (go ?_)
 refine bj (fun y:Nat × Option Addr × Nat=>y.1≤32) (fun y=>32-y.1)
  (fun y=>[(3,.slice y.2.1 ((gX d).take (2*y.1)).length y.2.2),(7,dV d),(8,.int .i64 (y.1:Int))])
  (fun y=>aH 5 1 (.slice y.2.1 ((gX d).take (2*y.1)).length y.2.2) ((gX d).take (2*y.1)).length (bV ((gX d).take (2*y.1)))::F) (0,some ⟨b3,0,none⟩,64) (Nat.zero_le _) rfl bO ah ?_
 rintro⟨i,a1,c1⟩ hi ih
 have hlen:((gX d).take (2*i)).length=2*i:=by rw[List.length_take,mf];omega
 refine go ?_
 refine aD zr zr ?_ ?_
 ·intro cB
  have Ar:i<32:=by omega
  have hg:=aaQ d Ar
  have l6:=D5 (d:=d) Ar
  have hx:=(d.at i).toNat_lt
  refine go ?_
  refine e7 zr zr zr zr zr zr zr zr aj aj (show(dC d).toArray.toList[((i:Nat):Int).toNat]?=some (u8 (d.at i))from by rw[Int.toNat_natCast];exact hg) ?_
  generalize d.at i=x at l6 hx
  refine go ?_
  refine aO (fun w=>Sat G w ([])) (cM 0 7 (.act 7 (.act 8 (.st 9 .nil)))) rfl ae ae ae dv ?_
  refine go ?_
  refine fL zr zr zr aj ?_
  ((refine aC 13 ((.int .u8 ((x.toNat/16:Nat):Int))) rfl ((congrArg (Value.int .u8) (by show(x.toNat:Int)/2 ^ 4=_;omega))) ?_))
  refine nK (U:=aY) zr zr zr zr zr aj (by show((x.toNat/16:Nat):Int)<16;omega) ?_
  refine aC 14 ((u8 (zR (x.toNat/16)))) rfl ((congrArg u8 (Mg (x.toNat/16) aj))) (go ?_)
  refine go ?_
  refine aC 16 ((.int .u8 ((x.toNat%16:Nat):Int))) rfl ((congrArg (Value.int .u8) (Nk x.toNat hx))) ?_
  refine nK (U:=aY) zr zr zr zr zr aj (by show((x.toNat%16:Nat):Int)<16;omega) ?_
  refine aC 17 ((u8 (zR (x.toNat%16)))) rfl ((congrArg u8 (Mg (x.toNat%16) aj))) ?_
  refine aq (cs:=bV [zR (x.toNat/16),zR (x.toNat%16)]) zr zr zr zr zr zr zr zr zr (fun _ _ hw=>hw.cp ah) ?_
  intro bA
  refine aU (mm:=2) (news:=bV [zR (x.toNat/16),zR (x.toNat%16)]) 1 0 zr zr zr zr zr zr zr zr zr zr zr zr (Vw.ag rfl) rfl (dL _) (by rw[hlen];omega) (by show(_+_)*1≤_;rw[hlen];omega) (fun _=>rfl) (fun _ _ hw=>hw.cp ah) ?_
  intro vA
  rw[show bV ((gX d).take (2*i))++bV [zR (x.toNat/16),zR (x.toNat%16)]=bV ((gX d).take (2*(i+1)))from by rw[l6];simp[bV],show((gX d).take (2*i)).length+2=((gX d).take (2*(i+1))).length from by rw[l6,List.length_append];rfl]
  refine aM 1 rfl ?_
  rintro aA cA rfl
  refine go ?_
  refine aK ih (i+1,aA,cA) rfl aj aj bO ah
 intro eN
 have Ar:i=32:=by omega
 subst Ar
 refine xe (bs:=gX d) 0 rfl ?_
 intro hvT
 refine go ?_
 refine A0 (U:=aY) 0 zr zr zr zr zr zr zr zr zr hvT.1 (go ?_)
 refine ad hE Tryz.func287 zr zr ⟨rfl,rfl⟩
theorem HS(c:UInt8):aw Tryz.prog 295 [u8 c] [] (fun r H=>r = .tuple #[.int .u8 (((jX c).getD 0:Nat):Int),.bool (jX c).isSome]∧H=[]):=by
 have h1:(48≤c.toNat∧c.toNat≤57)→Value.tuple #[.int .u8 ((c.toNat:Int)-48),.bool true] = .tuple #[.int .u8 (((jX c).getD 0:Nat):Int),.bool (jX c).isSome]:=fun h=>by
  grind [jX]
 have h2:(97≤c.toNat∧c.toNat≤102)→Value.tuple #[.int .u8 ((c.toNat:Int)-97+10),.bool true] = .tuple #[.int .u8 (((jX c).getD 0:Nat):Int),.bool (jX c).isSome]:=fun h=>by
  grind [jX]
 have h3:¬(48≤c.toNat∧c.toNat≤57)∧¬(97≤c.toNat∧c.toNat≤102)→Value.tuple #[.int .u8 0,.bool false] = .tuple #[.int .u8 (((jX c).getD 0:Nat):Int),.bool (jX c).isSome]:=fun h=>by
  grind [jX]
 refine aw.ao Tryz.func295 Tryz.ntmps295 fun G F R hE=>?_
 repeat'(first|(with_reducible intro kQ)|refine eK ?_|refine ew zr zr zr zr ?_ ?_|refine aD zr zr ?_ ?_)
 all_goals(first|((refine ad hE Tryz.func295 zr zr ⟨h1 ⟨aj,aj⟩,rfl⟩))|((refine ad hE Tryz.func295 zr zr ⟨h2 ⟨aj,aj⟩,rfl⟩))|((refine ad hE Tryz.func295 zr zr ⟨h3 aj,rfl⟩)))
theorem OM(s:List UInt8){i:Nat}(h:i<64):(DU s i)[i/2]?=some (UInt8.ofNat (if i%2=0 then 0 else qu s (i-1))):=by
 grind [qP]
theorem LF(s:List UInt8){i:Nat}(h:i<64):(DU s i).set (i/2) (UInt8.ofNat (16*(if i%2=0 then 0 else qu s (i-1))+qu s i))=DU s (i+1):=by
 apply List.ext_getElem?
 grind [lr,qP]
theorem ZW(x y:Nat)(hx:x<16)(hy:y<16):IntKind.u8.wrap ((BitVec.ofInt IntKind.u8.bits ((16*x:Nat):Int) ||| BitVec.ofInt IntKind.u8.bits (y:Int)).toNat:Int)=((16*x+y:Nat):Int):=by
 have h:=uz (a:=y) (c:=x) (k:=4) aj
 grind [uA,cz,fZ]
theorem JU(s:ByteArray):aw Tryz.prog 181 [.string s] [] (fun r H=>r=(match iP s.data.toList with
    | some d => .tuple #[dV d,.int .i64 0]
    | none => .tuple #[dV Dg.zero,.int .i64 2])∧H=[]):=by
  obtain⟨l,hl⟩:∃l,l=s.data.toList:=⟨_,rfl⟩
  have js:s.size=l.length:=by rw[hl];rfl
  rw[← hl]
  refine aw.ao Tryz.func181 Tryz.ntmps181 fun G F R hE=>?_
  refine aN rfl ?_
  refine aB zr zr zr bq ?_
  intro b2
  refine rW ?_
  refine aN rfl ?_
  refine aB zr zr zr bq ?_
  intro b4
  refine go ?_
  refine aD zr zr ?_ ?_
  · intro gf
    have hp:iP l=none:=by unfold iP;rw[if_neg (by intro h;apply gf;rw[js,h.1];rfl)]
    rw[hp]at hE
    refine aN rfl ?_
    refine aV (U:=aY) 0 zr zr zr zr zr zr (go ?_)
    (refine bh hE ?_;apply a7 (U:=aY) hE Tryz.func181 rfl (ak.refl _);(repeat(first|exact aT.nil|apply aT.tmp rfl|apply aT.agg 1 zr zr zr zr zr));exact⟨rfl,rfl⟩;exact ah)
  intro heq
  have Q0:l.length=64:=by rw[js]at heq;omega
  refine go ?_
  ((refine aQ 13 ((.int .i64 64)) rfl ((congrArg (Value.int .i64) (by rw[js];omega))) ?_))
  refine bj (fun i:Nat=>i≤64∧∀j,j<i→jX (l.getD j 0)≠none) (fun i=>64-i)
    (fun i=>[(0,.string s),(2,ptr b2),(3,.int .i64 0),(4,ptr b4),(13,.int .i64 64),(14,.int .i64 (i:Int))])
    (fun i=>ag b4 (cl (bV (DU l i)) 35)::ag b2 (cl (dC Dg.zero) 35)::F) 0 ⟨Nat.zero_le _,fun j hj=>by omega⟩ rfl bO (by rw[LD];exact ah) ?_
  rintro i⟨hi,q4⟩ ih
  refine go ?_
  refine aD zr zr ?_ ?_
  · intro cB
    have Ja:i<64:=by omega
    have hold:=OM l Ja
    have Mx:=LF l Ja
    have aeG:=Ak l i
    have ud:=Ak l (i-1)
    refine go ?_
    refine nK (U:=aY) zr zr zr zr zr aj (by rw[js];omega) ?_
    ((refine aC 20 ((u8 (l.getD i 0))) rfl ((by rw[Int.toNat_natCast];unfold sM;rw[← hl];rfl)) ?_))
    refine go ?_
    refine aF (HS (l.getD i 0)) ?_
    have hh0:(jX (l.getD i 0)).getD 0=qu l i:=rfl
    cases hx:jX (l.getD i 0)with
    | none =>
      have hp:iP l=none:=by
        unfold iP;rw[if_neg]
        grind
      rw[hp]at hE
      refine go ?_
      refine fY (U:=aY) zr zr zr zr zr (go ?_)
      (refine bh hE ?_;apply a7 (U:=aY) hE Tryz.func181 rfl (ak.refl _);(repeat(first|exact aT.nil|apply aT.tmp rfl|apply aT.agg 1 zr zr zr zr zr));exact⟨rfl,rfl⟩;exact ah)
    | some v =>
      have hv:v=qu l i:=by rw[hx]at hh0;exact hh0
      simp only[Option.getD_some]
      rw[hv]
      obtain⟨o,ho⟩:∃o,o=(if i%2=0 then 0 else qu l (i-1)):=⟨_,rfl⟩
      have ae1:o<16:=by rw[ho];split <;> omega
      rw[← ho]at hold Mx
      have hq:(i:Int)/2=((i/2:Nat):Int):=by omega
      refine go ?_
      (repeat(first|refine eK ?_|refine tU zr zr zr aj aj (by simp only[fZ];omega) ?_|refine iZ (U:=aY) (i/2) zr zr zr zr zr zr zr hq aj ?_|(refine aS ?_;refine xl (U:=aY) 0 (i/2) zr zr zr (Nat.zero_add _) (sQ hold) zr zr ?_)))
      refine l4 zr zr zr aj ?_
      ((refine aC 33 ((.int .u8 ((16*o:Nat):Int))) rfl ((congrArg (Value.int .u8) (by rw[show(UInt8.ofNat o).toNat=o from by rw[UInt8.toNat_ofNat'];omega];exact(cz (by show 0≤(o:Int)*2 ^ 4∧_;simp only[show min ((4:Int).toNat) IntKind.u8.bits=4 from rfl];omega)).trans (by show(o:Int)*2 ^ 4=_;omega)))) ?_))
      refine go ?_
      ((refine aC 35 ((u8 (UInt8.ofNat (16*o+qu l i)))) rfl ((congrArg (Value.int .u8) (by rw[ZW o (qu l i) ae1 aeG,UInt8.toNat_ofNat'];omega))) ?_))
      (repeat((refine iZ (U:=aY) (i/2) zr zr zr zr zr zr zr hq aj ?_)))
      refine aX ?_
      refine lM (U:=aY) 0 fE zr zr zr zr zr zr zr (by rw[bK,lr];omega) rfl ?_
      rw[show 0+i/2=i/2 from Nat.zero_add _,show(bV (DU l i)).set (i/2) (u8 (UInt8.ofNat (16*o+qu l i)))=bV (DU l (i+1))from by rw[← Mx];simp[bV]]
      refine go ?_
      refine aK ih (i+1) rfl ⟨aj,fun j hj=>by
        rcases Nat.lt_or_ge j i with h|h
        · exact q4 j h
        · rw[show j=i from by omega,hx];simp⟩ aj bO ah
  intro eN
  have Ja:i=64:=by omega
  subst Ja
  have hp:iP l=some ⟨DU l 64,lr l 64⟩:=by
    unfold iP
    rw[if_pos ⟨Q0,fun c hc=>by
      obtain⟨j,hj,rfl⟩:=List.mem_iff_getElem.1 hc
      have:=q4 j aj
      rwa[List.getD_eq_getElem?_getD,List.getElem?_eq_getElem hj]at this⟩]
  rw[hp]at hE
  obtain⟨d,hd⟩:∃d:Dg,d=⟨DU l 64,lr l 64⟩:=⟨_,rfl⟩
  rw[← hd]at hE
  have hbs:bV (DU l 64)=dC d:=by rw[eF,hd]
  rw[hbs]
  refine go ?_
  refine aV (U:=aY) 0 zr zr zr zr zr zr (go ?_)
  (refine bh hE ?_;apply a7 (U:=aY) hE Tryz.func181 rfl (ak.refl _);(repeat(first|exact aT.nil|apply aT.tmp rfl|apply aT.agg 1 zr zr zr zr zr));exact⟨rfl,rfl⟩;exact ah)
end Go.Proofs.YtjpboghdolfekaaGreatDoor
namespace Go.Proofs.YtjpboghdolfekaaGreatDoor
open Go Go.SL
def fJ(l:List Dg)(i:Nat):List Dg:=(dQ l).take i++l.drop i
theorem sq(l:List Dg){i:Nat}(h:i≤l.length/2):(fJ l i).length=l.length:=by
 grind [fJ,e9]
theorem sr(l:List Dg){i j:Nat}(h:i≤l.length/2)(hj:i≤j):(fJ l i)[j]?=l[j]? := by
 grind [fJ,dQ,e9]
def JI{l:List Dg}{i:Nat}{a b:Dg}(ha:l[2*i]?=some a)(hb:l[2*i+1]?=some b):(dQ l)[i]?=some (jR a b):=by
 rw[ql,ha,hb]
theorem Df{l:List Dg}{i:Nat}{a:Dg}(ha:l[2*i]?=some a)(hb:l.length≤2*i+1):(dQ l)[i]?=some a:=by
 grind [ql]
theorem Ii(l:List Dg){i:Nat}(h:i<l.length/2){x:Dg}(hx:(dQ l)[i]?=some x):(fJ l i).set i x=fJ l (i+1):=by
 unfold fJ
 have h1:((dQ l).take i).length=i:=by rw[List.length_take,e9];omega
 rw[List.set_append_right _ _ aj,h1,Nat.sub_self,List.take_add_one,hx]
 have h2:l.drop i=l[i]::l.drop (i+1):=List.drop_eq_getElem_cons aj
 grind
theorem Eu(l:List Dg)(h:l.length%2=0):(fJ l (l.length/2)).take ((l.length+1)/2)=dQ l:=by
 grind [fJ,dQ,e9]
theorem Ij(l:List Dg)(h:l.length%2=1){x:Dg}(hx:l[l.length-1]?=some x):((fJ l (l.length/2)).set (l.length/2) x).take ((l.length+1)/2)=dQ l:=by
 have h1:(dQ l).length=(l.length+1)/2:=e9 l
 have h2:(dQ l)[l.length/2]?=some x:=Df (by rw[← hx];congr 1;omega) aj
 apply List.ext_getElem?
 grind [sq,fJ]
def ed:Nat→List Dg→List Dg
 | 0,l=>l
 | j+1,l=>dQ (ed j l)
def mX(l:List Dg):∀j,ed j (dQ l)=ed (j+1) l
 | 0=>rfl
 | j+1=>by
  show dQ (ed j (dQ l))=_
  rw[mX l j];rfl
theorem GC(l:List Dg):∀j,(ed j l).length≤l.length
 | 0=>Nat.le_refl _
 | j+1=>by
  have:=GC l j
  grind [ed,e9]
theorem vh(l:List Dg)(h:1≤l.length):∀j,1≤(ed j l).length
 | 0=>h
 | j+1=>by
  have:=vh l h j
  grind [ed,e9]
theorem Gt:∀(f:Nat) (l:List Dg) (j:Nat),l.length≤f+1→(∀i,i<j→1<(ed i l).length)→(ed j l).length≤1→upL f l=ed j l
 | 0,l,j,hf,hi,hj=>by
  cases j with
  | zero=>rfl
  | succ j =>
   have:=hi 0 aj
   grind [ed]
 | f+1,l,j,hf,hi,hj=>by
  unfold upL
  cases j with
  | zero=>rw[if_pos (show l.length≤1 from hj)];rfl
  | succ j =>
   have h0:=hi 0 aj
   simp only[ed]at h0
   rw[if_neg aj,Gt f (dQ l) j (by rw[e9];omega) (fun i h=>by rw[mX];exact hi (i+1) aj) (by rw[mX];exact hj),mX]
theorem Ld{l:List Dg}{j:Nat}(h1:l≠[])(hi:∀i,i<j→1<(ed i l).length){x:Dg}(hj:ed j l=[x]):BQ l=x:=by
 grind [BQ,Gt]
theorem lq(k:Nat)(hk:0<k):∀(f:Nat) (b:List UInt8) (j:Nat),b.length≤f→(gL k f b)[j]?=if j*k<b.length then some ((b.drop (j*k)).take k)else none
 | 0,b,j,h=>by
  grind [gL]
 | f+1,b,j,h=>by
  unfold gL
  by_cases hb:b=[]
  ·grind
  ·rw[if_neg hb]
   have nv:0<b.length:=List.length_pos_iff.2 hb
   cases j with
   | zero=>simp[nv]
   | succ j =>
    rw[List.getElem?_cons_succ,lq k hk f (b.drop k) j (by rw[List.length_drop];omega),List.length_drop,List.drop_drop]
    grind
theorem tu(k:Nat)(hk:0<k)(b:List UInt8):(gL k b.length b).length=(b.length+k-1)/k:=by
 have hg:=lq k hk b.length b
 have h1:∀j,j<(gL k b.length b).length↔j<(b.length+k-1)/k:=by
  intro j
  have h2:=hg j (Nat.le_refl _)
  have h3:j<(b.length+k-1)/k↔j*k<b.length:=by
   rw[show j<(b.length+k-1)/k↔j+1≤(b.length+k-1)/k from Iff.rfl,Nat.le_div_iff_mul_le hk,Nat.add_mul,Nat.one_mul]
   omega
  grind
 rcases Nat.lt_trichotomy (gL k b.length b).length ((b.length+k-1)/k)with h|h|h
 ·grind
 ·exact h
 grind
end Go.Proofs.YtjpboghdolfekaaGreatDoor
