import Derived.Test.YthnfckodljbgbaaGreatDoorQPL3
import Derived.Test.YthnfckodljbgbaaGreatDoorQPL5
import Derived.Test.YthnfckodljbgbaaGreatDoorQPL6
import Derived.Test.YthnfckodljbgbaaGreatDoorQPL8
import Derived.Test.YthnfckodljbgbaaGreatDoorQPL9
set_option linter.unusedSimpArgs false
set_option linter.unusedVariables false
set_option maxRecDepth 20000
set_option linter.defProp false
namespace Go.Proofs.YthnfckodljbgbaaGreatDoor
open Go Go.SL
attribute [local irreducible] J K aD Ends ae aF aL bU bo aU bh bq cg aE
def jr(jb bd:Nat)(name:ByteArray)(n s c:Int)(br:Bool):HP:=ae jb (cl [ptr bd,.string name,.int .i64 n,.int .i64 s,.int .i64 c,.bool br] 174)
def Cv{ls:List (List UInt8)}{i:Nat}{x:List UInt8}(h:ls[i]?=some x):(ls.take (i+1)).flatMap aS=(ls.take i).flatMap aS++aS x:=by
 rw[List.take_add_one,h];simp
def Li(ls:List (List UInt8))(i:Nat):((ls.take i).flatMap aS).length≤(ls.flatMap aS).length:=by
 conv=>rhs;rw[← List.take_append_drop i ls,List.flatMap_append,List.length_append]
 omega
theorem KG(jb bd:Nat)(name:ByteArray)(n s c:Int)(br:Bool)(A:Ab)(V:HP)(lv:Value)(ls:List (List UInt8))(hv:sJ V lv ls)(hl:(ls.flatMap aS).length≤500000000)(zR:ls.length≤1000000000)(K5:name.size≤1000000000)(bP:A.aj.length≤900000000)(uI:A.writes.length≤900000000) :
    aD Tryz.prog 127 [ptr jb,lv] [aE bd A,jr jb bd name n s c br,V]
      (fun r H=>∃(e:Nat) (y:PS),r = .int .i64 (e:Int)∧H=[aE bd y.1,jr jb bd name y.2.1 y.2.2.1 y.2.2.2 br,V]∧yf name ls (A,n,s,c) e y):=by
  obtain⟨cs,dO,ki,⟨a,cc,rfl,hc⟩,tB⟩:=hv
  unfold jr
  refine aD.aw Tryz.func127 Tryz.ntmps127 fun G F R hE=>?_
  refine go ?_
  refine bG zr zr bE ?_
  intro xj
  refine go ?_
  refine AQ zr zr zr (by show name.size+4≤_;omega) ?_
  refine go ?_
  refine az 17 (.string (bQ name)) zr zr ?_
  generalize Bp:bQ name=fresh
  refine aC zr zr zr bE ?_
  intro xf
  refine go ?_
  refine aC zr zr zr bE ?_
  intro xb
  refine go ?_
  refine ai (bK 5 1 none _) ?_
  refine bB (fun y:Value × Nat=>y.2≤ls.length) (fun y=>ls.length-y.2)
    (fun y=>[(0,ptr jb),(2,ptr xj),(5,ptr xf),(6,ptr xb),(18,.slice a ls.length cc),(19,.int .i64 (ls.length:Int)),(20,.int .i64 (y.2:Int))])
    (fun y=>ae xb (cl [y.1] 40)::aF 5 1 y.1 ((ls.take y.2).flatMap aS).length (bV ((ls.take y.2).flatMap aS))::ae xf (cl [.string fresh] 9)::ae xj (cl [ptr jb] 71)::aE bd A::ae jb (cl [ptr bd,.string name,.int .i64 n,.int .i64 s,.int .i64 c,.bool br] 174)::V::F) (.slice none 0 0,0) (Nat.zero_le _) rfl ck ah ?_
  rintro⟨v,i⟩ hi ih
  simp only at hi
  refine go ?_
  refine au zr zr ?_ ?_
  · intro dJ
    simp only at dJ
    have me:i<ls.length:=by omega
    obtain⟨x,hx⟩:∃x,ls[i]?=some x:=⟨ls[i],List.getElem?_eq_getElem me⟩
    obtain⟨cv,sw,hb⟩:=tB i x hx
    obtain⟨b0,o0,c0,pH⟩:=dO.some (by intro h;rw[h]at sw;simp at sw)
    simp only[Value.slice.injEq]at pH
    obtain⟨rfl,-,rfl⟩:=pH
    refine go ?_
    refine bR i zr zr zr zr zr zr zr zr me ?_
    obtain⟨ax,cx,rfl,OZ⟩:=hb.2
    have qc:=Cv hx
    have fL:((ls.take (i+1)).flatMap aS).length=((ls.take i).flatMap aS).length+(aS x).length:=by rw[qc,List.length_append]
    have hle:=Li ls (i+1)
    have Ev:x.length≤(aS x).length:=by simp[aS]
    refine aX 6 i zr zr zr dO rfl sw zr zr ?_
    refine aP 1 rfl ?_
    intro av cv vI
    simp only at vI
    subst vI
    refine go ?_
    refine aG (fun w=>Sat G w ([ae xb (cl [.slice av ((ls.take i).flatMap aS).length cv] 40)])) (.st 0 (.st 1 (.act 2 (.act 3 (.act 4 .nil))))) rfl aq aq aq eo ?_
    refine go ?_
    refine dy (qK V _ x hb ag) ?_
    rintro r _ rfl
    refine aP 0 rfl ?_
    rintro ra rc rfl
    refine jt 0 rfl ?_
    intro M0
    refine go ?_
    refine aT (mm:=(aS x).length) (news:=bV (aS x)) 3 0 zr zr zr zr zr zr zr zr zr zr zr zr M0 (by show _=_*1;rw[bM];omega) (db _) (by simp only;omega) (by show(_+_)*1≤_;simp only;omega) (fun _=>rfl) (fun _ w hw=>by exact hw.cL ah) ?_
    intro v1
    simp only
    rw[show bV ((ls.take i).flatMap aS)++bV (aS x)=bV ((ls.take (i+1)).flatMap aS)from by rw[qc];simp[bV],← fL]
    refine aP 3 rfl ?_
    rintro va vc rfl
    refine go ?_
    refine aM ih (.slice va ((ls.take (i+1)).flatMap aS).length vc,i+1) rfl (by simp only;omega) (by simp only;omega) ck ah
  intro fO
  simp only at fO
  have gz:i=ls.length:=by omega
  subst gz
  rw[List.take_length]
  refine dN 1 rfl ?_
  intro av cv vI
  simp only at vI
  subst vI
  obtain⟨B,hB⟩:∃B,B=ls.flatMap aS:=⟨_,rfl⟩
  rw[← hB]at hl ⊢
  have hhl:(bL 1 B.length).length=16:=dk _ _
  have eW:(cm ls)=List.replicate 16 0++bL 1 B.length++B:=by rw[hB];rfl
  obtain⟨W,hW⟩:∃W,W=cm ls:=⟨_,rfl⟩
  rw[← hW]at eW
  have GD:W.length=32+B.length:=by rw[eW];simp only[List.length_append,List.length_replicate,hhl]
  have afd:∀(m:Nat) (ra:Option Addr) (rc row:Nat),eO (aF 5 1 (.slice ra (bL 1 B.length).length rc) (bL 1 B.length).length (bV (bL 1 B.length))) (.slice ra (bL 1 B.length).length rc) (bL 1 B.length) →
      eO (aF 5 1 (.slice av B.length cv) B.length (bV B)) (.slice av B.length cv) B→aD Tryz.prog 188 [.slice (some ⟨row,0,none⟩) 3 3]
      [Sep [ae row (cl [.slice (some ⟨m,0,none⟩) 16 16,.slice ra (bL 1 B.length).length rc,.slice av B.length cv] 40),ae m (cl (bV (List.replicate 16 0)) 5),aF 5 1 (.slice ra (bL 1 B.length).length rc) (bL 1 B.length).length (bV (bL 1 B.length)),aF 5 1 (.slice av B.length cv) B.length (bV B)]]
      (fun r H=>H=[aF 5 1 r W.length (bV W),Sep [ae row (cl [.slice (some ⟨m,0,none⟩) 16 16,.slice ra (bL 1 B.length).length rc,.slice av B.length cv] 40),ae m (cl (bV (List.replicate 16 0)) 5),aF 5 1 (.slice ra (bL 1 B.length).length rc) (bL 1 B.length).length (bV (bL 1 B.length)),aF 5 1 (.slice av B.length cv) B.length (bV B)]]):=by
    intro m ra rc row pZ tC
    have oH:[List.replicate 16 0,bL 1 B.length,B].flatten=W:=by rw[eW];simp only[List.flatten_cons,List.flatten_nil,List.append_nil,List.append_assoc]
    have:=Kf (Sep [ae row (cl [.slice (some ⟨m,0,none⟩) 16 16,.slice ra (bL 1 B.length).length rc,.slice av B.length cv] 40),ae m (cl (bV (List.replicate 16 0)) 5),aF 5 1 (.slice ra (bL 1 B.length).length rc) (bL 1 B.length).length (bV (bL 1 B.length)),aF 5 1 (.slice av B.length cv) B.length (bV B)]) (.slice (some ⟨row,0,none⟩) 3 3) [List.replicate 16 0,bL 1 B.length,B]
      ⟨[.slice (some ⟨m,0,none⟩) 16 16,.slice ra (bL 1 B.length).length rc,.slice av B.length cv],(Vw.ae rfl).mono (aY (i:=0) rfl),rfl,⟨_,_,rfl,Nat.le_refl 3⟩,fun i x hx=>by
        match i,hx with
        | 0,hx=>cases hx;exact⟨_,rfl,⟨(Vw.ae (b:=m) (l:=bV (List.replicate 16 0)) (e:=5) rfl).mono (aY (i:=1) rfl),_,_,rfl,by decide⟩⟩
        | 1,hx=>cases hx;exact⟨_,rfl,pZ.mono (aY (i:=2) rfl)⟩
        | 2,hx=>cases hx;exact⟨_,rfl,tC.mono (aY (i:=3) rfl)⟩
        | k+3,hx=>simp at hx⟩ (by rw[oH,GD];omega) (by show 3≤_;omega)
    rw[oH]at this
    exact this
  refine qU (bs:=B) 1 rfl ?_
  intro tC
  refine gE rfl ?_
  refine xW 1 (fun y:Option Addr × Nat × Nat=>True) (fun y=>[(0,ptr jb),(2,ptr xj),(5,ptr xf),(6,ptr xb),(9,ptr y.2.2)]) (fun y=>ae y.2.2 (cl [.slice y.1 W.length y.2.1] 40)::aF 5 1 (.slice y.1 W.length y.2.1) W.length (bV W)::ae xb (cl [.slice av B.length cv] 40)::ae xf (cl [.string fresh] 9)::ae xj (cl [ptr jb] 71)::aE bd A::ae jb (cl [ptr bd,.string name,.int .i64 n,.int .i64 s,.int .i64 c,.bool br] 174)::V::F) rfl ?_ ?_
  rotate_left
  · intro tail
    refine aG (fun w=>Sat G w ([ae xb (cl [.slice av B.length cv] 40)])) (.st 1 (.st 2 (.st 4 (.fork (.fork (.act 0 (.fork (.act 3 (.fork (.act 5 (.fork (.act 6 (.act 7 (.act 8 .nil))) (.act 7 (.act 6 (.act 8 .nil))))) (.act 7 (.act 5 (.act 6 (.act 8 .nil)))))) (.act 7 (.act 3 (.act 5 (.act 6 (.act 8 .nil))))))) (.act 3 (.fork (.act 0 (.fork (.act 5 (.fork (.act 6 (.act 7 (.act 8 .nil))) (.act 7 (.act 6 (.act 8 .nil))))) (.act 7 (.act 5 (.act 6 (.act 8 .nil)))))) (.act 7 (.act 0 (.act 5 (.act 6 (.act 8 .nil)))))))) (.act 7 (.fork (.act 0 (.act 3 (.act 5 (.act 6 (.act 8 .nil))))) (.act 3 (.act 0 (.act 5 (.act 6 (.act 8 .nil))))))))))) rfl aq aq aq eo ?_
    repeat'(first|refine rh ?_ ?_|(refine nU (U:=aR) (p:=16) (q:=16) zr zr zr zr zr zr zr zr zr ag ag (by show 1*16≤_;omega) (fun _ w hw=>by exact hw.cL ah) ?_;intro m)|(((refine dy (zX 1 B.length ag ag) ?_));rintro _ _ rfl;((refine aP 0 rfl ?_));rintro ra rc rfl;refine gX (bs:=bL 1 B.length) 0 rfl ?_;intro pZ)|(refine ao zr zr zr zr zr zr zr zr zr (fun _ w hw=>by exact hw.cL ah) ?_;intro row)|(refine aC zr zr zr (fun _ w hw=>by exact hw.cL ah) ?_;intro x9)|(refine fk zr zr zr zr (afd m ra rc row pZ tC) (ak.trans ah (ak.bX [_,_,_,_] _)) ?_ tqg;rintro _ _ rfl;((refine aP 0 rfl ?_));rintro wa wc rfl)|(refine aV ?_;(first|refine cF 0 gf zr zr zr zr zr zr zr zr zr ?_|refine cF 2 gf zr zr zr zr zr zr zr zr zr ?_);refine HC ?_;refine jX tail (wa,wc,x9) rfl trivial ck ah)|(refine eZ ?_)|fail)
  rintro⟨wa,wc,x9⟩ -
  simp only
  refine go ?_
  refine aG (fun w=>Sat G w ([ae jb (cl [ptr bd,.string name,.int .i64 n,.int .i64 s,.int .i64 c,.bool br] 174),ae xj (cl [ptr jb] 71),ae xf (cl [.string fresh] 9)])) (dj 0 5 (.act 5 (dj 6 5 .nil))) rfl aq aq aq eo ?_
  refine go ?_
  refine bp (vl bd A fresh) ?_
  refine go ?_
  refine xW 1 (fun y:Value × List Value=>y.2=if(A.size fresh).2=0 then [.func (.func 189) #[] #[ptr xj,ptr xf] ]else []) (fun y=>[(0,ptr jb),(2,ptr xj),(5,ptr xf),(6,ptr xb),(9,ptr x9),(10,y.1)]) (fun y=>ae xj (cl [ptr jb] 71)::ae jb (cl [ptr bd,.string name,.int .i64 n,.int .i64 s,.int .i64 c,.bool br] 174)::aF 83 1 y.1 y.2.length y.2::ae x9 (cl [.slice wa W.length wc] 40)::aF 5 1 (.slice wa W.length wc) W.length (bV W)::ae xb (cl [.slice av B.length cv] 40)::ae xf (cl [.string fresh] 9)::aE bd A::V::F) rfl ?_ ?_
  rotate_left
  · intro tail
    refine ai (bK 83 1 none _) ?_
    refine au zr zr ?_ ?_
    · intro he
      refine go ?_
      refine ao zr zr zr zr zr zr zr zr zr bE ?_
      intro row
      refine go ?_
      refine aT (mm:=1) (news:=[.func (.func 189) #[] #[ptr xj,ptr xf]]) 1 0 zr zr zr zr zr zr zr zr zr zr zr zr (Vw.ae rfl) rfl (by simp[Value.oneCell']) ag (by show(0+1)*8≤_;omega) (fun _=>rfl) bE ?_
      intro v1
      refine aP 1 rfl ?_
      rintro va vc rfl
      refine ln ?_
      refine jX tail (.slice va (0+1) vc,[.func (.func 189) #[] #[ptr xj,ptr xf] ]) rfl (by rw[if_pos ag]) ck ah
    · intro he
      refine jX tail (.slice none 0 0,[]) rfl (by rw[if_neg ag]) ck ah
  rintro⟨sv,fv⟩ nH
  simp only at nH ⊢
  refine dN 2 rfl ?_
  rintro va vc rfl
  refine go ?_
  have oH:fv.length≤1:=by rw[nH];split <;> simp
  refine ao (cs:=[.func (.func 190) #[] #[ptr xj,ptr xf],.func (.func 191) #[] #[ptr xj,ptr xf,ptr x9],.func (.func 192) #[] #[ptr xj,ptr xf],.func (.func 193) #[] #[ptr xj,ptr xf],.func (.func 67) #[ptr bd] #[],.func (.func 194) #[] #[ptr xb,ptr xj] ]) zr zr zr zr zr zr zr zr zr bE ?_
  intro row
  refine go ?_
  refine aT (mm:=6) (news:=[.func (.func 190) #[] #[ptr xj,ptr xf],.func (.func 191) #[] #[ptr xj,ptr xf,ptr x9],.func (.func 192) #[] #[ptr xj,ptr xf],.func (.func 193) #[] #[ptr xj,ptr xf],.func (.func 67) #[ptr bd] #[],.func (.func 194) #[] #[ptr xb,ptr xj] ]) 3 0 zr zr zr zr zr zr zr zr zr zr zr zr (Vw.ae rfl) rfl (by simp[Value.oneCell']) ag (by show(_+6)*8≤_;omega) (fun _=>rfl) bE ?_
  intro v1
  refine jt 3 rfl ?_
  intro nr
  obtain⟨fs,rX⟩:∃fs,fs=fv++[.func (.func 190) #[] #[ptr xj,ptr xf],.func (.func 191) #[] #[ptr xj,ptr xf,ptr x9],.func (.func 192) #[] #[ptr xj,ptr xf],.func (.func 193) #[] #[ptr xj,ptr xf],.func (.func 67) #[ptr bd] #[],.func (.func 194) #[] #[ptr xb,ptr xj] ]:=⟨_,rfl⟩
  rw[← rX]at nr ⊢
  have ae3:fs.length=fv.length+6:=by rw[rX,List.length_append];rfl
  rw[← ae3]at nr ⊢
  have qg:(gO name ls A).length=fs.length:=by
    grind [gO]
  have hWb:W.length≤1000000000:=by omega
  have wy:∀(i:Nat) (fv:Value) (s:PS→Nat→PS→Prop),fs[i]?=some fv→(gO name ls A)[i]?=some s→∃g fi cap,fv = .func (.func g) fi cap∧∀x,PQ i x→aD Tryz.prog g (fi.toList++cap.toList) [PI bd jb xj xf x9 xb name fresh wa av wc B.length cv W br x] (fun r H=>∃(e:Nat) (x':PS),r = .int .i64 (e:Int)∧H=[PI bd jb xj xf x9 xb name fresh wa av wc B.length cv W br x']∧s x e x'∧(e=0→PQ (i+1) x')):=by
    intro i f1 s1 h1 h2
    have hi:i<fs.length:=(List.getElem?_eq_some_iff.1 h1).1
    have zV:i≤10:=by omega
    unfold gO at h2
    rw[Bp,← hW,← hB]at h2
    rw[rX,nH]at h1
    by_cases hz:(A.size fresh).2=0
    · rw[if_pos hz]at h1 h2
      match i,h1,h2 with
      | 0,h1,h2=>cases h1;cases h2;exact⟨_,_,_,rfl,fun x hq=>Y2 _ _ _ _ _ _ _ _ _ _ _ _ _ _ _ _ zV x hq⟩
      | 1,h1,h2=>cases h1;cases h2;exact⟨_,_,_,rfl,fun x hq=>P5 _ _ _ _ _ _ _ _ _ _ _ _ _ _ _ _ zV x hq⟩
      | 2,h1,h2=>cases h1;cases h2;exact⟨_,_,_,rfl,fun x hq=>P3 _ _ _ _ _ _ _ _ _ _ _ _ _ _ _ _ zV hWb x hq⟩
      | 3,h1,h2=>cases h1;cases h2;exact⟨_,_,_,rfl,fun x hq=>P1 _ _ _ _ _ _ _ _ _ _ _ _ _ _ _ _ zV x hq⟩
      | 4,h1,h2=>cases h1;cases h2;exact⟨_,_,_,rfl,fun x hq=>PZ _ _ _ _ _ _ _ _ _ _ _ _ _ _ _ _ zV x hq⟩
      | 5,h1,h2=>cases h1;cases h2;exact⟨_,_,_,rfl,fun x hq=>PT _ _ _ _ _ _ _ _ _ _ _ _ _ _ _ _ x hq⟩
      | 6,h1,h2=>cases h1;cases h2;exact⟨_,_,_,rfl,fun x hq=>PX _ _ _ _ _ _ _ _ _ _ _ _ _ _ _ _ x hq⟩
      | k+7,h1,h2=>simp at h1
    · rw[if_neg hz]at h1 h2
      match i,h1,h2 with
      | 0,h1,h2=>cases h1;cases h2;exact⟨_,_,_,rfl,fun x hq=>P5 _ _ _ _ _ _ _ _ _ _ _ _ _ _ _ _ zV x hq⟩
      | 1,h1,h2=>cases h1;cases h2;exact⟨_,_,_,rfl,fun x hq=>P3 _ _ _ _ _ _ _ _ _ _ _ _ _ _ _ _ zV hWb x hq⟩
      | 2,h1,h2=>cases h1;cases h2;exact⟨_,_,_,rfl,fun x hq=>P1 _ _ _ _ _ _ _ _ _ _ _ _ _ _ _ _ zV x hq⟩
      | 3,h1,h2=>cases h1;cases h2;exact⟨_,_,_,rfl,fun x hq=>PZ _ _ _ _ _ _ _ _ _ _ _ _ _ _ _ _ zV x hq⟩
      | 4,h1,h2=>cases h1;cases h2;exact⟨_,_,_,rfl,fun x hq=>PT _ _ _ _ _ _ _ _ _ _ _ _ _ _ _ _ x hq⟩
      | 5,h1,h2=>cases h1;cases h2;exact⟨_,_,_,rfl,fun x hq=>PX _ _ _ _ _ _ _ _ _ _ _ _ _ _ _ _ x hq⟩
      | k+6,h1,h2=>simp at h1
  have iy:=Lz (PI bd jb xj xf x9 xb name fresh wa av wc B.length cv W br) (aF 83 1 v1 fs.length fs) v1 fs nr ag (gO name ls A) qg PQ wy (A,n,s,c) ⟨by simp only;omega,by simp only;omega⟩
  refine aP 3 rfl ?_
  rintro va2 vc2 rfl
  refine go ?_
  refine fk zr zr zr zr iy (ak.trans ah (ak.cons _ (ak.bX [aE bd A,ae jb (cl [ptr bd,.string name,.int .i64 n,.int .i64 s,.int .i64 c,.bool br] 174),ae xj (cl [ptr jb] 71),ae xf (cl [.string fresh] 9),ae x9 (cl [.slice wa W.length wc] 40),ae xb (cl [.slice av B.length cv] 40),aF 5 1 (.slice wa W.length wc) W.length (bV W)] _))) ?_ nq
  rintro _ _⟨e,y,rfl,rfl,hr⟩
  refine aJ (ak.trans (ak.pick [1] rfl) (ak.cK [aE bd y.1,ae jb (cl [ptr bd,.string name,.int .i64 y.2.1,.int .i64 y.2.2.1,.int .i64 y.2.2.2,.bool br] 174),ae xj (cl [ptr jb] 71),ae xf (cl [.string fresh] 9),ae x9 (cl [.slice wa W.length wc] 40),ae xb (cl [.slice av B.length cv] 40),aF 5 1 (.slice wa W.length wc) W.length (bV W)] _)) (go ?_)
  refine ad hE Tryz.func127 zr zr ⟨e,y,rfl,rfl,hr⟩
def To(name:ByteArray)(f:Nat):((Ab.new 1).create (isName name) name f).1=if isName name then 0 else 1:=by
 cases h:isName name <;> simp[Ab.create,Ab.meet,Ab.new,Ab.look,Ab.bC]
def KP(name:ByteArray):aD Tryz.prog 122 [.string name] [] (fun r H=>r = .bool (isName name)∧H=[]):=by
 refine aD.aw Tryz.func122 Tryz.ntmps122 fun G F R hE=>?_
 refine go ?_
 refine aI (J7 1 ag ag) ?_
 rintro _ _⟨bd,rfl,rfl⟩
 refine go ?_
 refine aI (xg bd (Ab.new 1) name (by simp[Ab.new])) ?_
 rintro _ _⟨f,hf,rfl,rfl⟩
 rw[To]
 refine go ?_
 ((refine bj 2 ((.bool (isName name))) rfl ((congrArg Value.bool (by cases isName name <;> rfl))) ?_))
 refine ai (ak.drop _ _) ?_
 refine ad hE Tryz.func122 zr zr ⟨rfl,rfl⟩
def tF(jb bd:Nat)(name:ByteArray)(n s c:Int)(br:Bool)(e:Nat):aD Tryz.prog 134 [ptr jb,.int .i64 (e:Int)] [jr jb bd name n s c br] (fun r H=>r = .int .i64 (e:Int)∧H=[jr jb bd name n s c (br || decide (e≠0))]):=by
 unfold jr
 refine aD.aw Tryz.func134 Tryz.ntmps134 fun G F R hE=>?_
 cases br
 ·refine go ?_
  have hd:decide ((e:Int)≠0)=(false || decide (e≠0)):=by by_cases h:e=0 <;> simp[h]
  simp only[hd]
  refine ad hE Tryz.func134 zr zr ⟨rfl,rfl⟩
 ·refine go ?_
  refine ad hE Tryz.func134 zr zr ⟨rfl,rfl⟩
structure JN where
 n:Int
 s:Int
 c:Int
 br:Bool
def rT(jb bd:Nat)(name:ByteArray)(x:JN):HP:=jr jb bd name x.n x.s x.c x.br
def cW(name:ByteArray)(A:Ab)(x:JN)(b:List UInt8):Nat × Ab × JN :=
 if x.br then(10,A,x)else if 4096<b.length then(1,A,x)else if 524288<x.s+(aS b).length then(3,A,x)else
 if(A.write (fK name (32+x.s) (aS b)) name (32+x.s).toNat (aS b)).1=0 then(0,(A.write (fK name (32+x.s) (aS b)) name (32+x.s).toNat (aS b)).2,{ x with s:=x.s+(aS b).length })
 else((A.write (fK name (32+x.s) (aS b)) name (32+x.s).toNat (aS b)).1,(A.write (fK name (32+x.s) (aS b)) name (32+x.s).toNat (aS b)).2,{ x with br:=true })
theorem oP(b:List UInt8)(h:b.length≤1000000000000):(aS b).length≤b.length+10:=by
 grind [qh,aS]
def jrE(jb bd:Nat)(name:ByteArray)(n s c:Int):HP:=fun h=>∃br,ae jb (cl [ptr bd,.string name,.int .i64 n,.int .i64 s,.int .i64 c,.bool br] 174) h
def I5(jb bd:Nat)(name:ByteArray)(n s c:Int)(br:Bool)(H:List HP):ak (ae jb (cl [ptr bd,.string name,.int .i64 n,.int .i64 s,.int .i64 c,.bool br] 174)::H) (jrE jb bd name n s c::H) :=
 ak.fold (B:=[_]) fun h' hs=>⟨h',sub.refl h',br,ez hs⟩
end Go.Proofs.YthnfckodljbgbaaGreatDoor
namespace Go.Proofs.YthnfckodljbgbaaGreatDoor
open Go Go.SL
def zH{G:cQ}{w:World}{jb bd:Nat}{name:ByteArray}{n s c:Int}(hw:Sat G w [jrE jb bd name n s c]):w.cell? ⟨jb,0,none⟩=some (ptr bd)∧w.cell? ⟨jb,1,none⟩=some (.string name)∧w.cell? ⟨jb,3,none⟩=some (.int .i64 s):=by
 obtain⟨h,hh,br,hA⟩:=hw.lN (i:=0) rfl
 have hb:h jb=some (cl [ptr bd,.string name,.int .i64 n,.int .i64 s,.int .i64 c,.bool br] 174):=by rw[hA jb,if_pos rfl]
 exact⟨ep hh (by unfold dK;rw[hb];rfl),ep hh (by unfold dK;rw[hb];rfl),ep hh (by unfold dK;rw[hb];rfl)⟩
attribute [local irreducible] J K aD Ends ae aF aL bU bo aU bh bq cg aE
def Kk(jb bd:Nat)(name:ByteArray)(A:Ab)(x:JN)(X:HP)(bv:Value)(b:List UInt8)(hv:eO X bv b)(hl:b.length≤9223372036854775807)(hs:0≤x.s∧x.s≤1000000000)(eW:A.writes.length≤1000000000) :
  aD Tryz.prog 84 [ptr jb,bv] [aE bd A,rT jb bd name x,X]
   (fun r H=>r = .int .i64 ((cW name A x b).1:Int)∧H=[aE bd (cW name A x b).2.1,rT jb bd name (cW name A x b).2.2,X]):=by
 obtain⟨n,s,c,br⟩:=x
 obtain⟨a,cc,rfl,hc⟩:=hv.2
 simp only at hs
 dsimp only [rT,jr]
 refine aD.aw Tryz.func84 Tryz.ntmps84 fun G F R hE=>?_
 dsimp only [cW]at hE
 cases br with
 | true =>
  simp only[if_true]at hE
  refine go ?_
  refine ad hE Tryz.func84 zr zr ⟨rfl,rfl⟩
 | false =>
  simp only[Bool.false_eq_true,if_false]at hE
  refine go ?_
  refine au zr zr ?_ ?_
  ·intro yc
   rw[if_pos ag]at hE
   refine go ?_
   refine ad hE Tryz.func84 zr zr ⟨rfl,rfl⟩
  intro xM
  have hb4:b.length≤4096:=by omega
  have tB:=oP b ag
  rw[if_neg ag]at hE
  refine go ?_
  refine aI (qK X _ b hv ag) ?_
  rintro r _ rfl
  refine aP 0 rfl ?_
  rintro ra rc rfl
  refine gX (bs:=aS b) 0 rfl ?_
  intro Nn
  refine go ?_
  refine au zr zr ?_ ?_
  ·intro yc
   rw[if_pos ag]at hE
   refine go ?_
   refine ad hE Tryz.func84 zr zr ⟨rfl,rfl⟩
  intro Bq
  rw[if_neg ag]at hE
  refine go ?_
  refine aG (fun w=>Sat G w [jrE jb bd name n s c]) (dj 0 15 (.act 15 (.act 16 (.st 17 .nil)))) rfl aq aq aq (fun w hw=>hw.cL (ak.trans ah (I5 jb bd name n s c false []))) ?_
  refine go ?_
  refine aK ?_
  refine mD zr zr (fun w hw=>(zH hw).1) zr zr ?_
  refine go ?_
  refine aK ?_
  refine mD zr zr (fun w hw=>(zH hw).2.1) zr zr ?_
  refine go ?_
  refine aK ?_
  refine mD zr zr (fun w hw=>(zH hw).2.2) zr zr ?_
  refine go ?_
  obtain⟨W,hW⟩:∃W,W=A.write (fK name (32+s) (aS b)) name (32+s).toNat (aS b):=⟨_,rfl⟩
  have uI:=vj bd A name (32+s) (aF 5 1 (.slice ra (aS b).length rc) (aS b).length (bV (aS b))) (.slice ra (aS b).length rc) (aS b) Nn.1 eW ag ag
  rw[← hW]at hE uI
  refine fk rfl rfl rfl rfl uI ah ?_ (fun _ _ w hp hw=>by obtain⟨rfl,rfl⟩:=hp;exact hw.cL (ak.trans ah (I5 jb bd name n s c false [])))
  rintro _ _⟨rfl,rfl⟩
  refine fk zr zr zr zr (tF jb bd name n s c false W.1) ah ?_ (fun _ _ w hp hw=>by obtain⟨rfl,rfl⟩:=hp;exact hw.cL (ak.trans ah (I5 jb bd name n s c _ [])))
  rintro _ _⟨rfl,rfl⟩
  unfold jr
  refine go ?_
  refine au zr zr ?_ ?_
  ·intro df
   have jK:¬W.1=0:=by omega
   rw[if_neg jK]at hE
   have hd:(false || decide (W.1≠0))=true:=by simp[jK]
   simp only[hd]
   refine go ?_
   refine ad hE Tryz.func84 zr zr ⟨rfl,rfl⟩
  ·intro heq
   have uO:W.1=0:=by omega
   rw[if_pos uO]at hE
   have hd:(false || decide (W.1≠0))=false:=by simp[uO]
   simp only[hd]
   refine go ?_
   refine ad hE Tryz.func84 zr zr ⟨rfl,rfl⟩
def CI(bd jb x1 x3:Nat)(name:ByteArray)(next sz:Nat)(x:PS):HP:=Sep [aE bd x.1,ae jb (cl [ptr bd,.string name,.int .i64 x.2.1,.int .i64 x.2.2.1,.int .i64 x.2.2.2,.bool false] 174),ae x1 (cl [ptr jb] 71),ae x3 (cl [.int .i64 (next:Int)] 3)]
def CQ(sz:Nat)(i:Nat)(x:PS):Prop:=x.2.2.1=(sz:Int)∧x.1.aj.length≤900000000+i∧x.1.writes.length≤900000000+i
def CQ.next{sz i:Nat}{x:PS}(h:CQ sz i x){B:Ab}(g:kM x.1 B):CQ sz (i+1) (B,x.2):=by
 obtain⟨h0,h1,h2⟩:=h
 obtain⟨g1,g2⟩:=g
 exact⟨h0,by simp only;omega,by simp only;omega⟩
def Lw(name:ByteArray):=U6 fun A e B=>e=(A.sync (isName name) name).1∧B=(A.sync (isName name) name).2
def VP(name:ByteArray)(next sz:Nat):=U6 fun A e B=>e=(A.write (fK name ((next%2*16:Nat):Int) (bL next sz)) name (next%2*16) (bL next sz)).1∧B=(A.write (fK name ((next%2*16:Nat):Int) (bL next sz)) name (next%2*16) (bL next sz)).2
def adx(next:Nat)(x:PS)(e:Nat)(y:PS):Prop:=e=0∧y=(x.1,(next:Int),x.2.2.1,x.2.2.1)
def qO(name:ByteArray)(next sz:Nat):List (PS→Nat→PS→Prop):=[Lw name,VP name next sz,Lw name,adx next]
def jw(name:ByteArray)(A:Ab)(x:JN)(e:Nat)(A':Ab)(x':JN):Prop :=
 if x.br then e=10∧A'=A∧x'=x else if x.s=x.c then e=0∧A'=A∧x'=x else if 1073741824≤x.n then e=3∧A'=A∧x'=x
 else ∃y:PS,gi (qO name (x.n.toNat+1) x.s.toNat) (A,x.n,x.s,x.c) e y∧A'=y.1∧x'=⟨y.2.1,y.2.2.1,y.2.2.2,decide (e≠0)⟩
def HO(bd jb x1 x3:Nat)(name:ByteArray)(next sz:Nat)(A:Ab)(n s c:Int)(eW:A.writes.length≤1000000000) :
  aD Tryz.prog 142 [ptr x1] ([aE bd A,ae jb (cl [ptr bd,.string name,.int .i64 n,.int .i64 s,.int .i64 c,.bool false] 174),ae x1 (cl [ptr jb] 71),ae x3 (cl [.int .i64 (next:Int)] 3)]) (fun r H=>∃(e:Nat) (A1:Ab),e=(A.sync (isName name) name).1∧A1=(A.sync (isName name) name).2∧r = .int .i64 (e:Int)∧H=[aE bd A1,ae jb (cl [ptr bd,.string name,.int .i64 n,.int .i64 s,.int .i64 c,.bool false] 174),ae x1 (cl [ptr jb] 71),ae x3 (cl [.int .i64 (next:Int)] 3)]):=by
 refine aD.aw Tryz.func142 Tryz.ntmps142 fun G F R hE=>?_
 refine go ?_
 refine aG (fun w=>Sat G w ([ae jb (cl [ptr bd,.string name,.int .i64 n,.int .i64 s,.int .i64 c,.bool false] 174),ae x1 (cl [ptr jb] 71),ae x3 (cl [.int .i64 (next:Int)] 3)])) (dj 0 8 (.act 8 (.st 9 .nil))) rfl aq aq aq eo ?_
 refine go ?_
 refine bp (vk bd A name eW) ?_
 refine go ?_
 refine ad hE Tryz.func142 zr zr ⟨_,_,rfl,rfl,rfl,rfl⟩
def HM(bd jb x1 x3:Nat)(name:ByteArray)(next sz:Nat)(A:Ab)(n s c:Int)(eW:A.writes.length≤1000000000) :
  aD Tryz.prog 145 [ptr x1] ([aE bd A,ae jb (cl [ptr bd,.string name,.int .i64 n,.int .i64 s,.int .i64 c,.bool false] 174),ae x1 (cl [ptr jb] 71),ae x3 (cl [.int .i64 (next:Int)] 3)]) (fun r H=>∃(e:Nat) (A1:Ab),e=(A.sync (isName name) name).1∧A1=(A.sync (isName name) name).2∧r = .int .i64 (e:Int)∧H=[aE bd A1,ae jb (cl [ptr bd,.string name,.int .i64 n,.int .i64 s,.int .i64 c,.bool false] 174),ae x1 (cl [ptr jb] 71),ae x3 (cl [.int .i64 (next:Int)] 3)]):=by
 refine aD.aw Tryz.func145 Tryz.ntmps145 fun G F R hE=>?_
 refine go ?_
 refine aG (fun w=>Sat G w ([ae jb (cl [ptr bd,.string name,.int .i64 n,.int .i64 s,.int .i64 c,.bool false] 174),ae x1 (cl [ptr jb] 71),ae x3 (cl [.int .i64 (next:Int)] 3)])) (dj 0 8 (.act 8 (.st 9 .nil))) rfl aq aq aq eo ?_
 refine go ?_
 refine bp (vk bd A name eW) ?_
 refine go ?_
 refine ad hE Tryz.func145 zr zr ⟨_,_,rfl,rfl,rfl,rfl⟩
def HN(bd jb x1 x3:Nat)(name:ByteArray)(next sz:Nat)(qd:next≤2000000000)(iY:sz≤2000000000)(A:Ab)(n c:Int)(eW:A.writes.length≤1000000000) :
  aD Tryz.prog 143 [ptr x1,ptr x3] ([aE bd A,ae jb (cl [ptr bd,.string name,.int .i64 n,.int .i64 (sz:Int),.int .i64 c,.bool false] 174),ae x1 (cl [ptr jb] 71),ae x3 (cl [.int .i64 (next:Int)] 3)]) (fun r H=>∃(e:Nat) (A1:Ab),e=(A.write (fK name ((next%2*16:Nat):Int) (bL next sz)) name (next%2*16) (bL next sz)).1∧A1=(A.write (fK name ((next%2*16:Nat):Int) (bL next sz)) name (next%2*16) (bL next sz)).2∧r = .int .i64 (e:Int)∧H=[aE bd A1,ae jb (cl [ptr bd,.string name,.int .i64 n,.int .i64 (sz:Int),.int .i64 c,.bool false] 174),ae x1 (cl [ptr jb] 71),ae x3 (cl [.int .i64 (next:Int)] 3)]):=by
 refine aD.aw Tryz.func143 Tryz.ntmps143 fun G F R hE=>?_
 refine go ?_
 refine aG (fun w=>Sat G w ([ae jb (cl [ptr bd,.string name,.int .i64 n,.int .i64 (sz:Int),.int .i64 c,.bool false] 174),ae x1 (cl [ptr jb] 71),ae x3 (cl [.int .i64 (next:Int)] 3)])) (dj 0 16 (.act 16 (.act 17 (.st 18 .nil)))) rfl aq aq aq eo ?_
 refine go ?_
 refine nT zr zr zr ag ag ?_
 refine az 12 (.int .i64 ((next%2:Nat):Int)) rfl (congrArg (Value.int .i64) ag) (go ?_)
 refine iA zr zr zr (by simp only[gy];omega) ?_
 refine az 13 (.int .i64 ((next%2*16:Nat):Int)) rfl (congrArg (Value.int .i64) ag) (go ?_)
 refine dy (zX next sz ag ag) ?_
 rintro _ _ rfl
 refine aP 0 rfl ?_
 rintro ra rc rfl
 refine gX (bs:=bL next sz) 0 rfl ?_
 intro Nn
 have uI:=vj bd A name ((next%2*16:Nat):Int) _ _ (bL next sz) Nn.1 eW (by rw[dk];omega) ag
 rw[Int.toNat_natCast]at uI
 refine bp uI ?_
 refine go ?_
 refine ad hE Tryz.func143 zr zr ⟨_,_,rfl,rfl,rfl,rfl⟩
def jrS(jb:Nat)(s:Int):HP:=fun h=>∃bd name n c br,ae jb (cl [ptr bd,.string name,.int .i64 n,.int .i64 s,.int .i64 c,.bool br] 174) h
def QC(jb bd:Nat)(name:ByteArray)(n s c:Int)(br:Bool)(H:List HP):ak (ae jb (cl [ptr bd,.string name,.int .i64 n,.int .i64 s,.int .i64 c,.bool br] 174)::H) (jrS jb s::H) :=
 ak.fold (B:=[_]) fun h' hs=>⟨h',sub.refl h',bd,name,n,c,br,ez hs⟩
end Go.Proofs.YthnfckodljbgbaaGreatDoor
namespace Go.Proofs.YthnfckodljbgbaaGreatDoor
open Go Go.SL
def QD{G:cQ}{w:World}{jb:Nat}{s:Int}{H:List HP}(hw:Sat G w (jrS jb s::H)):w.cell? ⟨jb,3,none⟩=some (.int .i64 s):=by
 obtain⟨h,hh,bd,name,n,c,br,hA⟩:=hw.lN (i:=0) rfl
 have hb:h jb=some (cl [ptr bd,.string name,.int .i64 n,.int .i64 s,.int .i64 c,.bool br] 174):=by rw[hA jb,if_pos rfl]
 exact ep hh (by unfold dK;rw[hb];rfl)
attribute [local irreducible] J K aD Ends ae aF aL bU bo aU bh bq cg aE
def HL(bd jb x1 x3:Nat)(name:ByteArray)(next sz:Nat)(A:Ab)(n s c:Int) :
  aD Tryz.prog 146 [ptr x3,ptr x1] ([aE bd A,ae jb (cl [ptr bd,.string name,.int .i64 n,.int .i64 s,.int .i64 c,.bool false] 174),ae x1 (cl [ptr jb] 71),ae x3 (cl [.int .i64 (next:Int)] 3)]) (fun r H=>r = .int .i64 0∧H=[aE bd A,ae jb (cl [ptr bd,.string name,.int .i64 (next:Int),.int .i64 s,.int .i64 s,.bool false] 174),ae x1 (cl [ptr jb] 71),ae x3 (cl [.int .i64 (next:Int)] 3)]):=by
 refine aD.aw Tryz.func146 Tryz.ntmps146 fun G F R hE=>?_
 refine go ?_
 refine aG (fun w=>Sat G w [jrS jb s,ae x1 (cl [ptr jb] 71),ae x3 (cl [.int .i64 (next:Int)] 3)]) (dj 0 9 (.act 9 (.st 10 (.st 11 (.act 12 .nil))))) rfl aq aq aq (fun w hw=>hw.cL (ak.trans ah (QC jb bd name _ s _ _ _))) ?_
 refine go ?_
 refine aK ?_
 refine mD zr zr (fun w hw=>QD hw) zr zr ?_
 refine go ?_
 refine aV ?_
 refine cF 1 (fun w hw=>by exact hw.cL (ak.trans ah (QC jb bd name _ s _ _ _))) zr zr zr zr zr zr zr zr zr ?_
 refine go ?_
 refine ad hE Tryz.func146 zr zr ⟨rfl,rfl⟩
def OF(bd jb x1 x3:Nat)(name:ByteArray)(next sz:Nat)(i:Nat)(hi:i≤10)(x:PS)(hq:CQ sz i x) :
  aD Tryz.prog 142 [ptr x1] [CI bd jb x1 x3 name next sz x] (fun r H=>∃(e:Nat) (x':PS),r = .int .i64 (e:Int)∧H=[CI bd jb x1 x3 name next sz x']∧Lw name x e x'∧(e=0→CQ sz (i+1) x')):=by
 obtain⟨A,n,s,c⟩:=x
 have h0:=hq.1
 simp only at h0
 subst h0
 exact(HO bd jb x1 x3 name next sz A n (sz:Int) c (by have:=hq.2.2;simp only at this;omega)).conv (ak.mH _) (by
  rintro v H⟨e,A1,he,sA,rfl,rfl⟩
  exact⟨_,⟨_,(A1,n,(sz:Int),c),rfl,rfl,⟨⟨he,sA⟩,rfl⟩,fun _=>hq.next (sA ▸ ll _ _ _)⟩,ak.mN _⟩)
def OD(bd jb x1 x3:Nat)(name:ByteArray)(next sz:Nat)(i:Nat)(hi:i≤10)(x:PS)(hq:CQ sz i x) :
  aD Tryz.prog 145 [ptr x1] [CI bd jb x1 x3 name next sz x] (fun r H=>∃(e:Nat) (x':PS),r = .int .i64 (e:Int)∧H=[CI bd jb x1 x3 name next sz x']∧Lw name x e x'∧(e=0→CQ sz (i+1) x')):=by
 obtain⟨A,n,s,c⟩:=x
 have h0:=hq.1
 simp only at h0
 subst h0
 exact(HM bd jb x1 x3 name next sz A n (sz:Int) c (by have:=hq.2.2;simp only at this;omega)).conv (ak.mH _) (by
  rintro v H⟨e,A1,he,sA,rfl,rfl⟩
  exact⟨_,⟨_,(A1,n,(sz:Int),c),rfl,rfl,⟨⟨he,sA⟩,rfl⟩,fun _=>hq.next (sA ▸ ll _ _ _)⟩,ak.mN _⟩)
def OE(bd jb x1 x3:Nat)(name:ByteArray)(next sz:Nat)(i:Nat)(hi:i≤10)(qd:next≤2000000000)(iY:sz≤2000000000)(x:PS)(hq:CQ sz i x) :
  aD Tryz.prog 143 [ptr x1,ptr x3] [CI bd jb x1 x3 name next sz x] (fun r H=>∃(e:Nat) (x':PS),r = .int .i64 (e:Int)∧H=[CI bd jb x1 x3 name next sz x']∧VP name next sz x e x'∧(e=0→CQ sz (i+1) x')):=by
 obtain⟨A,n,s,c⟩:=x
 have h0:=hq.1
 simp only at h0
 subst h0
 exact(HN bd jb x1 x3 name next sz qd iY A n c (by have:=hq.2.2;simp only at this;omega)).conv (ak.mH _) (by
  rintro v H⟨e,A1,he,sA,rfl,rfl⟩
  exact⟨_,⟨_,(A1,n,(sz:Int),c),rfl,rfl,⟨⟨he,sA⟩,rfl⟩,fun _=>hq.next (sA ▸ lk _ _ _ _ _)⟩,ak.mN _⟩)
def OC(bd jb x1 x3:Nat)(name:ByteArray)(next sz:Nat)(i:Nat)(hi:i≤10)(x:PS)(hq:CQ sz i x) :
  aD Tryz.prog 146 [ptr x3,ptr x1] [CI bd jb x1 x3 name next sz x] (fun r H=>∃(e:Nat) (x':PS),r = .int .i64 (e:Int)∧H=[CI bd jb x1 x3 name next sz x']∧adx next x e x'∧(e=0→CQ sz (i+1) x')):=by
 obtain⟨A,n,s,c⟩:=x
 have h0:=hq.1
 simp only at h0
 subst h0
 exact(HL bd jb x1 x3 name next sz A n (sz:Int) c).conv (ak.mH _) (by
  rintro v H⟨rfl,rfl⟩
  exact⟨_,⟨_,(A,(next:Int),(sz:Int),(sz:Int)),(by exact(congrArg (Value.int .i64) (show(0:Int)=((0:Nat):Int)from rfl))),rfl,⟨rfl,rfl⟩,fun _=>⟨rfl,by have:=hq.2.1;simp only at this ⊢;omega,by have:=hq.2.2;simp only at this ⊢;omega⟩⟩,ak.mN _⟩)
def Kg(jb bd:Nat)(name:ByteArray)(A:Ab)(x:JN)(hn:0≤x.n)(hs:0≤x.s∧x.s≤1000000000)(bP:A.aj.length≤900000000)(uI:A.writes.length≤900000000) :
  aD Tryz.prog 85 [ptr jb] [aE bd A,rT jb bd name x]
   (fun r H=>∃(e:Nat) (A':Ab) (x':JN),r = .int .i64 (e:Int)∧H=[aE bd A',rT jb bd name x']∧jw name A x e A' x'):=by
 obtain⟨n,s,c,br⟩:=x
 simp only at hs hn
 dsimp only [rT,jr]
 refine aD.aw Tryz.func85 Tryz.ntmps85 fun G F R hE=>?_
 refine go ?_
 refine bG zr zr bE ?_
 intro x1
 cases br with
 | true =>
  refine go ?_
  ((refine ad hE Tryz.func85 zr zr ⟨10,A,⟨n,s,c,true⟩,rfl,rfl,(by unfold jw;rw[if_pos rfl];exact⟨rfl,rfl,rfl⟩)⟩))
 | false =>
  refine go ?_
  refine aG (fun w=>Sat G w ([ae x1 (cl [ptr jb] 71),ae jb (cl [ptr bd,.string name,.int .i64 n,.int .i64 s,.int .i64 c,.bool false] 174)])) (dj 0 10 .nil) rfl aq aq aq eo ?_
  refine go ?_
  refine au zr zr ?_ ?_
  ·intro heq
   refine go ?_
   ((refine ad hE Tryz.func85 zr zr ⟨0,A,⟨n,s,c,false⟩,rfl,rfl,(by unfold jw;rw[if_neg (by simp),if_pos heq];exact⟨rfl,rfl,rfl⟩)⟩))
  intro df
  refine go ?_
  refine au zr zr ?_ ?_
  ·intro yc
   refine go ?_
   ((refine ad hE Tryz.func85 zr zr ⟨3,A,⟨n,s,c,false⟩,rfl,rfl,(by unfold jw;rw[if_neg (by simp),if_neg df,if_pos yc];exact⟨rfl,rfl,rfl⟩)⟩))
  intro xM
  obtain⟨sz,rfl⟩:∃sz:Nat,s=(sz:Int):=⟨s.toNat,ag⟩
  obtain⟨nx,qd⟩:∃nx:Nat,n+1=(nx:Int):=⟨n.toNat+1,ag⟩
  refine go ?_
  refine az 29 (.int .i64 (nx:Int)) rfl (congrArg (Value.int .i64) qd) ?_
  refine aC zr zr zr bE ?_
  intro x3
  refine go ?_
  refine aG (fun w=>Sat G w ([ae x1 (cl [ptr jb] 71)])) (dj 0 5 (.act 5 (.act 6 (.act 7 (.st 8 .nil))))) rfl aq aq aq eo ?_
  refine go ?_
  have wy:∀(i:Nat) (fv:Value) (s:PS→Nat→PS→Prop),([.func (.func 142) #[] #[ptr x1],.func (.func 143) #[] #[ptr x1,ptr x3],.func (.func 145) #[] #[ptr x1],.func (.func 146) #[] #[ptr x3,ptr x1] ]:List Value)[i]?=some fv→(qO name nx sz)[i]?=some s→∃g fi cap,fv = .func (.func g) fi cap∧∀x,CQ sz i x→aD Tryz.prog g (fi.toList++cap.toList) [CI bd jb x1 x3 name nx sz x] (fun r H=>∃(e:Nat) (x':PS),r = .int .i64 (e:Int)∧H=[CI bd jb x1 x3 name nx sz x']∧s x e x'∧(e=0→CQ sz (i+1) x')):=by
   intro i f1 s1 h1 h2
   match i,h1,h2 with
   | 0,h1,h2=>cases h1;cases h2;exact⟨_,_,_,rfl,fun x hq=>OF bd jb x1 x3 name nx sz 0 ag x hq⟩
   | 1,h1,h2=>cases h1;cases h2;exact⟨_,_,_,rfl,fun x hq=>OE bd jb x1 x3 name nx sz 1 ag ag ag x hq⟩
   | 2,h1,h2=>cases h1;cases h2;exact⟨_,_,_,rfl,fun x hq=>OD bd jb x1 x3 name nx sz 2 ag x hq⟩
   | 3,h1,h2=>cases h1;cases h2;exact⟨_,_,_,rfl,fun x hq=>OC bd jb x1 x3 name nx sz 3 ag x hq⟩
   | k+4,h1,h2=>simp at h1
  refine ao (cs:=[.func (.func 142) #[] #[ptr x1],.func (.func 143) #[] #[ptr x1,ptr x3],.func (.func 145) #[] #[ptr x1],.func (.func 146) #[] #[ptr x3,ptr x1] ]) zr zr zr zr zr zr zr zr zr (fun _ w hw=>by exact hw.cL ah) ?_
  intro row
  have iy:=Lz (CI bd jb x1 x3 name nx sz) (ae row (cl ([.func (.func 142) #[] #[ptr x1],.func (.func 143) #[] #[ptr x1,ptr x3],.func (.func 145) #[] #[ptr x1],.func (.func 146) #[] #[ptr x3,ptr x1] ]) 83)) (.slice (some ⟨row,0,none⟩) 4 4) ([.func (.func 142) #[] #[ptr x1],.func (.func 143) #[] #[ptr x1,ptr x3],.func (.func 145) #[] #[ptr x1],.func (.func 146) #[] #[ptr x3,ptr x1] ]) (Vw.ae rfl) (by show 4≤_;omega) (qO name nx sz) rfl (CQ sz) wy (A,n,(sz:Int),c) ⟨rfl,by simp only;omega,by simp only;omega⟩
  refine fk zr zr zr zr iy (ak.trans ah (ak.cons _ (ak.bX ([aE bd A,ae jb (cl [ptr bd,.string name,.int .i64 n,.int .i64 (sz:Int),.int .i64 c,.bool false] 174),ae x1 (cl [ptr jb] 71),ae x3 (cl [.int .i64 (nx:Int)] 3)]) _))) ?_ (fun _ _ w hp hw=>by
   obtain⟨e,y,rfl,rfl,hr⟩:=hp
   exact hw.cL (ak.trans (ak.trans (ak.pick [1] rfl) (ak.cK ([aE bd y.1,ae jb (cl [ptr bd,.string name,.int .i64 y.2.1,.int .i64 y.2.2.1,.int .i64 y.2.2.2,.bool false] 174),ae x1 (cl [ptr jb] 71),ae x3 (cl [.int .i64 (nx:Int)] 3)]) _)) ah))
  rintro _ _⟨e,y,rfl,rfl,hr⟩
  refine aJ (ak.trans (ak.pick [1] rfl) (ak.cK ([aE bd y.1,ae jb (cl [ptr bd,.string name,.int .i64 y.2.1,.int .i64 y.2.2.1,.int .i64 y.2.2.2,.bool false] 174),ae x1 (cl [ptr jb] 71),ae x3 (cl [.int .i64 (nx:Int)] 3)]) _)) ?_
  refine bp (tF jb bd name y.2.1 y.2.2.1 y.2.2.2 false e) ?_
  unfold jr
  refine go ?_
  ((refine ad hE Tryz.func85 zr zr ⟨e,y.1,⟨y.2.1,y.2.2.1,y.2.2.2,decide (e≠0)⟩,rfl,rfl,(by unfold jw;rw[if_neg (by simp),if_neg df,if_neg xM];exact⟨y,(by simp only[Int.toNat_natCast];rw[show n.toNat+1=nx from by omega];exact hr),rfl,rfl⟩)⟩))
end Go.Proofs.YthnfckodljbgbaaGreatDoor
namespace Go.Proofs.YthnfckodljbgbaaGreatDoor
open Go Go.SL
theorem qt:∀(f:Nat) (bs:List UInt8),((gN f bs).flatMap aS).length≤2*bs.length∧(gN f bs).length≤bs.length∧∀x∈gN f bs,x.length≤4096
 | 0,bs=>by simp[gN]
 | f+1,bs=>by
  unfold gN
  split
  ·simp
  ·rename_i k n hl
   have hp:=rF hl
   split
   ·rename_i hb
    obtain⟨h1,h2,h3⟩:=qt f (bs.drop (k+n))
    have hx:((bs.drop k).take n).length=n:=by rw[List.length_take,List.length_drop];omega
    have he:(aS ((bs.drop k).take n)).length≤n+2:=by
     have:=yL 1 n (by have:=hp.2.2.2;omega)
     grind [aS]
    grind
   ·simp
def qu(bs:List UInt8):((cu bs).flatMap aS).length≤2*bs.length∧(cu bs).length≤bs.length∧∀x∈cu bs,x.length≤4096:=qt _ bs
def vp(M:fW)(cs:List Value)(ls:List (List UInt8)):Prop:=cs.length=ls.length∧∀(j:Nat) (y:List UInt8),ls[j]?=some y→∃cv,cs[j]?=some cv∧EG M 1 cv y.length (bV y)
def LI(lb:Nat)(ls:List (List UInt8)):HP:=fun h=>∃x:Value × List Value × fW,vp x.2.2 x.2.1 ls∧Sep [ae lb (cl [x.1] 118),aF 40 1 x.1 ls.length x.2.1,bh 5 x.2.2] h
def Ay(e:TypeId)(H:List HP):ak H (bh e []::H):=ak.pS H
def RZ(lb:Nat)(a:Option Addr)(H:List HP):ak (ae lb (cl [.slice a 0 0] 118)::H) (LI lb []::H):=by
 have h1:ak (ae lb (cl [.slice a 0 0] 118)::H) ([ae lb (cl [.slice a 0 0] 118),aF 40 1 (.slice a 0 0) 0 [],bh 5 [] ]++H) :=
  ak.cons _ ((bK 40 1 a H).trans (ak.cons _ (Ay 5 H)))
 exact h1.trans (ak.fold fun h hs=>⟨h,sub.refl h,(.slice a 0 0,[],[]),⟨rfl,fun j y hj=>by simp at hj⟩,hs⟩)
theorem UP(lb:Nat)(ls:List (List UInt8))(x:List UInt8)(v rv:Value)(cs:List Value)(M M':fW)(hR:vp M cs ls)(hr:EG M' 1 rv x.length (bV x))(hs:∀y∈M,y∈M')(H:List HP) :
  ak (ae lb (cl [v] 118)::aF 40 1 v (ls.length+1) (cs++[rv])::bh 5 M'::H) (LI lb (ls++[x])::H):=by
 refine ak.fold (B:=[ae lb (cl [v] 118),aF 40 1 v (ls.length+1) (cs++[rv]),bh 5 M']) fun h hp=>⟨h,sub.refl h,(v,cs++[rv],M'),⟨by simp[hR.1],fun j y hj=>?_⟩,by simp only[List.length_append,List.length_singleton];exact hp⟩
 simp only
 rw[List.getElem?_append]at hj ⊢
 rw[hR.1]
 split at hj
 ·rename_i dJ
  obtain⟨cv,h1,h2⟩:=hR.2 j y hj
  rw[if_pos dJ]
  exact⟨cv,h1,h2.mono hs⟩
 grind
def LF(lb:Nat)(ls:List (List UInt8)):∀h,LI lb ls h→∃x:Value × List Value × fW,vp x.2.2 x.2.1 ls∧Sep [ae lb (cl [x.1] 118),aF 40 1 x.1 ls.length x.2.1,bh 5 x.2.2] h:=fun h hs=>hs
def xG(v:Value)(ls:List (List UInt8)):HP:=fun h=>∃x:List Value × fW,vp x.2 x.1 ls∧Sep [aF 40 1 v ls.length x.1,bh 5 x.2] h
def Qw{v:Value}{ls:List (List UInt8)}{cs:List Value}{M:fW}(hR:vp M cs ls)(H:List HP):ak (aF 40 1 v ls.length cs::bh 5 M::H) (xG v ls::H) :=
 ak.fold (B:=[aF 40 1 v ls.length cs,bh 5 M]) fun h hp=>⟨h,sub.refl h,(cs,M),hR,hp⟩
def I2(v:Value)(ls:List (List UInt8)):∀h,xG v ls h→∃x:List Value × fW,vp x.2 x.1 ls∧Sep [aF 40 1 v ls.length x.1,bh 5 x.2] h:=fun h hs=>hs
theorem vp.lat{v:Value}{ls:List (List UInt8)}{cs:List Value}{M:fW}(hR:vp M cs ls)(h0:∃h,aF 40 1 v ls.length cs h):sJ (Sep [aF 40 1 v ls.length cs,bh 5 M]) v ls:=by
 have hv:=Vw.pz 40 1 v ls.length cs h0
 refine⟨cs,hv.mono (aY (i:=0) rfl),hR.1,?_,fun i x hx=>?_⟩
 ·obtain⟨h,hl,⟨a,rfl,hn,_⟩|⟨b,o,cap,pre,cf,rfl,hp,hn,hc,_⟩⟩:=h0
  ·grind
  grind
 ·obtain⟨cv,h1,h2⟩:=hR.2 i x hx
  obtain⟨a,c,wx,hc⟩:=h2.shape
  exact⟨cv,h1,(h2.view 5).mono (aY (i:=1) rfl),a,c,wx,hc⟩
section
variable{P:Program}{f:FuncId}{n:Nat}{R:Ending→World→Prop}{G:cQ}{k:List Item}{L:fY}{H:List HP}
def VV{v:Value}{ls:List (List UInt8)}{cs:List Value}{M:fW}(i:Nat)(hR:vp M cs ls)(hi:cM H i=some (aF 40 1 v ls.length cs))(h:sJ (Sep [aF 40 1 v ls.length cs,bh 5 M]) v ls→K P f n R G k L H):K P f n R G k L H :=
 sK fun⟨w,hw⟩=>by
  obtain⟨h1,_,hA⟩:=hw.lN hi
  exact h (hR.lat ⟨h1,hA⟩)
def adJ{bd:Nat}{A:Ab}(i:Nat)(hi:cM H i=some (aE bd A))(h:(∃D,Rel D A)→K P f n R G k L H):K P f n R G k L H :=
 sK fun⟨w,hw⟩=>by
  obtain⟨h1,_,D,hR,_⟩:=hw.lN hi
  exact h ⟨D,hR⟩
end
theorem FA(A:Ab)(hR:∃D,Rel D A)(name:ByteArray)(at_ n:Int):(A.read name at_ n).1.length≤1048576:=by
 obtain⟨D,hR⟩:=hR
 unfold Ab.read
 split
 ·simp
 split
 ·simp
 ·rename_i f hf
  split
  ·simp
  ·have h1:(A.now f).length≤1048576:=by
    unfold Ab.now Ab.file
    cases h:A.fs.find? (fun x=>decide (x.1=f))with
    | none=>simp
    | some x =>
     have:=hR.gC x (List.mem_of_find?_eq_some h)
     grind
   grind
end Go.Proofs.YthnfckodljbgbaaGreatDoor
namespace Go.Proofs.YthnfckodljbgbaaGreatDoor
open Go Go.SL
attribute [local irreducible] J K aD Ends ae aF aL bU bo aU bh bq cg aE LI xG
def gQ(A:Ab)(name:ByteArray):List (List UInt8):=cu (fu (A.read name 0 (A.size name).1).1)
def oV(A:Ab)(name:ByteArray)(e:Nat)(A':Ab)(x:JN):Prop :=
 if ¬(isName name=true∧isName (bQ name)=true)then e=1∧A'=A else if A.off then e=7∧A'=A
 else ∃y:PS,yf name (gQ A name) (A,0,0,0) e y∧A'=y.1∧x=⟨y.2.1,y.2.2.1,y.2.2.2,false⟩
def RW(bd:Nat)(name:ByteArray)(A:Ab)(K5:name.size≤1000000000)(bP:A.aj.length≤900000000)(uI:A.writes.length≤900000000) :
  aD Tryz.prog 68 [ptr bd,.string name] [aE bd A]
   (fun r H=>∃(e:Nat) (A':Ab) (x:JN),oV A name e A' x∧((e≠0∧r = .tuple #[.pointer none,.slice none 0 0,.int .i64 (e:Int)]∧H=[aE bd A']) ∨
    (e=0∧∃jb lv,r = .tuple #[ptr jb,lv,.int .i64 0]∧H=[aE bd A',rT jb bd name x,xG lv (gQ A name)]))):=by
 refine aD.aw Tryz.func68 Tryz.ntmps68 fun G F R hE=>?_
 refine adJ 0 rfl ?_
 intro afs
 refine go ?_
 refine aN (KP name) ?_
 cases h1:isName name with
 | false =>
  refine go ?_
  ((refine ad hE Tryz.func68 zr zr ⟨1,A,⟨0,0,0,false⟩,(by unfold oV;rw[if_pos (by simp[h1])];exact⟨rfl,rfl⟩),.inl ⟨ag,rfl,rfl⟩⟩))
 | true =>
 refine go ?_
 refine AQ zr zr zr (by show name.size+4≤_;omega) ?_
 refine az 25 (.string (bQ name)) zr zr ?_
 ((refine go ?_;(refine aI (KP (bQ name)) ?_)))
 rintro _ _⟨rfl,rfl⟩
 cases h2:isName (bQ name)with
 | false =>
  refine go ?_
  ((refine ad hE Tryz.func68 zr zr ⟨1,A,⟨0,0,0,false⟩,(by unfold oV;rw[if_pos (by simp[h2])];exact⟨rfl,rfl⟩),.inl ⟨ag,rfl,rfl⟩⟩))
 | true =>
 refine go ?_
 refine aN (J6 bd A) ?_
 cases h3:A.off with
 | true =>
  refine go ?_
  ((refine ad hE Tryz.func68 zr zr ⟨7,A,⟨0,0,0,false⟩,(by unfold oV;rw[if_neg (by simp[h1,h2]),if_pos h3];exact⟨rfl,rfl⟩),.inl ⟨ag,rfl,rfl⟩⟩))
 | false =>
 refine go ?_
 refine aN (vl bd A name) ?_
 refine go ?_
 refine aI (Ed bd A name 0 (A.size name).1) ?_
 rintro _ _⟨rb,rfl,rfl⟩
 have Ew:=FA A afs name 0 (A.size name).1
 obtain⟨B,hB⟩:∃B,B=(A.read name 0 (A.size name).1).1:=⟨_,rfl⟩
 rw[← hB]at Ew ⊢
 refine go ?_
 refine aP 1 rfl ?_
 rintro ra rc rfl
 refine gX (bs:=B) 1 rfl ?_
 intro Nn
 refine aC zr zr zr bE ?_
 intro lb
 refine go ?_
 refine aI (Nu _ _ B Nn ag) ?_
 rintro fv _⟨hbf,rfl⟩
 obtain⟨fa,fc,rfl,hfc⟩:=hbf.2
 refine aI (Fv fa (fu B).length fc) ?_
 rintro _ _⟨bx,rfl,rfl⟩
 have oH:(fu B).length≤1048576:=by
  unfold fu
  split
  ·simp
  ·rw[List.length_take,List.length_drop];omega
 refine go ?_
 obtain⟨rs,QN⟩:∃rs,rs=cu (fu B):=⟨_,rfl⟩
 have pJ:=qu (fu B)
 rw[← QN]at pJ
 refine gE rfl ?_
 refine ai (ak.trans (ak.pick [2] rfl) (RZ lb none _)) ?_
 refine yB (Fr:=aE bd A::F) (Pre:=fun _ _=>[ae bx (cl [.slice fa (fu B).length fc] 40),aF 5 1 (.slice ra B.length rc) B.length (bV B),LI lb [] ]) (Post:=?Po) rfl hE.1.1 rfl ?c (fun l r=>ah) ?ij
 case c =>
  intro l r
  refine Di (aF 5 1 (.slice ra B.length rc) B.length (bV B)) l bx _ (fu B) hbf ag _ (fun i=>LI lb ((cu (fu B)).take i)) ?_
  intro i x hx rv
  refine cg.FO zr zr ?_
  intro G2 F2 R2 hY
  have me:i<(cu (fu B)).length:=(List.getElem?_eq_some_iff.1 hx).1
  have zZ:=(qu (fu B)).2.1
  have kU:(cu (fu B)).take (i+1)=(cu (fu B)).take i++[x]:=by rw[List.take_add_one,hx];rfl
  have pY:((cu (fu B)).take i).length≤(fu B).length:=by rw[List.length_take];omega
  simp only[kU]at hY
  generalize (cu (fu B)).take i=ts at pY hY ⊢
  refine go ?_
  refine gx rfl hY ?_
  refine ai (ak.pick [1] rfl) ?_
  refine eB (LF lb ts) ?_
  rintro⟨lv,cs,M⟩ hR
  refine ai (ak.trans (ak.pick [4,2] rfl) (ak.join _ _ _)) ?_
  refine eB (Fg 5 1 x.length rv (bV x) M) ?_
  rintro M'⟨Ss,dU⟩
  obtain⟨xa,xc,rfl,hxc⟩:=Ss.shape
  refine dN 2 rfl ?_
  intro la lc Vr
  simp only at Vr
  subst Vr
  refine go ?_
  refine ao zr zr zr zr zr zr zr zr zr bE ?_
  intro row
  refine go ?_
  refine aT (mm:=1) (news:=[.slice xa x.length xc]) 3 0 zr zr zr zr zr zr zr zr zr zr zr zr (Vw.ae rfl) rfl (by simp[Value.oneCell']) ag (by show(_+1)*24≤_;omega) (fun _=>rfl) bE ?_
  intro v1
  refine aP 3 rfl ?_
  rintro va vc rfl
  refine go ?_
  refine ai (ak.trans ah (UP lb ts x _ (.slice xa x.length xc) cs M M' hR Ss dU _)) ?_
  refine fV hY rfl ah ⟨rfl,rfl⟩
 intro l r v H fU
 obtain⟨v',rfl⟩:=fU
 refine⟨_,_,_,rfl,by decide,?_⟩
 rw[hE.1.2,List.take_length,← QN]
 refine ai (ak.pick [2] rfl) ?_
 refine eB (LF lb rs) ?_
 rintro⟨lv,cs,M⟩ hR
 refine dN 1 rfl ?_
 intro la lc Vr
 simp only at Vr
 subst Vr
 simp only at hR
 refine VV 1 hR rfl ?_
 intro nw
 refine go ?_
 refine bG zr zr bE ?_
 intro jb
 refine go ?_
 have wA:=KG jb bd name 0 0 0 false A (Sep [aF 40 1 (.slice la rs.length lc) rs.length cs,bh 5 M]) (.slice la rs.length lc) rs nw ag ag K5 bP uI
 refine fk zr zr zr zr wA (ak.trans ah (ak.cons (aE bd A) (ak.cons (jr jb bd name 0 0 0 false) (ak.bX [aF 40 1 (.slice la rs.length lc) rs.length cs,bh 5 M] _)))) ?_ nq
 rintro _ _⟨e,y,rfl,rfl,QR⟩
 have oI:gQ A name=rs:=by rw[QN,hB];rfl
 have mR:oV A name e y.1 ⟨y.2.1,y.2.2.1,y.2.2.2,false⟩:=by
  unfold oV
  rw[if_neg (by simp[h1,h2]),if_neg (by rw[h3];simp),oI]
  exact⟨y,QR,rfl,rfl⟩
 rw[oI]at hE
 refine go ?_
 refine au zr zr ?_ ?_
 ·intro df
  have jK:e≠0:=by omega
  refine go ?_
  refine rO hE Tryz.func68 rfl _ rfl ⟨e,_,_,mR,.inl ⟨jK,rfl,rfl⟩⟩ ah
 ·intro heq
  have uO:e=0:=by omega
  subst uO
  refine go ?_
  refine aG (fun w=>Sat G w ([ae lb (cl [.slice la rs.length lc] 118)])) (dj 0 5 .nil) rfl aq aq aq eo ?_
  refine go ?_
  refine ai (ak.trans (ak.pick [2] rfl) (ak.cK [aF 40 1 (.slice la rs.length lc) rs.length cs,bh 5 M] _)) ?_
  refine ai (Qw hR _) ?_
  refine rO hE Tryz.func68 rfl _ rfl ⟨0,_,_,mR,.inr ⟨rfl,jb,_,rfl,rfl⟩⟩ ah
end Go.Proofs.YthnfckodljbgbaaGreatDoor
namespace Go.Proofs.YthnfckodljbgbaaGreatDoor
open Go Go.SL
variable{A A' B:Ab}{x:Bl}{n nm:ByteArray}{ls:List (List UInt8)}{C b:List UInt8}{e j k m:Nat}{D:Nat→Prop}
theorem rB(hn:isName nm=true)(at_:Nat)(b:List UInt8)(h:at_+b.length≤1048576):fK nm (at_:Int) b=true:=by
 grind [fK]
theorem D4{n c:Int}{s:Nat}(h:HA A)(hn:isName nm=true)(hv:vw A nm=some C)(hb:b.length≤4096)(Bq:s+(aS b).length≤524288)(hr:A.used+(32+s+(aS b).length)≤A.room) :
  (cW nm A ⟨n,s,c,false⟩ b).1=0∧HA (cW nm A ⟨n,s,c,false⟩ b).2.1∧vw (cW nm A ⟨n,s,c,false⟩ b).2.1=jf (vw A) nm (some (bJ C (32+s) (aS b)))∧(cW nm A ⟨n,s,c,false⟩ b).2.1.room=A.room ∧
   (cW nm A ⟨n,s,c,false⟩ b).2.2=⟨n,((s+(aS b).length:Nat):Int),c,false⟩:=by
 have hw:fK nm (32+(s:Int)) (aS b)=true:=by
  have:=rB hn (32+s) (aS b) ag
  grind
 have ht:(32+(s:Int)).toNat=32+s:=by omega
 obtain⟨h0,h1,h2,h3⟩:=h.CY hv (32+s) (aS b) ag (B:=(A.write true nm (32+s) (aS b)).2) (e:=(A.write true nm (32+s) (aS b)).1) rfl
 unfold cW
 simp only[Bool.false_eq_true,if_false]
 rw[if_neg ag,if_neg ag,hw,ht,if_pos h0]
 exact⟨rfl,h1,h2,h3,by simp⟩
theorem DX{n c:Int}{s:Nat}{x':JN}(h:HA A)(hn:isName nm=true)(hv:vw A nm=some C)(Vl:0≤n)(Jf:n<1073741824)(hr:A.used+32≤A.room)(hR:jw nm A ⟨n,s,c,false⟩ e A' x') :
  e=0∧HA A'∧(∃C',vw A'=jf (vw A) nm (some C')∧C'.length≤max C.length 32)∧A'.room=A.room∧∃n' c',x'=⟨n',s,c',false⟩∧n≤n'∧n'≤n+1:=by
 unfold jw at hR
 simp only[Bool.false_eq_true,if_false]at hR
 by_cases TE:(s:Int)=c
 ·grind [SX]
 rw[if_neg TE,if_neg ag]at hR
 obtain⟨y,cX,rfl,rfl⟩:=hR
 obtain⟨e1,x1,⟨⟨ye,wG⟩,Um⟩,c1⟩:=cX
 rw[hn]at ye wG
 obtain⟨g0,g1,g2,g3⟩:=h.EX hv (B:=x1.1) (e:=e1) (by rw[ye,wG])
 subst g0
 rcases c1 with⟨df,_⟩|⟨_,e2,x2,⟨⟨Nr,Br⟩,VL⟩,c2⟩
 ·grind
 obtain⟨nx,qd⟩:∃nx,nx=n.toNat+1:=⟨_,rfl⟩
 rw[← qd]at Nr Br
 have hhl:=dk nx s
 rw[show((s:Int)).toNat=s from by omega]at Nr Br
 have hw:fK nm ((nx%2*16:Nat):Int) (bL nx s)=true:=rB hn _ _ ag
 rw[hw]at Nr Br
 have hu:x1.1.used=A.used:=by rw[tV g1,tV h,g2];exact EM MO (g2 ▸ g1.Pj) h.Pj
 obtain⟨k0,k1,k2,k3⟩:=g1.CY (nm:=nm) (c:=C) (by rw[g2];exact hv) (nx%2*16) (bL nx s) (by rw[hu,g3];omega) (B:=x2.1) (e:=e2) (by rw[Nr,Br])
 subst k0
 rcases c2 with⟨df,_⟩|⟨_,e3,x3,⟨⟨Nq,EF⟩,Uj⟩,c3⟩
 ·grind
 rw[hn]at Nq EF
 obtain⟨m0,m1,m2,m3⟩:=k1.EX (nm:=nm) (c:=bJ C (nx%2*16) (bL nx s)) (by rw[k2,fG]) (B:=x3.1) (e:=e3) (by rw[Nq,EF])
 subst m0
 rcases c3 with⟨df,_⟩|⟨_,e4,x4,⟨Jw,EE⟩,c4⟩
 ·grind
 subst Jw
 rcases c4 with⟨df,_⟩|⟨_,he,hy⟩
 ·grind
 subst he
 have wz:x3.2=(n,(s:Int),c):=by rw[Uj,VL,Um]
 rw[hy,EE]
 simp only
 rw[wz]
 refine⟨trivial,m1,⟨_,by rw[m2,k2,g2],by rw[gA,hhl];omega⟩,by rw[m3,k3,g3],_,_,rfl,ag,ag⟩
theorem tn{x:JN}(h:HA A)(hn:isName nm=true)(hf:isName (bQ nm)=true)(df:bQ nm≠nm)(hv:vw A nm=none)(I8:vw A (bQ nm)=none)(hl:A.names.length<200)(hr:A.used+32≤A.room)(hR:oV A nm e A' x) :
  e=0∧HA A'∧vw A'=jf (vw A) nm (some (cm []))∧A'.room=A.room∧x=⟨1,0,0,false⟩∧gQ A nm=[]:=by
 have oH:gQ A nm=[]:=by
  have l9:A.look nm=none:=by
   unfold vw at hv
   cases hx:A.look nm with
   | none=>rfl
   | some f=>rw[hx]at hv;cases hv
  have yq:(A.read nm 0 (A.size nm).1).1=[]:=by
   unfold Ab.read
   grind
  unfold gQ
  rw[yq]
  rfl
 unfold oV at hR
 rw[if_neg (by rw[hn,hf];simp),if_neg (by rw[h.on];simp),oH]at hR
 obtain⟨y,cX,rfl,rfl⟩:=hR
 unfold yf gO at cX
 have iY:(A.size (bQ nm)).2=4:=by
  have l9:A.look (bQ nm)=none:=by
   unfold vw at I8
   cases hx:A.look (bQ nm)with
   | none=>rfl
   | some f=>rw[hx]at I8;cases I8
  unfold Ab.size
  rw[l9]
 simp only[iY]at cX
 rw[if_neg ag,List.nil_append]at cX
 have eW:(cm []).length=32:=by unfold cm;simp[dk]
 obtain⟨e1,x1,⟨⟨f,h1f,ye,wG⟩,Um⟩,c1⟩:=cX
 rw[hf]at ye wG
 obtain⟨g0,g1,g2,g3⟩:=h.Lt I8 hl h1f (B:=x1.1) (e:=e1) (by rw[ye,wG])
 subst g0
 rcases c1 with⟨jK,_⟩|⟨_,e2,x2,⟨⟨Nr,Br⟩,VL⟩,c2⟩
 ·grind
 have hw:fK (bQ nm) 0 (cm [])=true:=by
  grind [rB,cm]
 rw[hw]at Nr Br
 obtain⟨hu,H6⟩:=h.qi g1 I8 g2
 obtain⟨k0,k1,k2,k3⟩:=g1.CY (nm:=bQ nm) (c:=[]) (by rw[g2,fG]) 0 (cm []) (by rw[hu,g3];simp only[List.length_nil];omega) (B:=x2.1) (e:=e2) (by rw[Nr,Br])
 subst k0
 rcases c2 with⟨jK,_⟩|⟨_,e3,x3,⟨⟨Nq,EF⟩,Uj⟩,c3⟩
 ·grind
 rw[hf]at Nq EF
 have uI:bJ [] 0 (cm [])=cm []:=by unfold bJ;simp
 rw[uI]at k2
 obtain⟨m0,m1,m2,m3⟩:=k1.EX (nm:=bQ nm) (c:=cm []) (by rw[k2,fG]) (B:=x3.1) (e:=e3) (by rw[Nq,EF])
 subst m0
 rcases c3 with⟨jK,_⟩|⟨_,e4,x4,⟨⟨Jw,EE⟩,h4c⟩,c4⟩
 ·grind
 have iy:[bQ nm,nm].all isName=true:=by simp[hf,hn]
 rw[iy]at Jw EE
 obtain⟨p0,p1,p2,p3⟩:=m1.KC (o:=bQ nm) (n:=nm) (c:=cm []) df (by rw[m2,k2,fG]) (by rw[m2,k2,gn _ _ (fun e=>df e.symm),g2,gn _ _ (fun e=>df e.symm)];exact hv) (B:=x4.1) (e:=e4) (by rw[Jw,EE])
 subst p0
 rcases c4 with⟨jK,_⟩|⟨_,e5,x5,⟨⟨Ui,Uh⟩,h5c⟩,c5⟩
 ·grind
 obtain⟨q0,q1,q2,q3⟩:=p1.yU (B:=x5.1) (e:=e5) (by rw[Ui,Uh])
 subst q0
 rcases c5 with⟨jK,_⟩|⟨_,e6,x6,⟨h6a,Ug⟩,c6⟩
 ·grind
 subst h6a
 rcases c6 with⟨jK,_⟩|⟨_,he,hy⟩
 ·grind
 subst he
 rw[hy,Ug]
 simp only
 refine⟨trivial,q1,?_,by rw[q3,p3,m3,k3,g3],by simp,oH⟩
 rw[q2,p2,m2,k2,g2]
 funext m
 unfold jf
 grind
def eM:isName cZ=true:=by decide +kernel
def iS:isName (bQ cZ)=true:=by decide +kernel
def l8:bQ cZ≠cZ:=by decide +kernel
def Rf(k:List UInt8):j0 k cZ=none:=by
 cases h:j0 k cZ with
 | none=>rfl
 | some d=>exact absurd (rI.1 h).symm (g' k d)
def Qx(c:List UInt8):xX cZ c=0:=by unfold xX;rw[Rf];rfl
abbrev SJ:=fg × JN
def dx(R:fg→Nat→fg→Prop)(x:SJ)(e:Nat)(y:SJ):Prop:=R x.1 e y.1∧y.2=x.2
def y9(b:List UInt8)(x:SJ)(e:Nat)(y:SJ):Prop:=e=(cW cZ x.1.A x.2 b).1∧y=(⟨(cW cZ x.1.A x.2 b).2.1,x.1.bz,x.1.brk⟩,(cW cZ x.1.A x.2 b).2.2)
def E5(x:SJ)(e:Nat)(y:SJ):Prop:=∃A' x',jw cZ x.1.A x.2 e A' x'∧y=(⟨A',x.1.bz,x.1.brk⟩,x')
def iQ(b:List UInt8):List (SJ→Nat→SJ→Prop):=[y9 b,E5]
theorem LU(c:List UInt8)(a:Nat)(b:List UInt8)(j:Nat)(h1:a≤j)(h2:j<a+b.length):(bJ c a b)[j]?=b[j-a]? := by
 unfold bJ
 have hl:((c++List.replicate (a+b.length-c.length) (0:UInt8)).take a).length=a:=by rw[List.length_take,List.length_append,List.length_replicate];omega
 simp only
 rw[List.append_assoc,List.getElem?_append_right (by rw[hl];exact h1),hl,List.getElem?_append_left ag]
theorem Ie{c:List UInt8}{a:Nat}{v:UInt8}(hc:c[j]?=some v)(h:j<a∨a+b.length≤j):(bJ c a b)[j]?=some v:=by
 unfold bJ
 have hj:=(List.getElem?_eq_some_iff.1 hc).1
 have hl:((c++List.replicate (a+b.length-c.length) (0:UInt8)).take a).length=a:=by rw[List.length_take,List.length_append,List.length_replicate];omega
 simp only
 rcases h with h|h
 ·rw[List.append_assoc,List.getElem?_append_left (by rw[hl];exact h),List.getElem?_take,if_pos h,List.getElem?_append_left hj]
  exact hc
 ·rw[List.getElem?_append_right (by rw[List.length_append,hl];exact h),List.getElem?_drop,List.length_append,hl]
  rw[show a+b.length+(j-(a+b.length))=j from by omega,List.getElem?_append_left hj]
  exact hc
def jO{k a n:Int}(h:dI x k=some (a,n)):0≤a∧1≤n∧a+n≤x.size∧0≤k∧k<cC x∧a=k*x.piece∧n=min x.piece (x.size-a)∧bI x=true:=by
 unfold dI at h
 split at h
 ·cases h
 rename_i dJ
 obtain⟨hr,h0,h1⟩:=yl (x:=x) (i:=k) ag ag
 injection h with h
 injection h with ha hn
 have QN:=hr
 simp only[bI,decide_eq_true_eq]at QN
 exact⟨ag,ag,ag,ag,ag,ha.symm,by rw[← hn,← ha],hr⟩
theorem tI{s t:fg}(h:kY x s e t):iH 1 s t:=by
 unfold kY at h
 split at h
 ·grind [iH.refl]
 ·exact oJ (fun sp iC A e B hh=>by
   simp only[List.mem_cons,List.not_mem_nil,or_false]at iC
   subst iC
   exact nK hh) h
def SJg(n:Nat)(x y:SJ):Prop:=y.1.A.aj.length≤x.1.A.aj.length+n∧y.1.A.writes.length≤x.1.A.writes.length+n
theorem vf(A:Ab)(nm:ByteArray)(x:JN)(b:List UInt8):(cW nm A x b).2.1.aj.length≤A.aj.length+1∧(cW nm A x b).2.1.writes.length≤A.writes.length+1:=by
 have hw:=lk A (fK nm (32+x.s) (aS b)) nm (32+x.s).toNat (aS b)
 obtain⟨h1,h2⟩:=hw
 grind [cW]
theorem Er{x x':JN}(h:jw nm A x e A' x'):A'.aj.length≤A.aj.length+4∧A'.writes.length≤A.writes.length+4:=by
 unfold jw at h
 split at h
 ·grind
 split at h
 ·grind
 split at h
 ·grind
 obtain⟨y,⟨e1,x1,⟨⟨ye,wG⟩,_⟩,c1⟩,rfl,_⟩:=h
 have g1:=ll A (isName nm) nm
 rw[← wG]at g1
 rcases c1 with⟨_,_,rfl⟩|⟨_,e2,x2,⟨⟨Nr,Br⟩,_⟩,c2⟩
 ·obtain⟨a,b⟩:=g1;omega
 have g2:=lk x1.1 (fK nm (((x.n.toNat+1)%2*16:Nat):Int) (bL (x.n.toNat+1) x.s.toNat)) nm ((x.n.toNat+1)%2*16) (bL (x.n.toNat+1) x.s.toNat)
 rw[← Br]at g2
 rcases c2 with⟨_,_,rfl⟩|⟨_,e3,x3,⟨⟨Nq,EF⟩,_⟩,c3⟩
 ·obtain⟨a,b⟩:=g1;obtain⟨c,d⟩:=g2;omega
 have g3:=ll x2.1 (isName nm) nm
 rw[← EF]at g3
 obtain⟨a,b⟩:=g1
 obtain⟨c,d⟩:=g2
 obtain⟨e',f'⟩:=g3
 rcases c3 with⟨_,_,rfl⟩|⟨_,e4,x4,⟨Jw,EE⟩,c4⟩
 ·omega
 have h41:x4.1=x3.1:=by rw[EE]
 rcases c4 with⟨_,_,rfl⟩|⟨_,_,rfl⟩
 ·grind
 grind
def Ca{x y:SJ}(h:gi (iQ b) x e y):SJg 5 x y:=by
 obtain⟨e1,x1,⟨ye,wG⟩,c1⟩:=h
 have g1:=vf x.1.A cZ x.2 b
 have Un:x1.1.A=(cW cZ x.1.A x.2 b).2.1:=by rw[wG]
 rw[← Un]at g1
 obtain⟨a,b⟩:=g1
 rcases c1 with⟨_,_,rfl⟩|⟨_,e2,x2,⟨A',x',hc,h2⟩,c2⟩
 ·exact⟨ag,ag⟩
 have g2:=Er hc
 have h21:x2.1.A=A':=by rw[h2]
 rw[← h21]at g2
 obtain⟨c,d⟩:=g2
 rcases c2 with⟨_,_,rfl⟩|⟨_,_,rfl⟩ <;> exact⟨ag,ag⟩
structure Nz(k:Nat)(A:Ab)(N0:Og):Prop where
 keys:(N0.map (·.1)).Nodup
 own:(N0.map (·.2)).Nodup
 known:∀x∈N0,x.2∈A.fs.map (·.1)
 hold:∀n f,A.look n=some f→Ab.bC N0 n=some f
 more:∀n f,Ab.bC N0 n=some f→A.look n=some f∨(∃d,n=js d)∧(A.now f).length≤1000
 cnt:N0.length≤k
structure Cd(k:Nat)(A:Ab)(D:Nat→Prop):Prop where
 wr:∀w∈A.writes,D w.1
 cl:∀f∈A.fs.map (·.1),¬D f→(A.file f).2=(A.file f).1
 st:∃N0 rest,A.aj=N0::rest∧Nz k A N0
abbrev Cz(k:Nat)(A:Ab):Prop:=Cd k A (fun _=>False)
def Cd.one{A:Ab}(h:HA A)(hs:A.aj=[A.names])(hw:∀w∈A.writes,D w.1)(hc:∀f∈A.fs.map (·.1),¬D f→(A.file f).2=(A.file f).1)(hk:A.names.length≤k):Cd k A D :=
 ⟨hw,hc,A.names,[],hs,⟨h.keys,h.own,h.known,fun _ _ h=>h,fun _ _ h => .inl h,hk⟩⟩
def Cz.new(room:Nat):Cz 0 (Ab.new room):=Cd.one (HA.new room) rfl (fun w h=>by cases h) (fun f h=>by cases h) (Nat.zero_le _)
def Cd.file(h:Cd k A D)(hA:HA A){f:Nat}(hf:A.look n=some f):f∈A.fs.map (·.1):=hA.known _ (iv hf)
def np(name:ByteArray)(A:Ab)(x:JN)(ls:List (List UInt8))(e:Nat)(A':Ab)(x':JN):Prop :=
 if x.br then e=10∧A'=A∧x'=x else if ls.any (fun b=>decide (4096<b.length))then e=1∧A'=A∧x'=x else if 524288<(ls.flatMap aS).length then e=3∧A'=A∧x'=x
 else ∃y:PS,yf name ls (A,x.n,x.s,x.c) e y∧A'=y.1∧x'=⟨y.2.1,y.2.2.1,y.2.2.2,decide (e≠0)⟩
theorem S6{l:List (ByteArray × Nat)}{f:Nat}(h1:(l.map (·.1)).Nodup)(h2:(l.map (·.2)).Nodup)(hf:∀x∈l,x.2≠f):((l.map fun x=>if x.1=n then(n,f)else x).map (·.2)).Nodup:=by
 unfold List.Nodup at h1 h2 ⊢
 rw[List.pairwise_map]at h1 h2
 rw[List.pairwise_map,List.pairwise_map]
 refine List.Pairwise.imp_of_mem ?_ (List.Pairwise.and h1 h2)
 grind
theorem PM(l:List (ByteArray × Nat))(n:ByteArray)(f:Nat):(l.map fun x=>if x.1=n then(n,f)else x).map (·.1)=l.map (·.1):=by
 rw[List.map_map]
 refine List.map_congr_left fun x _=>?_
 grind
theorem HA.S7(h:HA A){o:ByteArray}{c d:List UInt8}(df:o≠n)(hv:vw A o=some c)(KY:vw A n=some d)(hB:(e,B)=A.rename true o n) :
    e=0∧HA B∧vw B=jf (jf (vw A) o none) n (some c)∧B.room=A.room:=by
  obtain⟨f,hf,rfl⟩:∃f,A.look o=some f∧A.now f=c:=by
    unfold vw at hv
    cases hx:A.look o with
    | none=>rw[hx]at hv;cases hv
    | some f=>rw[hx]at hv;injection hv with hv;exact⟨f,rfl,hv⟩
  obtain⟨g,hg⟩:∃g,A.look n=some g:=by
    unfold vw at KY
    cases hx:A.look n with
    | none=>rw[hx]at KY;cases KY
    | some g=>exact⟨g,rfl⟩
  have TR:Ab.bC (Ab.ef A.names o) n=some g:=by
    rw[uD,if_neg (fun e=>df e.symm)]
    exact hg
  obtain⟨N,hN⟩:∃N,N=(Ab.ef A.names o).map (fun x=>if x.1=n then(n,f)else x):=⟨_,rfl⟩
  have jA:Ab.jT (Ab.ef A.names o) n f=N:=by
    unfold Ab.jT
    grind
  have hc:A.rename true o n=(0,A.n7 N):=by
    unfold Ab.rename
    rw[h.find,hf]
    grind
  rw[hc]at hB
  injection hB with h1 h2
  subst h1 h2
  have dU:∀x∈Ab.ef A.names o,x∈A.names∧x.1≠o:=fun x hx=>by
    obtain⟨h1,h2⟩:=List.mem_filter.1 hx
    grind
  have xN:((Ab.ef A.names o).map (·.1)).Nodup:=(List.filter_sublist.map _).nodup h.keys
  have rV:((Ab.ef A.names o).map (·.2)).Nodup:=(List.filter_sublist.map _).nodup h.own
  have hnf:∀x∈Ab.ef A.names o,x.2≠f:=fun x hx e=>by
    have h3:=eA h.keys (dU x hx).1
    rw[e]at h3
    exact(dU x hx).2 (h.Y6 h3 hf)
  have hkN:(N.map (·.1)).Nodup:=by rw[hN,PM];exact xN
  have gp:∀x∈N,x=(n,f)∨(x∈Ab.ef A.names o∧x.1≠n):=fun x hx=>by
    grind
  have hH:HA (A.n7 N):=⟨h.ec,h.on,hkN,by show(N.map (·.2)).Nodup;rw[hN];exact S6 xN rV hnf,h.ids,fun x hx=>by
    rcases gp x hx with rfl|⟨hx,_⟩
    · exact h.known (o,f) (iv hf)
    · exact h.known x (dU x hx).1⟩
  refine⟨rfl,hH,funext fun m=>?_,rfl⟩
  have acL:(A.n7 N).look m=if m=n then some f else if m=o then none else A.look m:=by
    have qe:∀x∈N,(A.n7 N).look x.1=some x.2:=fun x hx=>eA (A:=A.n7 N) hkN hx
    by_cases hm:m=n
    · rw[if_pos hm,hm]
      refine qe (n,f) ?_
      rw[hN]
      refine List.mem_map.2 ⟨(n,g),?_,if_pos rfl⟩
      exact iv (A:=A.n7 (Ab.ef A.names o)) TR
    · rw[if_neg hm]
      have hd:Ab.bC (Ab.ef A.names o) m=if m=o then none else A.look m:=uD A.names o m
      rw[← hd]
      cases hx:Ab.bC (Ab.ef A.names o) m with
      | some k =>
        refine qe (m,k) ?_
        rw[hN]
        exact List.mem_map.2 ⟨(m,k),iv (A:=A.n7 (Ab.ef A.names o)) hx,if_neg hm⟩
      | none =>
        cases hy:(A.n7 N).look m with
        | none=>rfl
        | some k =>
          rcases gp _ (iv hy)with he|⟨aeY,_⟩
          · grind
          · have:=eA (A:=A.n7 (Ab.ef A.names o)) xN aeY
            have h2:(A.n7 (Ab.ef A.names o)).look m=none:=hx
            grind
  unfold vw jf
  rw[acL]
  by_cases hm:m=n
  · rw[if_pos hm,if_pos hm];rfl
  · rw[if_neg hm,if_neg hm]
    by_cases ho:m=o
    · grind
    · rw[if_neg ho,if_neg ho];rfl
theorem B4{n s c:Int}{y:PS}(h:HA A)(hn:isName nm=true)(hf:isName (bQ nm)=true)(df:bQ nm≠nm)(I8:vw A (bQ nm)=none)(hl:A.names.length<200)(Ch:(cm ls).length≤1048576)(hr:A.used+(cm ls).length≤A.room)(hR:yf nm ls (A,n,s,c) e y) :
  e=0∧HA y.1∧vw y.1=jf (vw A) nm (some (cm ls))∧y.1.room=A.room∧y.2=(1,((ls.flatMap aS).length:Int),((ls.flatMap aS).length:Int)):=by
 unfold yf gO at hR
 have iY:(A.size (bQ nm)).2=4:=by
  have l9:A.look (bQ nm)=none:=by
   unfold vw at I8
   cases hx:A.look (bQ nm)with
   | none=>rfl
   | some f=>rw[hx]at I8;cases I8
  unfold Ab.size
  rw[l9]
 simp only[iY]at hR
 rw[if_neg ag,List.nil_append]at hR
 obtain⟨e1,x1,⟨⟨f,h1f,ye,wG⟩,Um⟩,c1⟩:=hR
 rw[hf]at ye wG
 obtain⟨g0,g1,g2,g3⟩:=h.Lt I8 hl h1f (B:=x1.1) (e:=e1) (by rw[ye,wG])
 subst g0
 rcases c1 with⟨jK,_⟩|⟨_,e2,x2,⟨⟨Nr,Br⟩,VL⟩,c2⟩
 ·grind
 have hw:fK (bQ nm) 0 (cm ls)=true:=by
  grind [rB,cm]
 rw[hw]at Nr Br
 obtain⟨hu,H6⟩:=h.qi g1 I8 g2
 obtain⟨k0,k1,k2,k3⟩:=g1.CY (nm:=bQ nm) (c:=[]) (by rw[g2,fG]) 0 (cm ls) (by rw[hu,g3];simp only[List.length_nil];omega) (B:=x2.1) (e:=e2) (by rw[Nr,Br])
 subst k0
 rcases c2 with⟨jK,_⟩|⟨_,e3,x3,⟨⟨Nq,EF⟩,Uj⟩,c3⟩
 ·grind
 rw[hf]at Nq EF
 have uI:bJ [] 0 (cm ls)=cm ls:=by unfold bJ;simp
 rw[uI]at k2
 obtain⟨m0,m1,m2,m3⟩:=k1.EX (nm:=bQ nm) (c:=cm ls) (by rw[k2,fG]) (B:=x3.1) (e:=e3) (by rw[Nq,EF])
 subst m0
 rcases c3 with⟨jK,_⟩|⟨_,e4,x4,⟨⟨Jw,EE⟩,h4c⟩,c4⟩
 ·grind
 have iy:[bQ nm,nm].all isName=true:=by simp[hf,hn]
 rw[iy]at Jw EE
 have hvo:vw x3.1 (bQ nm)=some (cm ls):=by rw[m2,k2,fG]
 have KY:vw x3.1 nm=vw A nm:=by rw[m2,k2,gn _ _ (fun e=>df e.symm),g2,gn _ _ (fun e=>df e.symm)]
 obtain⟨p0,p1,p2,p3⟩:e4=0∧HA x4.1∧vw x4.1=jf (jf (vw x3.1) (bQ nm) none) nm (some (cm ls))∧x4.1.room=x3.1.room:=by
  cases hd:vw A nm with
  | none=>exact m1.KC df hvo (by rw[KY,hd]) (B:=x4.1) (e:=e4) (by rw[Jw,EE])
  | some d=>exact m1.S7 df hvo (by rw[KY,hd]) (B:=x4.1) (e:=e4) (by rw[Jw,EE])
 subst p0
 rcases c4 with⟨jK,_⟩|⟨_,e5,x5,⟨⟨Ui,Uh⟩,h5c⟩,c5⟩
 ·grind
 obtain⟨q0,q1,q2,q3⟩:=p1.yU (B:=x5.1) (e:=e5) (by rw[Ui,Uh])
 subst q0
 rcases c5 with⟨jK,_⟩|⟨_,e6,x6,⟨h6a,Ug⟩,c6⟩
 ·grind
 subst h6a
 rcases c6 with⟨jK,_⟩|⟨_,he,hy⟩
 ·grind
 subst he
 rw[hy,Ug]
 simp only
 refine⟨trivial,q1,?_,by rw[q3,p3,m3,k3,g3],trivial⟩
 rw[q2,p2,m2,k2,g2]
 grind [jf,bQ]
theorem EO{n:Nat}(h:n<128):dr [UInt8.ofNat n]=some n:=by
 have:=vP (n:=n) ag
 rwa[gl h]at this
theorem Ij{c:UInt8}(h:¬c.toNat<128):dr [c]=none:=by
 unfold dr dH
 simp[qM,h]
theorem MN{x:List UInt8}(hx:x.length≤4096)(rest:List UInt8):mP (aS x++rest)=some ((uv x.length).length,x.length):=by
 unfold mP aS
 have hp:=Ii x.length
 rw[if_pos (by simp only[List.length_append];omega)]
 by_cases h:x.length<128
 ·grind [gl,EO]
 ·have h2:uv x.length=[UInt8.ofNat (x.length%128+128),UInt8.ofNat (x.length/128)]:=by rw[yM h,gl ag]
  have hu:=vP (n:=x.length) ag
  rw[h2]at hu ⊢
  have e:(UInt8.ofNat (x.length%128+128)).toNat=x.length%128+128:=by simp only[UInt8.toNat_ofNat'];omega
  grind [Ij]
theorem xz:∀(ls:List (List UInt8)),(∀x∈ls,x.length≤4096)→cu (ls.flatMap aS)=ls
 | [],_=>by
  grind [sj,mP]
 | x::ls,h=>by
  have hx:=h x (List.mem_cons_self ..)
  have hl:=MN hx (ls.flatMap aS)
  have Z3:(aS x).length=(uv x.length).length+x.length:=by simp[aS]
  rw[List.flatMap_cons,sk hl ⟨hx,by rw[List.length_append,Z3];omega⟩]
  congr 1
  ·grind [aS]
  ·rw[← Z3,List.drop_left,xz ls (fun y hy=>h y (List.mem_cons_of_mem _ hy))]
theorem lJ{n:Nat}(hn:n<4294967296)(hm:m<4294967296):jI (bL n m)=n∧jI ((bL n m).drop 4)=m:=by
 unfold bL
 rw[List.append_assoc]
 refine⟨KS n hn _,?_⟩
 rw[show(xH n++(xH m++(xH n++xH m))).drop 4=xH m++(xH n++xH m)from rfl]
 exact KS m hm _
theorem Nj{last n:Nat}(h:(C.drop (16*k)).take 16=bL n m)(hn:n<4294967296)(hm:m<4294967296):lj C k last=decide (last<n∧n≤1073741824∧n%2=k∧m+32≤C.length):=by
 grind [lj,lJ]
theorem Ce{n:Nat}{s:Nat × Nat}(h:(C.drop (16*k)).take 16=bL n m)(hn:n<4294967296)(hm:m<4294967296):eU C k s=if s.1<n∧n≤1073741824∧n%2=k∧m+32≤C.length then(n,m)else s:=by
 unfold eU
 rw[Nj h hn hm,h,(lJ hn hm).1,(lJ hn hm).2]
 grind
theorem adt(a b c:List UInt8)(ha:a.length=16)(hb:b.length=16):((a++b++c).drop (16*0)).take 16=a∧((a++b++c).drop (16*1)).take 16=b∧(a++b++c).drop 32=c:=by
 grind
def o6(C b:List UInt8):bJ C C.length b=C++b:=by
 unfold bJ
 simp_all
def EJ(a h r:List UInt8)(hl:h.length=a.length):bJ (a++r) 0 h=h++r:=by
 unfold bJ
 simp_all
def QE(m:Nat)(body:List UInt8):List UInt8:=List.replicate 16 0++bL 1 m++body
theorem MR(m:Nat)(body:List UInt8):(QE m body).length=32+body.length:=by
 grind [QE,dk]
def Ih(ls:List (List UInt8)):cm ls=QE (ls.flatMap aS).length (ls.flatMap aS):=rfl
structure Bz(A:Ab)(D:Nat→Prop):Prop where
 wr:∀w∈A.writes,D w.1
 cl:∀f∈A.fs.map (·.1),¬D f→(A.file f).2=(A.file f).1
def Cd.fl(h:Cd k A D):Bz A D:=⟨h.wr,h.cl⟩
theorem Bz.create(h:Bz A D)(hs:gm n A 0 B):∃f,B.look n=some f∧Bz B D:=by
 rcases u7 hs with⟨df,_⟩|⟨_,lh,f,hf,hn,bP,rX,uI⟩
 ·grind
 refine⟨f,?_,fun w hw=>h.wr w (uI ▸ hw),fun g hg hd=>?_⟩
 ·unfold Ab.look at lh ⊢
  grind [tq]
 ·rw[oN rX]
  split
  ·rfl
  ·rename_i oe
   rw[KX rX]at hg
   rcases List.mem_cons.1 hg with e|hg
   ·grind
   ·exact h.cl g hg hd
theorem Bz.write{at_:Nat}(h:Bz A D)(hw:fh n at_ b A 0 B):∃f,A.look n=some f∧B.look n=some f∧B.names=A.names∧B.aj=A.aj∧Bz B (fun g=>D g∨g=f):=by
 rcases xk hw with⟨df,_⟩|⟨_,f,hf,hn,hs,rX,uI⟩
 ·grind
 refine⟨f,hf,by unfold Ab.look at hf ⊢;rw[hn];exact hf,hn,hs,fun w hw=>?_,fun g hg hd=>?_⟩
 ·rw[uI,List.mem_append,List.mem_singleton]at hw
  rcases hw with hw|rfl
  ·exact .inl (h.wr w hw)
  grind
 ·rw[KW rX]at hg
  rw[oM rX hg,if_neg (fun e=>hd (.inr e))]
  exact h.cl g hg (fun x=>hd (.inl x))
theorem Bz.sync(h:Bz A D)(hs:fR n A 0 B):∃f,A.look n=some f∧B.names=A.names∧B.aj=A.aj∧Bz B (fun g=>D g∧g≠f):=by
 rcases yT hs with⟨df,_⟩|⟨_,f,hf,hn,bP,rX,uI⟩
 ·grind
 refine⟨f,hf,hn,bP,fun w hw=>?_,fun g hg hd=>?_⟩
 ·rw[uI,List.mem_filter]at hw
  exact⟨h.wr w hw.1,by simpa using hw.2⟩
 ·rw[F9 rX]at hg
  rw[j6 rX hg]
  by_cases oe:g=f
  ·grind
  ·rw[if_neg oe];exact h.cl g hg (fun x=>hd ⟨x,oe⟩)
def Bz.uG(h:Bz A D)(hf:B.fs=A.fs)(hw:B.writes=A.writes):Bz B D:=⟨fun w hm=>h.wr w (hw ▸ hm),fun f hm hd=>by rw[il hf];exact h.cl f (hf ▸ hm) hd⟩
theorem Bz.rename{o:ByteArray}(h:Bz A D)(hs:iN o n A 0 B):Bz B D:=by
 rcases uo hs with⟨df,_⟩|⟨_,f,hf,hn,bP,rX,uI⟩
 ·grind
 ·exact h.uG rX uI
theorem Bz.names(h:Bz A (fun _=>False))(hB:HA B)(hs:cP A 0 B)(hk:B.names.length≤k):Cz k B:=by
 rcases lU hs with⟨df,_⟩|⟨_,hn,bP,rX,uI⟩
 ·grind
 have h2:=h.uG rX uI
 exact Cd.one hB (by rw[bP,hn]) h2.wr h2.cl hk
theorem Bz.put{C:Ab}{at_:Nat}(h:Bz A (fun _=>False))(hw:fh n at_ b A 0 B)(hs:fR n B 0 C):Bz C (fun _=>False):=by
 obtain⟨f,h1,h2,_,_,h3⟩:=h.write hw
 obtain⟨g,h4,_,_,h6⟩:=h3.sync hs
 grind
theorem Cz.begin{q:Int}{s t:fg}(h:Cz k s.A)(hA:HA s.A)(hb:s.brk=false)(hn:s.A.names.length<k)(hk:k≤200)(hR:eh q x s e t):Cz k t.A:=by
 unfold eh at hR
 rw[if_neg (by rw[hb];simp)]at hR
 split at hR
 ·grind
 split at hR
 ·grind
 split at hR
 ·grind
 split at hR
 ·grind
 rename_i hS
 rw[rJ]at hS
 have hv:vw s.A (fS x)=none:=by
  cases hx:vw s.A (fS x)with
  | none=>rfl
  | some c=>rw[hx]at hS;exact absurd rfl hS
 obtain⟨e1,s1,⟨B,⟨e2,A2,Nm,ya⟩,rfl⟩,hc⟩:=hR
 have afc:=Nm
 obtain⟨f,hf,Nm⟩:=Nm
 rw[jg]at Nm
 obtain⟨rfl,h2,wx,mT,Bk⟩:=hA.create hv ag hf Nm
 obtain⟨_,_,oH⟩:=h.fl.create afc
 rcases ya with⟨df,_⟩|⟨_,e3,A3,H4,hc3⟩
 ·grind
 obtain⟨rfl,h3,hv3,K6,hr3⟩:=h2.cp H4
 rcases hc3 with⟨df,_⟩|⟨_,rfl,rfl⟩
 ·grind
 rcases hc with⟨df,_⟩|⟨_,rfl,rfl⟩
 ·grind
 exact oH.names h3 H4 (by rw[K6,mT];omega)
def JC(C:List UInt8)(n:Nat)(ls:List (List UInt8)):Prop :=
  ∃h0 h1:List UInt8,C=h0++h1++ls.flatMap aS∧h0.length=16∧h1.length=16∧1≤n ∧
    (if n%2=1 then h1=bL n (ls.flatMap aS).length∧(h0=List.replicate 16 0∨∃s,s≤(ls.flatMap aS).length∧h0=bL (n-1) s)
     else h0=bL n (ls.flatMap aS).length∧(h1=List.replicate 16 0∨∃s,s≤(ls.flatMap aS).length∧h1=bL (n-1) s))
theorem JC.len{n:Nat}(h:JC C n ls):C.length=32+(ls.flatMap aS).length:=by
 obtain⟨h0,h1,rfl,l0,l1,_⟩:=h
 grind
def JC.whole(ls:List (List UInt8)):JC (cm ls) 1 ls:=⟨List.replicate 16 0,bL 1 (ls.flatMap aS).length,rfl,by simp,dk _ _,ag,by rw[if_pos rfl];exact⟨rfl,.inl rfl⟩⟩
def CX(a h h' r:List UInt8)(hl:h'.length=h.length):bJ (a++h++r) a.length h'=a++h'++r:=by
 unfold bJ
 simp_all
theorem JC.add{n:Nat}(h:JC C n ls)(b:List UInt8):JC (bJ (bJ C (32+(ls.flatMap aS).length) (aS b)) ((n+1)%2*16) (bL (n+1) ((ls.flatMap aS).length+(aS b).length))) (n+1) (ls++[b]):=by
 have hlen:=h.len
 rw[← hlen,o6]
 obtain⟨h0,h1,rfl,l0,l1,Ul,hc⟩:=h
 have hf:(ls++[b]).flatMap aS=ls.flatMap aS++aS b:=by simp
 have oH:((ls++[b]).flatMap aS).length=(ls.flatMap aS).length+(aS b).length:=by rw[hf,List.length_append]
 by_cases hp:n%2=1
 ·rw[if_pos hp]at hc
  have OU:(n+1)%2=0:=by omega
  rw[OU,Nat.zero_mul,← oH,List.append_assoc,List.append_assoc,EJ h0 _ _ (by rw[dk,l0])]
  refine⟨bL (n+1) ((ls++[b]).flatMap aS).length,h1,by simp only[hf,List.append_assoc],dk _ _,l1,ag,?_⟩
  grind
 ·rw[if_neg hp]at hc
  have OU:(n+1)%2=1:=by omega
  rw[OU,Nat.one_mul,← oH,List.append_assoc (h0++h1),← l0,CX h0 h1 _ _ (by rw[dk,l1])]
  refine⟨h0,bL (n+1) ((ls++[b]).flatMap aS).length,by simp only[hf,List.append_assoc],l0,dk _ _,ag,?_⟩
  grind
def BT(hv:vw A nm=none):(A.size nm).2=4:=by
 have l9:A.look nm=none:=by
  unfold vw at hv
  cases hx:A.look nm with
  | none=>rfl
  | some f=>rw[hx]at hv;cases hv
 unfold Ab.size
 rw[l9]
theorem IK{k':Nat}{n s c:Int}{y:PS}(h:Cz k A)(I8:vw A (bQ nm)=none)(hB:HA y.1)(hk:y.1.names.length≤k')(hR:yf nm ls (A,n,s,c) 0 y):Cz k' y.1:=by
 unfold yf gO at hR
 simp only[BT I8]at hR
 rw[if_neg ag,List.nil_append]at hR
 obtain⟨e1,x1,⟨⟨f,h1f,ye,wG⟩,Um⟩,⟨hx,hy,_⟩|⟨rfl,e2,x2,⟨⟨Nr,Br⟩,VL⟩,c2⟩⟩:=hR
 ·grind
 obtain⟨_,_,f1⟩:=h.fl.create (n:=bQ nm) (B:=x1.1) ⟨f,h1f,Prod.ext ye wG⟩
 rcases c2 with⟨hx,hy,_⟩|⟨rfl,e3,x3,⟨⟨Nq,EF⟩,Uj⟩,c3⟩
 ·grind
 rcases c3 with⟨hx,hy,_⟩|⟨rfl,e4,x4,⟨⟨Jw,EE⟩,h4c⟩,c4⟩
 ·grind
 have f3:=f1.put (n:=bQ nm) (at_:=0) (b:=cm ls) (B:=x2.1) (C:=x3.1) (Prod.ext Nr Br) (Prod.ext Nq EF)
 rcases c4 with⟨hx,hy,_⟩|⟨rfl,e5,x5,⟨⟨Ui,Uh⟩,h5c⟩,c5⟩
 ·grind
 have f4:=f3.rename (o:=bQ nm) (n:=nm) (B:=x4.1) (Prod.ext Jw EE)
 rcases c5 with⟨hx,hy,_⟩|⟨rfl,e6,x6,⟨h6a,Ug⟩,c6⟩
 ·grind
 rcases c6 with⟨hx,hy,_⟩|⟨_,_,hy⟩
 ·grind
 have hy1:y.1=x5.1:=by rw[hy,Ug]
 rw[hy1]at hB hk ⊢
 exact f4.names hB (Prod.ext Ui Uh) hk
structure DQ(k:Nat)(A:Ab):Prop where
 ha:HA A
 cz:Cz k A
 room:A.room=16777216
 nms:A.names.length≤k
 kd:∀n c,vw A n=some c→(n=cZ∧c.length≤100000)∨(∃d,n=js d)∧c.length≤1000∨(∃d,n=og d∧dW c=d)∧c.length≤1000
theorem DQ.used(h:DQ k A):A.used≤100000+1000*k:=by
 have h0:vO MO (eP A) (vw A)≤vO (fun n _=>wE n+1000) (eP A) (vw A):=by
  refine Pc _ _ fun n hn=>?_
  obtain⟨c,hc⟩:=Option.isSome_iff_exists.1 ((mem_keys h.ha n).1 hn)
  rw[hc]
  show c.length≤wE n+1000
  rcases h.kd n c hc with⟨rfl,hl⟩|⟨_,hl⟩|⟨_,hl⟩
  ·grind [wE,cZ]
  ·omega
  ·omega
 rw[Pb]at h0
 have h1:vO (fun n _=>wE n) (eP A) (vw A)=((eP A).map wE).sum:=rfl
 have h2:=VX (eP A) h.ha.keys
 have h3:vO (fun _ _=>1000) (eP A) (vw A)=A.names.length*1000:=by rw[C2,oB]
 have h4:=tV h.ha
 have h5:=h.nms
 omega
theorem DQ.tW(h:DQ k A):tW A≤1000*k:=by
 have h0:vO (fun n c=>xX n c) (eP A) (vw A)≤vO (fun _ _=>1000) (eP A) (vw A):=by
  refine Pc _ _ fun n hn=>?_
  obtain⟨c,hc⟩:=Option.isSome_iff_exists.1 ((mem_keys h.ha n).1 hn)
  rw[hc]
  show xX n c≤1000
  rcases h.kd n c hc with⟨rfl,hl⟩|⟨_,hl⟩|⟨_,hl⟩
  ·rw[Qx];omega
  ·grind [xX]
  grind [xX]
 have h3:vO (fun _ _=>1000) (eP A) (vw A)=A.names.length*1000:=by rw[C2,oB]
 have h5:=BG h.ha
 have h6:=h.nms
 grind
def DQ.next(h:DQ k A)(hB:HA B)(hz:Cz j B)(hr:B.room=A.room)(hn:B.names.length≤j)(hv:∀n c,vw B n=some c→vw A n=some c∨(n=cZ∧c.length≤100000)∨(∃d,n=js d)∧c.length≤1000∨(∃d,n=og d∧dW c=d)∧c.length≤1000):DQ j B :=
  ⟨hB,hz,hr.trans h.room,hn,fun n c hc=>by
    rcases hv n c hc with hc|hc
    · exact h.kd n c hc
    · exact hc⟩
theorem DQ.open(h:DQ k A)(hO:sH A e B):e=0∧B=A:=by
 have hB:∀nm∈gh A,∀d,j0 kB nm=some d→jS A d=true:=fun nm oG d hd=>by
  obtain rfl:nm=og d:=(rI.1 hd)
  obtain⟨c,hc⟩:=Option.isSome_iff_exists.1 ((zz h.ha _).1 oG)
  have hs:dW c=d:=by
   rcases h.kd _ c hc with⟨he,_⟩|⟨⟨d',he⟩,_⟩|⟨⟨d',he,hs⟩,_⟩
   ·exact absurd he (g' kB d)
   ·grind [dQ]
   grind [yy]
  unfold jS
  have hb:eN A (og d)=some c:=by rw[NJ h.ha];exact hc
  grind [dv,kB,og]
 have lh:∀(k:List UInt8) (nm:ByteArray) (d:Dg),nm∈gh A→j0 k nm=some d→(k=kN∨k=kI)→False:=fun k nm d oG hd hk=>by
  obtain rfl:=rI.1 hd
  obtain⟨c,hc⟩:=Option.isSome_iff_exists.1 ((zz h.ha _).1 oG)
  rcases h.kd _ c hc with⟨he,_⟩|⟨⟨d',he⟩,_⟩|⟨⟨d',he,_⟩,_⟩
  ·exact g' k d he
  ·rcases hk with rfl|rfl
   ·exact NA _ _ he.symm
   ·exact NB _ _ he.symm
  ·rcases hk with rfl|rfl
   ·exact NC _ _ he.symm
   ·exact ND _ _ he.symm
 obtain⟨e1,A1,⟨e2,A2,h2,c2⟩,hc⟩:=hO
 obtain⟨rfl,rfl⟩:=sT _ hB h2
 rcases c2 with⟨hx,_⟩|⟨_,e3,A3,h3,c3⟩
 ·grind
 obtain⟨rfl,rfl⟩:=sT _ (fun nm oG d hd=>(lh kN nm d oG hd (.inl rfl)).elim) h3
 rcases c3 with⟨hx,_⟩|⟨_,e4,A4,h4,c4⟩
 ·grind
 obtain⟨rfl,rfl⟩:=sT _ (fun nm oG d hd=>(lh kI nm d oG hd (.inr rfl)).elim) h4
 rcases c4 with⟨hx,_⟩|⟨_,rfl,rfl⟩
 ·grind
 grind
attribute [local irreducible] J K aD Ends ae aF aL bU bo aU bh bq cg
theorem Np{ws:List jB}{n:Nat}{w:jB}(hj:j<n)(hw:ws[j/64]?=some w):decide ((((w >>> (j%64)) &&& 1#64).toNat:Int)=1)=cG ws n (j:Int):=by
 unfold cG
 rw[decide_eq_true (show 0≤(j:Int)∧(j:Int)<n by omega),Bool.true_and,Int.toNat_natCast,List.getD_eq_getElem?_getD,hw,Option.getD_some,decide_eq_decide]
 constructor
 ·intro h
  apply BitVec.eq_of_toNat_eq
  grind
 grind
abbrev orW(p q:jB):jB:=p ||| q
theorem adD(p:jB):IntKind.u64.wrap ((BitVec.ofInt IntKind.u64.bits (p.toNat:Int) &&& BitVec.ofInt IntKind.u64.bits 1).toNat:Int)=((p &&& 1#64).toNat:Int):=by
 grind [ox,nz]
def ab9(p q:jB):IntKind.u64.wrap ((BitVec.ofInt IntKind.u64.bits (p.toNat:Int) ||| BitVec.ofInt IntKind.u64.bits (q.toNat:Int)).toNat:Int)=((p ||| q).toNat:Int):=by
 rw[ox,ox]
 exact nz (p ||| q)
def RI(p q:jB):IntKind.u64.wrap ((BitVec.ofInt IntKind.u64.bits (p.toNat:Int) &&& ~~~ BitVec.ofInt IntKind.u64.bits (q.toNat:Int)).toNat:Int)=((p &&& ~~~q).toNat:Int):=by
 rw[ox,ox]
 exact nz (p &&& ~~~q)
def qNe{ws:List jB}{i:Nat}(h:i<ws.length):qV ws≠[]:=fun e=>by have:=congrArg List.length e;rw[IJ]at this;rw[this]at h;simp at h
def lR(sb n:Nat)(wv:Value):aD Tryz.prog 34 [ptr sb] [ae sb (cl [.int .i64 (n:Int),wv] 137)] (fun r H=>r = .int .i64 (n:Int)∧H=[ae sb (cl [.int .i64 (n:Int),wv] 137)]):=by
 refine aD.aw Tryz.func34 Tryz.ntmps34 fun G F R hE=>?_
 refine go ?_
 refine ad hE Tryz.func34 zr zr ⟨rfl,rfl⟩
def vG(sb n:Nat)(wv:Value)(ws:List jB)(hn:n≤65536)(hw:n≤ws.length*64)(i:Int):aD Tryz.prog 35 [ptr sb,.int .i64 i] (eF sb n wv ws) (fun r H=>r = .bool (cG ws n i)∧H=eF sb n wv ws):=by
 unfold eF
 by_cases hi:0≤i∧i<(n:Int)
 case neg =>
  rw[lM ag]
  refine aD.aw Tryz.func35 Tryz.ntmps35 fun G F R hE=>?_
  by_cases h0:0≤i
  ·refine go ?_
   refine az 7 ((.bool true)) rfl ((congrArg Value.bool (decide_eq_true ag))) (go ?_)
   refine az 15 ((.bool false)) rfl ((congrArg Value.bool (decide_eq_false ag))) (go ?_)
   refine ad hE Tryz.func35 zr zr ⟨rfl,rfl⟩
  ·refine go ?_
   refine az 7 ((.bool false)) rfl ((congrArg Value.bool (decide_eq_false ag))) (go ?_)
   refine ad hE Tryz.func35 zr zr ⟨rfl,rfl⟩
 obtain⟨j,rfl⟩:∃j:Nat,i=j:=⟨i.toNat,ag⟩
 have uL:j/64<ws.length:=by omega
 obtain⟨w,Vd⟩:∃w,ws[j/64]?=some w:=⟨ws[j/64],by simp[uL]⟩
 have dK:=Dl Vd
 refine aD.aw Tryz.func35 Tryz.ntmps35 fun G F R hE=>?_
 refine dN 1 rfl ?_
 rintro a c rfl
 refine dg 1 rfl ?_
 intro dO
 obtain⟨b,o,gZ,fL⟩:=dO.some (qNe uL)
 simp only[Value.slice.injEq]at fL
 obtain⟨rfl,_,rfl⟩:=fL
 refine go ?_
 refine az 7 ((.bool true)) rfl ((congrArg Value.bool (decide_eq_true ag))) (go ?_)
 refine az 15 ((.bool true)) rfl ((congrArg Value.bool (decide_eq_true ag))) (go ?_)
 refine lP zr zr zr ag ag (by simp only[gy];omega) ?_
 refine az 21 ((.int .i64 ((j/64:Nat):Int))) rfl ((congrArg (Value.int .i64) ag)) (go ?_)
 refine bR (j/64) zr zr zr zr zr zr zr zr uL (go ?_)
 refine aK ?_
 refine aX 1 (j/64) zr zr zr dO rfl dK zr zr (go ?_)
 refine nT zr zr zr ag ag ?_
 refine az 25 ((.int .i64 ((j%64:Nat):Int))) rfl ((congrArg (Value.int .i64) ag)) (go ?_)
 refine qZ (p:=w) (j%64) zr zr zr zr ag (go ?_)
 ((refine bj 4 ((.bool (cG ws n (j:Int)))) rfl ((congrArg Value.bool (by rw[adD];exact Np ag Vd))) ?_))
 refine ad hE Tryz.func35 zr zr ⟨rfl,rfl⟩
def Sm(n:Nat)(hn:n≤65536):aD Tryz.prog 88 [.int .i64 (n:Int)] [] (fun r H=>∃sb wv,r = .tuple #[ptr sb,.int .i64 0]∧H=eF sb n wv (List.replicate ((n+63)/64) 0#64)):=by
 refine aD.aw Tryz.func88 Tryz.ntmps88 fun G F R hE=>?_
 refine go ?_
 refine bj 6 ((.bool false)) rfl ((congrArg Value.bool (decide_eq_false ag))) (go ?_)
 refine bj 9 ((.bool false)) rfl ((congrArg Value.bool (decide_eq_false ag))) (go ?_)
 refine lP zr zr zr ag ag (by simp only[gy];omega) ?_
 refine az 14 ((.int .i64 (((n+63)/64:Nat):Int))) rfl ((congrArg (Value.int .i64) ag)) (go ?_)
 refine nU (U:=aR) (p:=(n+63)/64) (q:=(n+63)/64) zr zr zr zr zr zr zr zr zr (Nat.le_refl _) ag (by show 8*_≤_;omega) bE ?_
 intro row
 refine go ?_
 refine bG zr zr bE ?_
 intro sb
 refine go ?_
 refine ai (H':=eF sb n (.slice (some ⟨row,0,none⟩) ((n+63)/64) ((n+63)/64)) (List.replicate ((n+63)/64) 0#64)++F) ?_ ?_
 ·have hq:qV (List.replicate ((n+63)/64) 0#64)=List.replicate ((n+63)/64) (.int .u64 0):=by simp[qV,Pa]
  unfold eF
  rw[hq,List.length_replicate]
  refine ak.trans (H2:=ae row (cl (List.replicate ((n+63)/64) (.int .u64 0)) 133)::ae sb (cl [.int .i64 (n:Int),.slice (some ⟨row,0,none⟩) ((n+63)/64) ((n+63)/64)] 137)::F) ah ?_
  refine ak.trans (H2:=ae row (cl (List.replicate ((n+63)/64) (.int .u64 0)++[]) 133)::ae sb (cl [.int .i64 (n:Int),.slice (some ⟨row,0,none⟩) ((n+63)/64) ((n+63)/64)] 137)::F) (by rw[List.append_nil];exact ak.refl _) ?_
  refine(eS 133 1 row ((n+63)/64) ((n+63)/64) (List.replicate ((n+63)/64) (.int .u64 0)) [] _ (by simp) (Nat.le_refl _) (by simp)).trans ?_
  exact ak.perm (List.Perm.swap ..)
 ·refine ad hE Tryz.func88 zr zr ⟨_,_,rfl,rfl⟩
def Ta(ws:List jB)(i:Nat)(w:jB)(hw:ws[i/64]?=some w):(qV ws).set (i/64) (.int .u64 ((orW w (D0 (i%64))).toNat:Int))=qV (ku ws i true):=by
 unfold ku
 rw[if_pos rfl,List.getD_eq_getElem?_getD,hw,Option.getD_some]
 exact PO ws (i/64) _
def PR(ws:List jB)(i:Nat)(w:jB)(hw:ws[i/64]?=some w):(qV ws).set (i/64) (.int .u64 ((w &&& ~~~(D0 (i%64))).toNat:Int))=qV (ku ws i false):=by
 unfold ku
 rw[if_neg (by simp),List.getD_eq_getElem?_getD,hw,Option.getD_some]
 exact PO ws (i/64) _
set_option maxHeartbeats 1000000 in
def ON(sb n:Nat)(wv:Value)(ws:List jB)(hn:n≤65536)(hw:n≤ws.length*64)(i:Nat)(hi:i<n)(one:Bool):aD Tryz.prog 159 [ptr sb,.int .i64 (i:Int),.int .i64 ((i:Int)+1),.bool one] (eF sb n wv ws) (fun r H=>r = .int .i64 0∧H=eF sb n wv (ku ws i one)):=by
 have me:i/64<ws.length:=by omega
 obtain⟨w,Vd⟩:∃w,ws[i/64]?=some w:=⟨ws[i/64],by simp[me]⟩
 have dK:=Dl Vd
 unfold eF
 rw[jG]
 refine aD.aw Tryz.func159 Tryz.ntmps159 fun G F R hE=>?_
 refine dN 1 rfl ?_
 rintro a c rfl
 refine dg 1 rfl ?_
 intro dO
 obtain⟨b,o,gZ,fL⟩:=dO.some (qNe me)
 simp only[Value.slice.injEq]at fL
 obtain⟨rfl,_,rfl⟩:=fL
 clear dO
 refine go ?_
 refine az 14 ((.bool false)) rfl ((congrArg Value.bool (decide_eq_false ag))) (go ?_)
 refine az 19 ((.bool false)) rfl ((congrArg Value.bool (decide_eq_false ag))) (go ?_)
 refine bj 26 ((.bool false)) rfl ((congrArg Value.bool (decide_eq_false ag))) (go ?_)
 refine bB (fun g:Nat=>g≤1) (fun g=>1-g) (fun g=>[(0,ptr sb),(1,.int .i64 ((i:Int)+(g:Int))),(2,.int .i64 ((i:Int)+1)),(3,.bool one)])
  (fun g=>ae sb (cl [.int .i64 (n:Int),.slice (some ⟨b,o,none⟩) ws.length c] 137)::aF 133 1 (.slice (some ⟨b,o,none⟩) ws.length c) ws.length (qV (if g=0 then ws else ku ws i one))::F) 0 ag rfl ck ah ?_
 intro g hg ih
 rcases(by omega:g=0∨g=1)with rfl|rfl
 ·rw[if_pos rfl]
  refine dg 1 rfl ?_
  intro dO
  refine go ?_
  refine bj 29 ((.bool true)) rfl ((congrArg Value.bool (decide_eq_true ag))) (go ?_)
  refine lP zr zr zr ag ag (by simp only[gy];omega) ?_
  refine az 31 ((.int .i64 ((i/64:Nat):Int))) rfl ((congrArg (Value.int .i64) ag)) (go ?_)
  refine iA zr zr zr (by simp only[gy];omega) ?_
  refine go ?_
  refine az 40 ((.int .i64 63)) rfl ((congrArg (Value.int .i64) ag)) ?_
  refine qZ (p:=18446744073709551615#64) 63 rfl (congrArg (fun z:Int=>some (Value.int .u64 z)) (by decide:(18446744073709551615:Int)=((18446744073709551615#64).toNat:Int))) zr zr ag ?_
  refine az 41 ((.int .u64 ((1#64).toNat:Int))) rfl ((congrArg (fun w:jB=>Value.int .u64 (w.toNat:Int)) (by decide))) ?_
  refine go ?_
  refine nT zr zr zr ag ag ?_
  refine az 43 ((.int .i64 ((i%64:Nat):Int))) rfl ((congrArg (Value.int .i64) ag)) ?_
  refine aaz (p:=1#64) (i%64) zr zr zr zr ag ?_
  rw[show 1#64 <<< (i%64)=D0 (i%64)from rfl]
  cases one with
  | true =>
   refine go ?_
   refine bR (i/64) zr zr zr zr zr zr zr zr me ?_
   refine aK ?_
   refine aX 1 (i/64) zr zr zr dO rfl dK zr zr (go ?_)
   refine az 54 ((.int .u64 ((orW w (D0 (i%64))).toNat:Int))) rfl ((congrArg (Value.int .u64) (ab9 w _))) ?_
   refine bR (i/64) zr zr zr zr zr zr zr zr me ?_
   refine aV ?_
   refine pW (U:=aR) (q:=i/64) 1 gf zr zr zr zr zr zr zr me rfl ?_
   rw[Ta ws i w Vd]
   refine go ?_
   refine bj 1 ((.int .i64 ((i:Int)+((1:Nat):Int)))) rfl ((congrArg (Value.int .i64) ag)) ?_
   refine aM ih 1 rfl ag ag ck ah
  | false =>
   refine go ?_
   refine bR (i/64) zr zr zr zr zr zr zr zr me ?_
   refine aK ?_
   refine aX 1 (i/64) zr zr zr dO rfl dK zr zr (go ?_)
   refine az 64 ((.int .u64 ((w &&& ~~~(D0 (i%64))).toNat:Int))) rfl ((congrArg (Value.int .u64) (RI w _))) ?_
   refine bR (i/64) zr zr zr zr zr zr zr zr me ?_
   refine aV ?_
   refine pW (U:=aR) (q:=i/64) 1 gf zr zr zr zr zr zr zr me rfl ?_
   rw[PR ws i w Vd]
   refine go ?_
   refine bj 1 ((.int .i64 ((i:Int)+((1:Nat):Int)))) rfl ((congrArg (Value.int .i64) ag)) ?_
   refine aM ih 1 rfl ag ag ck ah
 ·rw[if_neg ag]
  refine go ?_
  refine bj 29 ((.bool false)) rfl ((congrArg Value.bool (decide_eq_false ag))) (go ?_)
  refine ad hE Tryz.func159 zr zr ⟨rfl,rfl⟩
def HW(sb n:Nat)(wv:Value)(ws:List jB)(hn:n≤65536)(hw:n≤ws.length*64)(i:Nat)(hi:i<n)(one:Bool):aD Tryz.prog 98 [ptr sb,.int .i64 (i:Int),.bool one] (eF sb n wv ws) (fun r H=>r = .int .i64 0∧H=eF sb n wv (ku ws i one)):=by
 have hf:=ON sb n wv ws hn hw i hi one
 unfold eF at hf ⊢
 refine aD.aw Tryz.func98 Tryz.ntmps98 fun G F R hE=>?_
 refine go ?_
 refine bj 9 ((.bool false)) rfl ((congrArg Value.bool (decide_eq_false ag))) (go ?_)
 refine bj 16 ((.bool false)) rfl ((congrArg Value.bool (decide_eq_false ag))) (go ?_)
 refine aN hf ?_
 refine go ?_
 refine ad hE Tryz.func98 zr zr ⟨rfl,rfl⟩
attribute [local irreducible] aE
def dR(e:Nat):Bool:=decide (e≠0∧e≠1∧e≠5∧e≠8∧e≠11)
def jE(tb bs jb:Nat)(tv:Value)(br:Bool):HP:=ae tb (cl [ptr bs,ptr jb,tv,.bool br] 74)
theorem ru{σ:Type}(I:σ→HP)(tb bs jb:Nat)(tv:Value)(V:HP)(v:Value)(lS:List Value)(hv:Vw V v lS.length lS)(hn:lS.length≤1000000000)(ss:List (σ→Nat→σ→Prop))(hlen:ss.length=lS.length)(Q:Nat→σ→Prop)(bP:∀(i:Nat) (fv:Value) (s:σ→Nat→σ→Prop),lS[i]?=some fv→ss[i]?=some s→∃g fi cap,fv = .func (.func g) fi cap∧∀x,Q i x→aD Tryz.prog g (fi.toList++cap.toList) [jE tb bs jb tv false,I x] (fun r H=>∃(e:Nat) (x':σ),r = .int .i64 (e:Int)∧H=[jE tb bs jb tv false,I x']∧s x e x'∧(e=0→Q (i+1) x')))(x0:σ)(hQ:Q 0 x0) :
  aD Tryz.prog 31 [ptr tb,v] [V,jE tb bs jb tv false,I x0] (fun r H=>∃(e:Nat) (x':σ),r = .int .i64 (e:Int)∧H=[V,jE tb bs jb tv (dR e),I x']∧gi ss x0 e x'):=by
 unfold jE at bP ⊢
 obtain⟨a,c,rfl⟩:=hv.shape
 refine aD.aw Tryz.func31 Tryz.ntmps31 fun G F R hE=>?_
 refine go ?_
 refine bB (fun y:Nat × σ=>y.1≤lS.length∧Q y.1 y.2∧∀e x',gi (ss.drop y.1) y.2 e x'→gi ss x0 e x') (fun y=>lS.length-y.1)
  (fun y=>[(0,ptr tb),(8,.slice a lS.length c),(9,.int .i64 (lS.length:Int)),(10,.int .i64 (y.1:Int))])
  (fun y=>V::ae tb (cl [ptr bs,ptr jb,tv,.bool false] 74)::I y.2::F) (0,x0) ⟨Nat.zero_le _,hQ,fun _ _ h=>h⟩ rfl ck ah ?_
 rintro⟨i,x⟩⟨hi,hq,hr⟩ ih
 simp only at hi hq hr
 dsimp only
 refine go ?_
 refine au zr zr ?_ ?_
 ·intro dJ
  have me:i<lS.length:=by omega
  obtain⟨fv,nH⟩:∃fv,lS[i]?=some fv:=⟨lS[i],List.getElem?_eq_getElem me⟩
  obtain⟨s,hs⟩:∃s,ss[i]?=some s:=⟨ss[i],List.getElem?_eq_getElem ag⟩
  obtain⟨g,fi,cap,rfl,hc⟩:=bP i fv s nH hs
  have mU:ss.drop i=s::ss.drop (i+1):=by
   rw[List.drop_eq_getElem_cons ag]
   grind
  obtain⟨b0,o0,c0,pH⟩:=hv.some (by intro h;rw[h]at me;simp at me)
  simp only[Value.slice.injEq]at pH
  obtain⟨rfl,-,rfl⟩:=pH
  refine go ?_
  refine bR i zr zr zr zr zr zr zr zr me ?_
  refine aX 0 i zr zr zr hv rfl nH zr zr (go ?_)
  refine vC zr zr zr (by simp) (hc x hq) ah ?_ nq
  rintro _ _⟨e,x',rfl,rfl,M1,Ey⟩
  by_cases pH:e=0
  ·subst pH
   refine go ?_
   refine aM ih (i+1,x') rfl (⟨by simp only;omega,Ey rfl,fun e2 x2 h2=>hr e2 x2 (by rw[mU];exact⟨0,x',M1,.inr ⟨rfl,h2⟩⟩)⟩) (by simp only;omega) ck ah
  have kh:gi ss x0 e x':=hr e x' (by rw[mU];exact⟨e,x',M1,.inl ⟨pH,rfl,rfl⟩⟩)
  clear ih
  by_cases QL:e=1∨e=5∨e=11∨e=8
  ·have hb:dR e=false:=decide_eq_false ag
   rcases QL with rfl|rfl|rfl|rfl
   all_goals(
    refine go ?_
    ((refine ad hE Tryz.func31 zr zr ⟨_,x',rfl,rfl,kh⟩)))
  ·have hb:dR e=true:=decide_eq_true ag
   refine go ?_
   refine au zr zr ?_ ?_
   ·grind
   intro _
   refine go ?_
   refine au zr zr ?_ ?_
   ·grind
   intro _
   refine go ?_
   refine au zr zr ?_ ?_
   ·grind
   intro _
   refine go ?_
   refine au zr zr ?_ ?_
   ·grind
   intro _
   refine go ?_
   refine au zr zr ?_ ?_
   ·grind
   intro _
   refine go ?_
   refine ai (H':=V::ae tb (cl [ptr bs,ptr jb,tv,.bool true] 74)::I x'::F) ah ?_
   rw[← hb]
   refine ad hE Tryz.func31 zr zr ⟨e,x',rfl,rfl,kh⟩
 ·intro fO
  have gz:i=lS.length:=by omega
  subst gz
  clear ih
  have h0:gi ss x0 0 x:=hr 0 x (by rw[List.drop_eq_nil_of_le ag];exact⟨rfl,rfl⟩)
  refine go ?_
  refine ad hE Tryz.func31 zr zr ⟨0,x,rfl,rfl,h0⟩
def Pe{ts:List Tk}{i:Nat}(h:i<ts.length):ts.map cT≠[]:=fun e=>by have:=congrArg List.length e;simp at this;rw[this]at h;simp at h
def fH(ts:List Tk)(x:Bl):Option Tk:=ts.find? fun y=>decide (y.x=x)
def SR(o:Option Tk):Value:=match o with
 | none => .pointer none
 | some y=>ptr y.yb
def vE(A X:HP)(v:Value)(l:List Tk)(hv:Vw A v l.length (l.map cT))(hlen:l.length≤1000000)(g:FuncId)(cap:List Value)(p:Tk→Bool)(hf:∀x∈l,aD Tryz.prog g (ptr x.yb::cap) [X] (fun v H=>v = .bool (p x)∧H=[X])) :
  aD Tryz.prog 74 [v,.func (.func g) #[] cap.toArray] [A,X] (fun r H=>r = .int .i64 (lK p l)∧H=[A,X]):=by
 obtain⟨a,c0,rfl⟩:=hv.shape
 refine aD.enter Tryz.func74 aq rfl Tryz.ntmps74 zr zr ?_
 intro G F R hR
 refine go ?_
 refine bB (fun i:Nat=>i≤l.length∧∀y∈l.take i,p y=false) (fun i=>l.length-i) (fun i=>[(0,.slice a l.length c0),(1,.func (.func g) #[] cap.toArray),(7,.int .i64 l.length),(8,.int .i64 i)]) (fun _=>[A,X]++F) 0 ⟨by simp,by simp⟩ rfl ck (ak.refl _) ?_
 rintro i⟨hi,hb⟩ ih
 refine go ?_
 refine au zr zr ?_ ?_
 ·intro dJ
  refine go ?_
  have gz:i<l.length:=by omega
  obtain⟨x,hx⟩:∃x,l[i]?=some x:=⟨l[i],by simp[gz]⟩
  obtain⟨b,o,gZ,fL⟩:=hv.some (Pe gz)
  simp only[Value.slice.injEq]at fL
  obtain⟨rfl,_,rfl⟩:=fL
  refine bR i zr zr zr zr zr zr zr zr gz ?_
  refine aK ?_
  refine aX 0 i zr zr zr hv rfl (rl hx) zr zr ?_
  refine cO [1] zr zr zr zr (hf x (List.mem_of_getElem? hx)) rfl nq ?_
  rintro _ _⟨rfl,rfl⟩
  refine go ?_
  refine fZ zr zr ?_ ?_
  ·intro hp
   refine go ?_
   refine aO hR Tryz.func74 rfl _ rfl ⟨by rw[oC hx hp hb];rfl,rfl⟩ (ak.fin [1,0] 0 zr zr)
  ·intro hp
   refine go ?_
   refine aM ih (i+1) rfl ⟨ag,vh hb hx hp⟩ ag ck (ak.pick [1,0] rfl)
 ·intro fO
  refine go ?_
  have:i=l.length:=by omega
  subst this
  refine aO hR Tryz.func74 rfl _ rfl ⟨by rw[rH (fun x hx=>hb x (by simpa using hx))];rfl,rfl⟩ (ak.fin [0,1] 0 zr zr)
def yi(A X:HP)(v:Value)(l:List Tk)(hv:Vw A v l.length (l.map cT))(hlen:l.length≤1000000)(g:FuncId)(cap:List Value)(p:Tk→Bool)(hf:∀x∈l,aD Tryz.prog g (ptr x.yb::cap) [X] (fun v H=>v = .bool (p x)∧H=[X])) :
  aD Tryz.prog 25 [v,.func (.func g) #[] cap.toArray] [A,X] (fun r H=>r = .bool (l.any p)∧H=[A,X]):=by
 refine aD.enter Tryz.func25 aq rfl Tryz.ntmps25 zr zr ?_
 intro G F R hR
 refine go ?_
 refine cO [0,1] zr zr zr zr (vE A X v l hv hlen g cap p hf) rfl nq ?_
 rintro _ _⟨rfl,rfl⟩
 refine go ?_
 have hb:decide (0≤lK p l)=l.any p:=by
  rw[show decide (0≤lK p l)=decide (¬lK p l<0)from by rw[decide_eq_decide];omega]
  rw[Bool.eq_iff_iff,decide_eq_true_iff,oD (p:=p) (l:=l),Bool.not_eq_false]
 refine aO hR Tryz.func25 rfl _ rfl ⟨congrArg Value.bool hb,rfl⟩ (ak.fin [0,1] 0 zr zr)
def G7(ts:List Tk)(x:Bl)(bx:Nat)(y:Tk)(hy:y∈ts):aD Tryz.prog 26 [ptr y.yb,ptr bx] [Sep [bD ts,ae bx (cl (bH x) 39)] ] (fun r H=>r = .bool (decide (y.x.d=x.d))∧H=[Sep [bD ts,ae bx (cl (bH x) 39)] ]):=by
 obtain⟨i,hi⟩:=List.mem_iff_getElem?.1 hy
 refine aD.aw Tryz.func26 Tryz.ntmps26 fun G F R hE=>?_
 refine ai (ak.cK [_,_] _) ?_
 refine ai (kq hi _) ?_
 refine eB (fQ y) ?_
 rintro z hz
 refine ai (H':=ae y.yb (cl (nA y) 80)::ae bx (cl (bH x) 39)::ae y.sb (cl [.int .i64 (y.n:Int),z.1] 137)::aF 133 1 z.1 y.ws.length (qV y.ws)::aL (Value.int .i64) y.mb z.2.1::bh 37 z.2.2::bD (ts.take i++ts.drop (i+1))::F) ah (go ?_)
 refine aG (fun w=>Sat G w ([ae y.yb (cl (nA y) 80),ae bx (cl (bH x) 39)])) (dj 0 9 .nil) rfl aq aq aq eo ?_
 refine go ?_
 refine cJ (U:=aR) 0 zr zr zr zr zr zr (go ?_)
 refine cJ (U:=aR) 1 zr zr zr zr zr zr (go ?_)
 refine lC (b:=decide (y.x.d=x.d)) zr zr zr Jx (fun w=>JH y.x.d x.d w) ?_
 refine go ?_
 refine ai (H':=rS y z++(bD (ts.take i++ts.drop (i+1))::ae bx (cl (bH x) 39)::F)) (by unfold rS;exact ah) ?_
 refine ai (iM hz _) ?_
 refine ai (lx hi _) ?_
 refine ai (ak.bX [_,_] _) ?_
 refine ad hE Tryz.func26 zr zr ⟨rfl,rfl⟩
theorem mz(tb bs jb:Nat)(tv:Value)(br:Bool)(ts:List Tk)(x:Bl)(hl:ts.length≤1000000):aD Tryz.prog 33 [ptr tb,dG x] (fe tb bs jb tv ts br) (fun r H=>r=SR (fH ts x)∧H=fe tb bs jb tv ts br):=by
  unfold fe dG
  refine aD.aw Tryz.func33 Tryz.ntmps33 fun G F R hE=>?_
  refine dN 1 rfl ?_
  rintro a c rfl
  refine dg 1 rfl ?_
  intro dO
  refine aB rfl ?_
  refine bG zr zr bE ?_
  intro b3
  refine go ?_
  refine bB (fun i:Nat=>i≤ts.length∧∀y∈ts.take i,y.x≠x) (fun i=>ts.length-i) (fun i=>[(3,ptr b3),(10,.slice a ts.length c),(11,.int .i64 (ts.length:Int)),(12,.int .i64 (i:Int))])
    (fun _=>aF 76 1 (.slice a ts.length c) ts.length (ts.map cT)::bD ts::ae tb (cl [ptr bs,ptr jb,.slice a ts.length c,.bool br] 74)::ae b3 (cl (bH x) 39)::F) 0 ⟨Nat.zero_le _,by simp⟩ rfl ck ah ?_
  rintro i⟨hi,hb⟩ ih
  refine go ?_
  refine au zr zr ?_ ?_
  · intro dJ
    have gz:i<ts.length:=by omega
    obtain⟨y,hx⟩:∃x,ts[i]?=some x:=⟨ts[i],by simp[gz]⟩
    obtain⟨b,o,gZ,fL⟩:=dO.some (Pe gz)
    simp only[Value.slice.injEq]at fL
    obtain⟨rfl,_,rfl⟩:=fL
    refine go ?_
    refine bR i zr zr zr zr zr zr zr zr gz ?_
    refine aK ?_
    refine aX 0 i zr zr zr dO rfl (rl hx) zr zr (go ?_)
    refine ai (H':=bD ts::aF 76 1 (.slice (some ⟨b,o,none⟩) ts.length c) ts.length (ts.map cT)::ae tb (cl [ptr bs,ptr jb,.slice (some ⟨b,o,none⟩) ts.length c,.bool br] 74)::ae b3 (cl (bH x) 39)::F) ah ?_
    refine ai (kq hx _) ?_
    refine eB (fQ y) ?_
    rintro z hz
    refine ai (H':=ae y.yb (cl (nA y) 80)::ae b3 (cl (bH x) 39)::ae y.sb (cl [.int .i64 (y.n:Int),z.1] 137)::aF 133 1 z.1 y.ws.length (qV y.ws)::aL (Value.int .i64) y.mb z.2.1::bh 37 z.2.2::bD (ts.take i++ts.drop (i+1))::aF 76 1 (.slice (some ⟨b,o,none⟩) ts.length c) ts.length (ts.map cT)::ae tb (cl [ptr bs,ptr jb,.slice (some ⟨b,o,none⟩) ts.length c,.bool br] 74)::F) ah ?_
    refine aG (fun w=>Sat G w ([ae y.yb (cl (nA y) 80),ae b3 (cl (bH x) 39)])) (dj 0 6 .nil) rfl aq aq aq eo ?_
    refine go ?_
    refine cJ (U:=aR) (cs:=bH y.x) 0 zr zr zr zr zr zr (go ?_)
    refine bT (U:=aR) (l:=bH x) 1 zr zr zr zr zr zr (go ?_)
    refine lC (b:=decide (y.x=x)) zr zr zr aag (fun w=>Uw y.x x w) ?_
    by_cases Bj:y.x=x
    · rw[decide_eq_true Bj]
      have oY:fH ts x=some y:=by
        unfold fH
        rw[Ik hx,List.find?_append,List.find?_eq_none.2 (fun w hw=>by simpa using hb w hw)]
        simp[Bj]
      rw[oY]at hE
      refine go ?_
      refine ai (H':=rS y z++(bD (ts.take i++ts.drop (i+1))::ae tb (cl [ptr bs,ptr jb,.slice (some ⟨b,o,none⟩) ts.length c,.bool br] 74)::aF 76 1 (.slice (some ⟨b,o,none⟩) ts.length c) ts.length (ts.map cT)::F)) (by unfold rS;exact ah) ?_
      refine ai (iM hz _) ?_
      refine ai (lx hx _) ?_
      refine ai (H':=ae tb (cl [ptr bs,ptr jb,.slice (some ⟨b,o,none⟩) ts.length c,.bool br] 74)::aF 76 1 (.slice (some ⟨b,o,none⟩) ts.length c) ts.length (ts.map cT)::bD ts::F) ah ?_
      refine ad hE Tryz.func33 zr zr ⟨rfl,rfl⟩
    · rw[decide_eq_false Bj]
      refine go ?_
      refine ai (H':=rS y z++(bD (ts.take i++ts.drop (i+1))::aF 76 1 (.slice (some ⟨b,o,none⟩) ts.length c) ts.length (ts.map cT)::ae tb (cl [ptr bs,ptr jb,.slice (some ⟨b,o,none⟩) ts.length c,.bool br] 74)::ae b3 (cl (bH x) 39)::F)) (by unfold rS;exact ah) ?_
      refine ai (iM hz _) ?_
      refine ai (lx hx _) ?_
      refine ai (H':=aF 76 1 (.slice (some ⟨b,o,none⟩) ts.length c) ts.length (ts.map cT)::bD ts::ae tb (cl [ptr bs,ptr jb,.slice (some ⟨b,o,none⟩) ts.length c,.bool br] 74)::ae b3 (cl (bH x) 39)::F) ah ?_
      refine aM ih (i+1) rfl (⟨ag,fun w hw=>by
        rw[List.take_add_one,hx,Option.toList_some]at hw
        rcases List.mem_append.1 hw with h|h
        · exact hb w h
        · rw[List.mem_singleton.1 h];exact Bj⟩) ag ck ah
  · intro fO
    have tR:i=ts.length:=by omega
    subst tR
    have oY:fH ts x=none:=by
      grind [fH]
    rw[oY]at hE
    clear ih
    refine go ?_
    refine ai (H':=ae tb (cl [ptr bs,ptr jb,.slice a ts.length c,.bool br] 74)::aF 76 1 (.slice a ts.length c) ts.length (ts.map cT)::bD ts::F) ah ?_
    refine ad hE Tryz.func33 zr zr ⟨rfl,rfl⟩
def jH(b2 b3 jb:Nat):List Value:=[.func (.func 83) #[] #[ptr b2,ptr b3],.func (.func 85) #[ptr jb] #[] ]
def wh(tb bs jb:Nat)(tv:Value)(a:Option Addr)(n c:Nat):aD Tryz.prog 29 [ptr tb,.slice a n c] [jE tb bs jb tv false]
  (fun r H=>∃b2 b3 row,r = .slice (some ⟨row,0,none⟩) 2 2∧H=[ae row (cl (jH b2 b3 jb) 83),ae b2 (cl [ptr tb] 31),ae b3 (cl [.slice a n c] 40),jE tb bs jb tv false]):=by
 unfold jE
 refine aD.aw Tryz.func29 Tryz.ntmps29 fun G F R hE=>?_
 refine aB rfl ?_
 refine bG zr zr bE ?_
 intro b2
 refine bG zr zr bE ?_
 intro b3
 refine go ?_
 refine ao (cs:=jH b2 b3 jb) zr zr zr zr zr zr zr zr zr bE ?_
 intro row
 refine go ?_
 refine ad hE Tryz.func29 zr zr ⟨b2,b3,row,rfl,rfl⟩
def IU(tb bs jb bd b2 b3:Nat)(tv:Value)(A:Ab)(x:JN)(Z:HP)(a:Option Addr)(c:Nat)(b:List UInt8)(hb:eO Z (.slice a b.length c) b)(hl:b.length≤9223372036854775807)(hs:0≤x.s∧x.s≤1000000000)(eW:A.writes.length≤1000000000) :
  aD Tryz.prog 83 [ptr b2,ptr b3] [jE tb bs jb tv false,aE bd A,rT jb bd cZ x,ae b2 (cl [ptr tb] 31),ae b3 (cl [.slice a b.length c] 40),Z]
  (fun r H=>r = .int .i64 ((cW cZ A x b).1:Int)∧H=[jE tb bs jb tv false,aE bd (cW cZ A x b).2.1,rT jb bd cZ (cW cZ A x b).2.2,ae b2 (cl [ptr tb] 31),ae b3 (cl [.slice a b.length c] 40),Z]):=by
 have Ib:=Kk jb bd cZ A x Z _ b hb hl hs eW
 unfold jE
 refine aD.aw Tryz.func83 Tryz.ntmps83 fun G F R hE=>?_
 refine go ?_
 refine aG (fun w=>Sat G w ([ae tb (cl [ptr bs,ptr jb,tv,.bool false] 74),ae b2 (cl [ptr tb] 31),ae b3 (cl [.slice a b.length c] 40)])) (dj 0 5 (.act 5 (.st 6 .nil))) rfl aq aq aq eo ?_
 refine go ?_
 refine bp Ib ?_
 refine go ?_
 refine ai (H':=ae tb (cl [ptr bs,ptr jb,tv,.bool false] 74)::aE bd (cW cZ A x b).2.1::rT jb bd cZ (cW cZ A x b).2.2::ae b2 (cl [ptr tb] 31)::ae b3 (cl [.slice a b.length c] 40)::Z::F) ah ?_
 refine ad hE Tryz.func83 zr zr ⟨rfl,rfl⟩
def G5(tb bs jb bd b2 b3:Nat)(q:Int)(hq:0≤q∧q≤1073741824)(mb:Nat)(tv:Value)(s:fg)(x:Bl)(Rc:qa s.bz)(bP:s.A.aj.length≤900000000)(eW:s.A.writes.length≤900000000) :
  aD Tryz.prog 27 [ptr b2,ptr b3] (jE tb bs jb tv false::(du bs bd q mb s++[ae b2 (cl [ptr tb] 31),ae b3 (cl (bH x) 39)]))
  (fun r H=>∃(e:Nat) (t:fg),r = .int .i64 (e:Int)∧H=jE tb bs jb tv false::(du bs bd q mb t++[ae b2 (cl [ptr tb] 31),ae b3 (cl (bH x) 39)])∧eh q x s e t):=by
 have pI:=HU bs bd q hq mb s x Rc bP eW
 unfold dG at pI
 unfold jE
 refine aD.aw Tryz.func27 Tryz.ntmps27 fun G F R hE=>?_
 refine go ?_
 refine aG (fun w=>Sat G w ([ae tb (cl [ptr bs,ptr jb,tv,.bool false] 74),ae b2 (cl [ptr tb] 31),ae b3 (cl (bH x) 39)])) (dj 0 5 (.act 5 (.st 6 .nil))) rfl aq aq aq eo ?_
 refine go ?_
 refine bT (U:=aR) (l:=bH x) 2 zr zr zr zr zr zr (go ?_)
 refine fk rfl rfl rfl rfl pI ah ?_ (fun _ _ w hp hw=>by obtain⟨_,_,rfl,rfl,_⟩:=hp;exact hw.cL ah)
 rintro _ _⟨e,t,rfl,rfl,hR⟩
 refine go ?_
 refine ai (H':=ae tb (cl [ptr bs,ptr jb,tv,.bool false] 74)::(du bs bd q mb t++(ae b2 (cl [ptr tb] 31)::ae b3 (cl (bH x) 39)::F))) ah ?_
 refine ad hE Tryz.func27 zr zr ⟨e,t,rfl,rfl,hR⟩
end Go.Proofs.YthnfckodljbgbaaGreatDoor
