/- Texts of one claim, joined: Jj, Jk0, Jk, EngWd, EngDg, Da, Te0, Ha, Hb, Gg0, Bs, EngL, EngAr, EngT, EngT2, EngT3, Db, Dc, EngDk. -/
import Derived.Test.YthjbidjmgbjkiaaGreatDoorQPH2
import Derived.Test.YthjbidjmgbjkiaaGreatDoorQPH3
import Derived.Test.YthjbidjmgbjkiaaGreatDoorQPH4
import Derived.Test.YthjbidjmgbjkiaaGreatDoorQPH5
import Derived.DeepKeys
import Derived.WideKeyRuns
set_option linter.unusedSectionVars false
set_option linter.unusedSimpArgs false
set_option linter.unusedVariables false
namespace Go.Proofs.YthjbidjmgbjkiaaGreatDoor
open Go Go.SL
attribute [local irreducible] J K aD Ends ag az aL bK aZ aQ aV bg bQ aC
def CI(bd jb x1 x3:Nat)(name:ByteArray)(next sz:Nat)(x:PS):HP:=Sep [aC bd x.1,ag jb (cl [ptr bd,.string name,.int .i64 x.2.1,.int .i64 x.2.2.1,.int .i64 x.2.2.2,.bool false] 167),ag x1 (cl [ptr jb] 75),ag x3 (cl [.int .i64 (next:Int)] 3)]
def CQ(sz:Nat)(i:Nat)(x:PS):Prop:=x.2.2.1=(sz:Int)∧x.1.aH.length≤900000000+i∧x.1.writes.length≤900000000+i
theorem CQ.next{sz i:Nat}{x:PS}(h:CQ sz i x){B:Ab}(g:iW x.1 B):CQ sz (i+1) (B,x.2):=by
 obtain⟨h0,h1,h2⟩:=h
 obtain⟨g1,g2⟩:=g
 exact⟨h0,by simp only;omega,by simp only;omega⟩
def Gm(name:ByteArray):=OB fun A e B=>e=(A.sync (isName name) name).1∧B=(A.sync (isName name) name).2
def Pa(name:ByteArray)(next sz:Nat):=OB fun A e B=>e=(A.write (fL name ((next%2*16:Nat):Int) (cJ next sz)) name (next%2*16) (cJ next sz)).1∧B=(A.write (fL name ((next%2*16:Nat):Int) (cJ next sz)) name (next%2*16) (cJ next sz)).2
def XW(next:Nat)(x:PS)(e:Nat)(y:PS):Prop:=e=0∧y=(x.1,(next:Int),x.2.2.1,x.2.2.1)
def oM(name:ByteArray)(next sz:Nat):List (PS→Nat→PS→Prop):=[Gm name,Pa name next sz,Gm name,XW next]
def jK(name:ByteArray)(A:Ab)(x:JN)(e:Nat)(A':Ab)(x':JN):Prop :=
 if x.br then e=10∧A'=A∧x'=x else if x.s=x.c then e=0∧A'=A∧x'=x else if 1073741824≤x.n then e=3∧A'=A∧x'=x
 else ∃y:PS,gy (oM name (x.n.toNat+1) x.s.toNat) (A,x.n,x.s,x.c) e y∧A'=y.1∧x'=⟨y.2.1,y.2.2.1,y.2.2.2,decide (e≠0)⟩
theorem Db(bd jb x1 x3:Nat)(name:ByteArray)(next sz:Nat)(A:Ab)(n s c:Int)(eA:A.writes.length≤1000000000) :
  aD Tryz.prog 138 [ptr x1] ([aC bd A,ag jb (cl [ptr bd,.string name,.int .i64 n,.int .i64 s,.int .i64 c,.bool false] 167),ag x1 (cl [ptr jb] 75),ag x3 (cl [.int .i64 (next:Int)] 3)]) (fun r H=>∃(e:Nat) (A1:Ab),e=(A.sync (isName name) name).1∧A1=(A.sync (isName name) name).2∧r = .int .i64 (e:Int)∧H=[aC bd A1,ag jb (cl [ptr bd,.string name,.int .i64 n,.int .i64 s,.int .i64 c,.bool false] 167),ag x1 (cl [ptr jb] 75),ag x3 (cl [.int .i64 (next:Int)] 3)]):=by
 refine aD.enter Tryz.func138 ak rfl Tryz.ntmps138 zr zr ?_
 intro G F R hE
 refine go ?_
 refine aF (fun w=>Sat G w ([ag jb (cl [ptr bd,.string name,.int .i64 n,.int .i64 s,.int .i64 c,.bool false] 167),ag x1 (cl [ptr jb] 75),ag x3 (cl [.int .i64 (next:Int)] 3)])) (.st 0 (.st 1 (.st 2 (.st 3 (.st 4 (.st 5 (.st 6 (.st 7 (.act 8 (.st 9 .nil)))))))))) rfl ak ak ak (fun w hw=>hw.aX ad) ?_
 refine go ?_
 ((refine ah rfl rfl rfl rfl (sg bd A name eA) ad ?_ (fun _ _ w hp hw=>by obtain⟨rfl,rfl⟩:=hp;exact hw.aX ad)))
 rintro _ _⟨rfl,rfl⟩
 refine go ?_
 ((refine ae hE Tryz.func138 rfl _ rfl ⟨_,_,rfl,rfl,rfl,rfl⟩ ad))
theorem C9(bd jb x1 x3:Nat)(name:ByteArray)(next sz:Nat)(A:Ab)(n s c:Int)(eA:A.writes.length≤1000000000) :
  aD Tryz.prog 141 [ptr x1] ([aC bd A,ag jb (cl [ptr bd,.string name,.int .i64 n,.int .i64 s,.int .i64 c,.bool false] 167),ag x1 (cl [ptr jb] 75),ag x3 (cl [.int .i64 (next:Int)] 3)]) (fun r H=>∃(e:Nat) (A1:Ab),e=(A.sync (isName name) name).1∧A1=(A.sync (isName name) name).2∧r = .int .i64 (e:Int)∧H=[aC bd A1,ag jb (cl [ptr bd,.string name,.int .i64 n,.int .i64 s,.int .i64 c,.bool false] 167),ag x1 (cl [ptr jb] 75),ag x3 (cl [.int .i64 (next:Int)] 3)]):=by
 refine aD.enter Tryz.func141 ak rfl Tryz.ntmps141 zr zr ?_
 intro G F R hE
 refine go ?_
 refine aF (fun w=>Sat G w ([ag jb (cl [ptr bd,.string name,.int .i64 n,.int .i64 s,.int .i64 c,.bool false] 167),ag x1 (cl [ptr jb] 75),ag x3 (cl [.int .i64 (next:Int)] 3)])) (.st 0 (.st 1 (.st 2 (.st 3 (.st 4 (.st 5 (.st 6 (.st 7 (.act 8 (.st 9 .nil)))))))))) rfl ak ak ak (fun w hw=>hw.aX ad) ?_
 refine go ?_
 ((refine ah rfl rfl rfl rfl (sg bd A name eA) ad ?_ (fun _ _ w hp hw=>by obtain⟨rfl,rfl⟩:=hp;exact hw.aX ad)))
 rintro _ _⟨rfl,rfl⟩
 refine go ?_
 ((refine ae hE Tryz.func141 rfl _ rfl ⟨_,_,rfl,rfl,rfl,rfl⟩ ad))
theorem Da(bd jb x1 x3:Nat)(name:ByteArray)(next sz:Nat)(pF:next≤2000000000)(g8:sz≤2000000000)(A:Ab)(n c:Int)(eA:A.writes.length≤1000000000) :
  aD Tryz.prog 139 [ptr x1,ptr x3] ([aC bd A,ag jb (cl [ptr bd,.string name,.int .i64 n,.int .i64 (sz:Int),.int .i64 c,.bool false] 167),ag x1 (cl [ptr jb] 75),ag x3 (cl [.int .i64 (next:Int)] 3)]) (fun r H=>∃(e:Nat) (A1:Ab),e=(A.write (fL name ((next%2*16:Nat):Int) (cJ next sz)) name (next%2*16) (cJ next sz)).1∧A1=(A.write (fL name ((next%2*16:Nat):Int) (cJ next sz)) name (next%2*16) (cJ next sz)).2∧r = .int .i64 (e:Int)∧H=[aC bd A1,ag jb (cl [ptr bd,.string name,.int .i64 n,.int .i64 (sz:Int),.int .i64 c,.bool false] 167),ag x1 (cl [ptr jb] 75),ag x3 (cl [.int .i64 (next:Int)] 3)]):=by
 refine aD.enter Tryz.func139 ak rfl Tryz.ntmps139 zr zr ?_
 intro G F R hE
 refine go ?_
 refine aF (fun w=>Sat G w ([ag jb (cl [ptr bd,.string name,.int .i64 n,.int .i64 (sz:Int),.int .i64 c,.bool false] 167),ag x1 (cl [ptr jb] 75),ag x3 (cl [.int .i64 (next:Int)] 3)])) (.st 0 (.st 1 (.st 2 (.st 3 (.st 4 (.st 5 (.st 6 (.st 7 (.st 8 (.st 9 (.st 10 (.st 11 (.st 12 (.st 13 (.st 14 (.st 15 (.act 16 (.act 17 (.st 18 .nil))))))))))))))))))) rfl ak ak ak (fun w hw=>hw.aX ad) ?_
 refine go ?_
 refine nI zr zr zr ai ai ?_
 refine aB 12 (.int .i64 ((next%2:Nat):Int)) rfl (congrArg (Value.int .i64) ai) ?_
 refine go ?_
 refine gi zr zr zr (by simp only[fz];omega) ?_
 refine aB 13 (.int .i64 ((next%2*16:Nat):Int)) rfl (congrArg (Value.int .i64) ai) ?_
 refine go ?_
 ((refine ah rfl rfl rfl rfl (vX next sz ai ai) ad ?_ (fun _ _ w hp hw=>by obtain rfl:=hp;exact hw.aX ad)))
 rintro _ _ rfl
 ((refine aM 0 rfl ?_))
 rintro ra rc rfl
 refine fG (bs:=cJ next sz) 0 rfl ?_
 intro Jt
 have zR:=sf bd A name ((next%2*16:Nat):Int) _ _ (cJ next sz) Jt.1 eA (by rw[mG];omega) ai
 rw[Int.toNat_natCast]at zR
 ((refine ah rfl rfl rfl rfl (zR) ad ?_ (fun _ _ w hp hw=>by obtain⟨rfl,rfl⟩:=hp;exact hw.aX ad)))
 rintro _ _⟨rfl,rfl⟩
 refine go ?_
 ((refine ae hE Tryz.func139 rfl _ rfl ⟨_,_,rfl,rfl,rfl,rfl⟩ ad))
def Zr(jb:Nat)(s:Int):HP:=fun h=>∃bd name n c br,ag jb (cl [ptr bd,.string name,.int .i64 n,.int .i64 s,.int .i64 c,.bool br] 167) h
theorem KK(jb bd:Nat)(name:ByteArray)(n s c:Int)(br:Bool)(H:List HP):aq (ag jb (cl [ptr bd,.string name,.int .i64 n,.int .i64 s,.int .i64 c,.bool br] 167)::H) (Zr jb s::H) :=
 aq.fold (B:=[_]) fun h' hs=>⟨h',sub.refl h',bd,name,n,c,br,ed hs⟩
end Go.Proofs.YthjbidjmgbjkiaaGreatDoor
namespace Go.Proofs.YthjbidjmgbjkiaaGreatDoor
open Go Go.SL
theorem KL{G:cm}{w:World}{jb:Nat}{s:Int}{H:List HP}(hw:Sat G w (Zr jb s::H)):w.cell? ⟨jb,3,none⟩=some (.int .i64 s):=by
 obtain⟨h,hh,bd,name,n,c,br,hA⟩:=hw.j7 (i:=0) rfl
 have hb:h jb=some (cl [ptr bd,.string name,.int .i64 n,.int .i64 s,.int .i64 c,.bool br] 167):=by rw[hA jb,if_pos rfl]
 exact dw hh (by unfold cZ;rw[hb];rfl)
attribute [local irreducible] J K aD Ends ag az aL bK aZ aQ aV bg bQ aC
theorem C8(bd jb x1 x3:Nat)(name:ByteArray)(next sz:Nat)(A:Ab)(n s c:Int) :
  aD Tryz.prog 142 [ptr x3,ptr x1] ([aC bd A,ag jb (cl [ptr bd,.string name,.int .i64 n,.int .i64 s,.int .i64 c,.bool false] 167),ag x1 (cl [ptr jb] 75),ag x3 (cl [.int .i64 (next:Int)] 3)]) (fun r H=>r = .int .i64 0∧H=[aC bd A,ag jb (cl [ptr bd,.string name,.int .i64 (next:Int),.int .i64 s,.int .i64 s,.bool false] 167),ag x1 (cl [ptr jb] 75),ag x3 (cl [.int .i64 (next:Int)] 3)]):=by
 refine aD.enter Tryz.func142 ak rfl Tryz.ntmps142 zr zr ?_
 intro G F R hE
 refine go ?_
 refine aF (fun w=>Sat G w [Zr jb s,ag x1 (cl [ptr jb] 75),ag x3 (cl [.int .i64 (next:Int)] 3)]) (.st 0 (.st 1 (.st 2 (.st 3 (.st 4 (.st 5 (.st 6 (.st 7 (.st 8 (.act 9 (.st 10 (.st 11 (.act 12 .nil))))))))))))) rfl ak ak ak (fun w hw=>hw.aX (aq.trans ad (KK jb bd name _ s _ _ _))) ?_
 refine go ?_
 refine aJ ?_
 refine lX (U:=ao) zr zr (fun w hw=>KL hw) zr zr ?_
 refine go ?_
 refine aS ?_
 refine bI (U:=ao) 1 (fun w hw=>by exact hw.aX (aq.trans ad (KK jb bd name _ s _ _ _))) zr zr zr zr zr zr zr zr zr ?_
 refine go ?_
 ((refine ae hE Tryz.func142 rfl _ rfl ⟨rfl,rfl⟩ ad))
theorem I6(bd jb x1 x3:Nat)(name:ByteArray)(next sz:Nat)(i:Nat)(hi:i≤10)(x:PS)(hq:CQ sz i x) :
  aD Tryz.prog 138 [ptr x1] [CI bd jb x1 x3 name next sz x] (fun r H=>∃(e:Nat) (x':PS),r = .int .i64 (e:Int)∧H=[CI bd jb x1 x3 name next sz x']∧Gm name x e x'∧(e=0→CQ sz (i+1) x')):=by
 obtain⟨A,n,s,c⟩:=x
 have h0:=hq.1
 simp only at h0
 subst h0
 exact(Db bd jb x1 x3 name next sz A n (sz:Int) c (by have:=hq.2.2;simp only at this;omega)).conv (aq.kP _) (by
  rintro v H⟨e,A1,he,rO,rfl,rfl⟩
  exact⟨_,⟨_,(A1,n,(sz:Int),c),rfl,rfl,⟨⟨he,rO⟩,rfl⟩,fun _=>hq.next (rO ▸ jA _ _ _)⟩,aq.kX _⟩)
theorem I4(bd jb x1 x3:Nat)(name:ByteArray)(next sz:Nat)(i:Nat)(hi:i≤10)(x:PS)(hq:CQ sz i x) :
  aD Tryz.prog 141 [ptr x1] [CI bd jb x1 x3 name next sz x] (fun r H=>∃(e:Nat) (x':PS),r = .int .i64 (e:Int)∧H=[CI bd jb x1 x3 name next sz x']∧Gm name x e x'∧(e=0→CQ sz (i+1) x')):=by
 obtain⟨A,n,s,c⟩:=x
 have h0:=hq.1
 simp only at h0
 subst h0
 exact(C9 bd jb x1 x3 name next sz A n (sz:Int) c (by have:=hq.2.2;simp only at this;omega)).conv (aq.kP _) (by
  rintro v H⟨e,A1,he,rO,rfl,rfl⟩
  exact⟨_,⟨_,(A1,n,(sz:Int),c),rfl,rfl,⟨⟨he,rO⟩,rfl⟩,fun _=>hq.next (rO ▸ jA _ _ _)⟩,aq.kX _⟩)
theorem I5(bd jb x1 x3:Nat)(name:ByteArray)(next sz:Nat)(i:Nat)(hi:i≤10)(pF:next≤2000000000)(g8:sz≤2000000000)(x:PS)(hq:CQ sz i x) :
  aD Tryz.prog 139 [ptr x1,ptr x3] [CI bd jb x1 x3 name next sz x] (fun r H=>∃(e:Nat) (x':PS),r = .int .i64 (e:Int)∧H=[CI bd jb x1 x3 name next sz x']∧Pa name next sz x e x'∧(e=0→CQ sz (i+1) x')):=by
 obtain⟨A,n,s,c⟩:=x
 have h0:=hq.1
 simp only at h0
 subst h0
 exact(Da bd jb x1 x3 name next sz pF g8 A n c (by have:=hq.2.2;simp only at this;omega)).conv (aq.kP _) (by
  rintro v H⟨e,A1,he,rO,rfl,rfl⟩
  exact⟨_,⟨_,(A1,n,(sz:Int),c),rfl,rfl,⟨⟨he,rO⟩,rfl⟩,fun _=>hq.next (rO ▸ jz _ _ _ _ _)⟩,aq.kX _⟩)
theorem I3(bd jb x1 x3:Nat)(name:ByteArray)(next sz:Nat)(i:Nat)(hi:i≤10)(x:PS)(hq:CQ sz i x) :
  aD Tryz.prog 142 [ptr x3,ptr x1] [CI bd jb x1 x3 name next sz x] (fun r H=>∃(e:Nat) (x':PS),r = .int .i64 (e:Int)∧H=[CI bd jb x1 x3 name next sz x']∧XW next x e x'∧(e=0→CQ sz (i+1) x')):=by
 obtain⟨A,n,s,c⟩:=x
 have h0:=hq.1
 simp only at h0
 subst h0
 exact(C8 bd jb x1 x3 name next sz A n (sz:Int) c).conv (aq.kP _) (by
  rintro v H⟨rfl,rfl⟩
  exact⟨_,⟨_,(A,(next:Int),(sz:Int),(sz:Int)),(by exact(congrArg (Value.int .i64) (show(0:Int)=((0:Nat):Int)from rfl))),rfl,⟨rfl,rfl⟩,fun _=>⟨rfl,by have:=hq.2.1;simp only at this ⊢;omega,by have:=hq.2.2;simp only at this ⊢;omega⟩⟩,aq.kX _⟩)
set_option maxRecDepth 20000 in
theorem Fj(jb bd:Nat)(name:ByteArray)(A:Ab)(x:JN)(hn:0≤x.n)(hs:0≤x.s∧x.s≤1000000000)(cE:A.aH.length≤900000000)(zR:A.writes.length≤900000000) :
  aD Tryz.prog 82 [ptr jb] [aC bd A,oz jb bd name x]
   (fun r H=>∃(e:Nat) (A':Ab) (x':JN),r = .int .i64 (e:Int)∧H=[aC bd A',oz jb bd name x']∧jK name A x e A' x'):=by
 obtain⟨n,s,c,br⟩:=x
 simp only at hs hn
 dsimp only [oz,jr]
 refine aD.enter Tryz.func82 ak rfl Tryz.ntmps82 zr zr ?_
 intro G F R hE
 refine go ?_
 refine bq zr zr bp ?_
 intro x1
 cases br with
 | true =>
  refine go ?_
  ((refine ae hE Tryz.func82 rfl _ rfl ⟨10,A,⟨n,s,c,true⟩,rfl,rfl,(by unfold jK;rw[if_pos rfl];exact⟨rfl,rfl,rfl⟩)⟩ ad))
 | false =>
  refine go ?_
  refine aF (fun w=>Sat G w ([ag x1 (cl [ptr jb] 75),ag jb (cl [ptr bd,.string name,.int .i64 n,.int .i64 s,.int .i64 c,.bool false] 167)])) (.st 0 (.st 1 (.st 2 (.st 3 (.st 4 (.st 5 (.st 6 (.st 7 (.st 8 (.st 9 .nil)))))))))) rfl ak ak ak (fun w hw=>hw.aX ad) ?_
  refine go ?_
  refine aw zr zr ?_ ?_
  ·intro heq
   refine go ?_
   ((refine ae hE Tryz.func82 rfl _ rfl ⟨0,A,⟨n,s,c,false⟩,rfl,rfl,(by unfold jK;rw[if_neg (by simp),if_pos heq];exact⟨rfl,rfl,rfl⟩)⟩ ad))
  intro ct
  refine go ?_
  refine aw zr zr ?_ ?_
  ·intro rL
   refine go ?_
   ((refine ae hE Tryz.func82 rfl _ rfl ⟨3,A,⟨n,s,c,false⟩,rfl,rfl,(by unfold jK;rw[if_neg (by simp),if_neg ct,if_pos rL];exact⟨rfl,rfl,rfl⟩)⟩ ad))
  intro rF
  obtain⟨sz,rfl⟩:∃sz:Nat,s=(sz:Int):=⟨s.toNat,ai⟩
  obtain⟨nx,pF⟩:∃nx:Nat,n+1=(nx:Int):=⟨n.toNat+1,ai⟩
  refine go ?_
  refine aB 29 (.int .i64 (nx:Int)) rfl (congrArg (Value.int .i64) pF) ?_
  refine aN (U:=ao) zr zr zr bp ?_
  intro x3
  refine go ?_
  refine aF (fun w=>Sat G w ([ag x1 (cl [ptr jb] 75)])) (.st 0 (.st 1 (.st 2 (.st 3 (.st 4 (.act 5 (.act 6 (.act 7 (.st 8 .nil))))))))) rfl ak ak ak (fun w hw=>hw.aX ad) ?_
  refine go ?_
  have tn:∀(i:Nat) (fv:Value) (s:PS→Nat→PS→Prop),([.func (.func 138) #[] #[ptr x1],.func (.func 139) #[] #[ptr x1,ptr x3],.func (.func 141) #[] #[ptr x1],.func (.func 142) #[] #[ptr x3,ptr x1] ]:List Value)[i]?=some fv→(oM name nx sz)[i]?=some s→∃g fi cap,fv = .func (.func g) fi cap∧∀x,CQ sz i x→aD Tryz.prog g (fi.toList++cap.toList) [CI bd jb x1 x3 name nx sz x] (fun r H=>∃(e:Nat) (x':PS),r = .int .i64 (e:Int)∧H=[CI bd jb x1 x3 name nx sz x']∧s x e x'∧(e=0→CQ sz (i+1) x')):=by
   intro i f1 s1 h1 h2
   match i,h1,h2 with
   | 0,h1,h2=>cases h1;cases h2;exact⟨_,_,_,rfl,fun x hq=>I6 bd jb x1 x3 name nx sz 0 ai x hq⟩
   | 1,h1,h2=>cases h1;cases h2;exact⟨_,_,_,rfl,fun x hq=>I5 bd jb x1 x3 name nx sz 1 ai ai ai x hq⟩
   | 2,h1,h2=>cases h1;cases h2;exact⟨_,_,_,rfl,fun x hq=>I4 bd jb x1 x3 name nx sz 2 ai x hq⟩
   | 3,h1,h2=>cases h1;cases h2;exact⟨_,_,_,rfl,fun x hq=>I3 bd jb x1 x3 name nx sz 3 ai x hq⟩
   | k+4,h1,h2=>simp at h1
  refine au (U:=ao) (cs:=[.func (.func 138) #[] #[ptr x1],.func (.func 139) #[] #[ptr x1,ptr x3],.func (.func 141) #[] #[ptr x1],.func (.func 142) #[] #[ptr x3,ptr x1] ]) zr zr zr zr zr zr zr zr zr (fun _ w hw=>by exact hw.aX ad) ?_
  intro row
  have fO:=Gq (CI bd jb x1 x3 name nx sz) (ag row (cl ([.func (.func 138) #[] #[ptr x1],.func (.func 139) #[] #[ptr x1,ptr x3],.func (.func 141) #[] #[ptr x1],.func (.func 142) #[] #[ptr x3,ptr x1] ]) 86)) (.slice (some ⟨row,0,none⟩) 4 4) ([.func (.func 138) #[] #[ptr x1],.func (.func 139) #[] #[ptr x1,ptr x3],.func (.func 141) #[] #[ptr x1],.func (.func 142) #[] #[ptr x3,ptr x1] ]) (Vw.ag rfl) (by show 4≤_;omega) (oM name nx sz) rfl (CQ sz) tn (A,n,(sz:Int),c) ⟨rfl,by simp only;omega,by simp only;omega⟩
  refine ah zr zr zr zr fO (aq.trans ad (aq.cons _ (aq.bL ([aC bd A,ag jb (cl [ptr bd,.string name,.int .i64 n,.int .i64 (sz:Int),.int .i64 c,.bool false] 167),ag x1 (cl [ptr jb] 75),ag x3 (cl [.int .i64 (nx:Int)] 3)]) _))) ?_ (fun _ _ w hp hw=>by
   obtain⟨e,y,rfl,rfl,hr⟩:=hp
   exact hw.aX (aq.trans (aq.trans (aq.pick [1] rfl) (aq.cg ([aC bd y.1,ag jb (cl [ptr bd,.string name,.int .i64 y.2.1,.int .i64 y.2.2.1,.int .i64 y.2.2.2,.bool false] 167),ag x1 (cl [ptr jb] 75),ag x3 (cl [.int .i64 (nx:Int)] 3)]) _)) ad))
  rintro _ _⟨e,y,rfl,rfl,hr⟩
  refine aG (aq.trans (aq.pick [1] rfl) (aq.cg ([aC bd y.1,ag jb (cl [ptr bd,.string name,.int .i64 y.2.1,.int .i64 y.2.2.1,.int .i64 y.2.2.2,.bool false] 167),ag x1 (cl [ptr jb] 75),ag x3 (cl [.int .i64 (nx:Int)] 3)]) _)) ?_
  refine ah rfl rfl rfl rfl (qE jb bd name y.2.1 y.2.2.1 y.2.2.2 false e) ad ?_ (fun _ _ w hp hw=>by obtain⟨rfl,rfl⟩:=hp;exact hw.aX ad)
  rintro _ _⟨rfl,rfl⟩
  unfold jr
  refine go ?_
  ((refine ae hE Tryz.func82 rfl _ rfl ⟨e,y.1,⟨y.2.1,y.2.2.1,y.2.2.2,decide (e≠0)⟩,rfl,rfl,(by unfold jK;rw[if_neg (by simp),if_neg ct,if_neg rF];exact⟨y,(by simp only[Int.toNat_natCast];rw[show n.toNat+1=nx from by omega];exact hr),rfl,rfl⟩)⟩ ad))
end Go.Proofs.YthjbidjmgbjkiaaGreatDoor
namespace Go.Proofs.YthjbidjmgbjkiaaGreatDoor
open Go Go.SL
theorem n7:∀(f:Nat) (bs:List UInt8),((eX f bs).flatMap cy).length≤2*bs.length∧(eX f bs).length≤bs.length∧∀x∈eX f bs,x.length≤4096
 | 0,bs=>by simp[eX]
 | f+1,bs=>by
  unfold eX
  split
  ·simp
  ·rename_i k n hl
   have hp:=pz hl
   split
   ·rename_i hb
    obtain⟨h1,h2,h3⟩:=n7 f (bs.drop (k+n))
    have hx:((bs.drop k).take n).length=n:=by rw[List.length_take,List.length_drop];omega
    have he:(cy ((bs.drop k).take n)).length≤n+2:=by
     have:=u4 1 n (by have:=hp.2.2.2;omega)
     simp only[cy,List.length_append,hx];omega
    rw[List.length_drop]at h1 h2
    simp only[List.flatMap_cons,List.length_append,List.length_cons]
    refine⟨ai,ai,fun x hm=>?_⟩
    rcases List.mem_cons.1 hm with rfl|hm
    ·rw[hx];omega
    ·exact h3 x hm
   ·simp
theorem n8(bs:List UInt8):((bU bs).flatMap cy).length≤2*bs.length∧(bU bs).length≤bs.length∧∀x∈bU bs,x.length≤4096:=n7 _ bs
def sl(M:fH)(cs:List Value)(ls:List (List UInt8)):Prop:=cs.length=ls.length∧∀(j:Nat) (y:List UInt8),ls[j]?=some y→∃cv,cs[j]?=some cv∧AO M 1 cv y.length (bV y)
def LI(lb:Nat)(ls:List (List UInt8)):HP:=fun h=>∃x:Value × List Value × fH,sl x.2.2 x.2.1 ls∧Sep [ag lb (cl [x.1] 113),az 39 1 x.1 ls.length x.2.1,aV 5 x.2.2] h
theorem wK(e:TypeId)(H:List HP):aq H (aV e []::H):=aq.oQ H
theorem Mh(lb:Nat)(a:Option Addr)(H:List HP):aq (ag lb (cl [.slice a 0 0] 113)::H) (LI lb []::H):=by
 have h1:aq (ag lb (cl [.slice a 0 0] 113)::H) ([ag lb (cl [.slice a 0 0] 113),az 39 1 (.slice a 0 0) 0 [],aV 5 [] ]++H) :=
  aq.cons _ ((bw 39 1 a H).trans (aq.cons _ (wK 5 H)))
 exact h1.trans (aq.fold fun h hs=>⟨h,sub.refl h,(.slice a 0 0,[],[]),⟨rfl,fun j y hj=>by simp at hj⟩,hs⟩)
theorem Om(lb:Nat)(ls:List (List UInt8))(x:List UInt8)(v rv:Value)(cs:List Value)(M M':fH)(hR:sl M cs ls)(hr:AO M' 1 rv x.length (bV x))(hs:∀y∈M,y∈M')(H:List HP) :
  aq (ag lb (cl [v] 113)::az 39 1 v (ls.length+1) (cs++[rv])::aV 5 M'::H) (LI lb (ls++[x])::H):=by
 refine aq.fold (B:=[ag lb (cl [v] 113),az 39 1 v (ls.length+1) (cs++[rv]),aV 5 M']) fun h hp=>⟨h,sub.refl h,(v,cs++[rv],M'),⟨by simp[hR.1],fun j y hj=>?_⟩,by simp only[List.length_append,List.length_singleton];exact hp⟩
 simp only
 rw[List.getElem?_append]at hj ⊢
 rw[hR.1]
 split at hj
 ·rename_i cO
  obtain⟨cv,h1,h2⟩:=hR.2 j y hj
  rw[if_pos cO]
  exact⟨cv,h1,h2.mono hs⟩
 ·rename_i eQ
  rw[if_neg eQ]
  have h0:j-ls.length=0:=by
   rcases Nat.eq_zero_or_pos (j-ls.length)with h|h
   ·exact h
   ·rw[List.getElem?_eq_none (by simp;omega)]at hj;cases hj
  rw[h0]at hj ⊢
  cases hj
  exact⟨rv,rfl,hr⟩
theorem Gv(lb:Nat)(ls:List (List UInt8)):∀h,LI lb ls h→∃x:Value × List Value × fH,sl x.2.2 x.2.1 ls∧Sep [ag lb (cl [x.1] 113),az 39 1 x.1 ls.length x.2.1,aV 5 x.2.2] h:=fun h hs=>hs
def tX(v:Value)(ls:List (List UInt8)):HP:=fun h=>∃x:List Value × fH,sl x.2 x.1 ls∧Sep [az 39 1 v ls.length x.1,aV 5 x.2] h
theorem KD{v:Value}{ls:List (List UInt8)}{cs:List Value}{M:fH}(hR:sl M cs ls)(H:List HP):aq (az 39 1 v ls.length cs::aV 5 M::H) (tX v ls::H) :=
 aq.fold (B:=[az 39 1 v ls.length cs,aV 5 M]) fun h hp=>⟨h,sub.refl h,(cs,M),hR,hp⟩
theorem Ei(v:Value)(ls:List (List UInt8)):∀h,tX v ls h→∃x:List Value × fH,sl x.2 x.1 ls∧Sep [az 39 1 v ls.length x.1,aV 5 x.2] h:=fun h hs=>hs
theorem sl.lat{v:Value}{ls:List (List UInt8)}{cs:List Value}{M:fH}(hR:sl M cs ls)(h0:∃h,az 39 1 v ls.length cs h):qi (Sep [az 39 1 v ls.length cs,aV 5 M]) v ls:=by
 have hv:=Vw.oh 39 1 v ls.length cs h0
 refine⟨cs,hv.mono (aW (i:=0) rfl),hR.1,?_,fun i x hx=>?_⟩
 ·obtain⟨h,hl,⟨a,rfl,hn,_⟩|⟨b,o,cap,pre,bM,rfl,hp,hn,hc,_⟩⟩:=h0
  ·exact⟨a,0,by rw[hn],ai⟩
  ·exact⟨_,cap,rfl,hn⟩
 ·obtain⟨cv,h1,h2⟩:=hR.2 i x hx
  obtain⟨a,c,tm,hc⟩:=h2.shape
  exact⟨cv,h1,(h2.view 5).mono (aW (i:=1) rfl),a,c,tm,hc⟩
section
variable{P:Program}{f:FuncId}{n:Nat}{R:Ending→World→Prop}{G:cm}{k:List Item}{L:eN}{H:List HP}
theorem Pe{v:Value}{ls:List (List UInt8)}{cs:List Value}{M:fH}(i:Nat)(hR:sl M cs ls)(hi:cf H i=some (az 39 1 v ls.length cs))(h:qi (Sep [az 39 1 v ls.length cs,aV 5 M]) v ls→K P f n R G k L H):K P f n R G k L H :=
 qj fun⟨w,hw⟩=>by
  obtain⟨h1,_,hA⟩:=hw.j7 hi
  exact h (hR.lat ⟨h1,hA⟩)
theorem X8{bd:Nat}{A:Ab}(i:Nat)(hi:cf H i=some (aC bd A))(h:(∃D,Rel D A)→K P f n R G k L H):K P f n R G k L H :=
 qj fun⟨w,hw⟩=>by
  obtain⟨h1,_,D,hR,_⟩:=hw.j7 hi
  exact h ⟨D,hR⟩
end
theorem Bo(A:Ab)(hR:∃D,Rel D A)(name:ByteArray)(at_ n:Int):(A.read name at_ n).1.length≤1048576:=by
 obtain⟨D,hR⟩:=hR
 unfold Ab.read
 split
 ·simp
 split
 ·simp
 ·rename_i f hf
  split
  ·simp
  ·have h1:(A.now f).length≤1048576:=by
    unfold Ab.now Ab.file
    cases h:A.fs.find? (fun x=>decide (x.1=f))with
    | none=>simp
    | some x =>
     have:=hR.gl x (List.mem_of_find?_eq_some h)
     simpa using this.1
   rw[List.length_take,List.length_drop];omega
end Go.Proofs.YthjbidjmgbjkiaaGreatDoor
namespace Go.Proofs.YthjbidjmgbjkiaaGreatDoor
open Go Go.SL
attribute [local irreducible] J K aD Ends ag az aL bK aZ aQ aV bg bQ aC LI tX
def iG(A:Ab)(name:ByteArray):List (List UInt8):=bU (fj (A.read name 0 (A.size name).1).1)
def oS(A:Ab)(name:ByteArray)(e:Nat)(A':Ab)(x:JN):Prop :=
 if ¬(isName name=true∧isName (bN name)=true)then e=1∧A'=A else if A.off then e=7∧A'=A
 else ∃y:PS,E5 name (iG A name) (A,0,0,0) e y∧A'=y.1∧x=⟨y.2.1,y.2.2.1,y.2.2.2,false⟩
set_option maxRecDepth 20000 in
theorem Mb(bd:Nat)(name:ByteArray)(A:Ab)(F6:name.size≤1000000000)(cE:A.aH.length≤900000000)(zR:A.writes.length≤900000000) :
  aD Tryz.prog 64 [ptr bd,.string name] [aC bd A]
   (fun r H=>∃(e:Nat) (A':Ab) (x:JN),oS A name e A' x∧((e≠0∧r = .tuple #[.pointer none,.slice none 0 0,.int .i64 (e:Int)]∧H=[aC bd A']) ∨
    (e=0∧∃jb lv,r = .tuple #[ptr jb,lv,.int .i64 0]∧H=[aC bd A',oz jb bd name x,tX lv (iG A name)]))):=by
 refine aD.enter Tryz.func64 ak rfl Tryz.ntmps64 zr zr ?_
 intro G F R hE
 refine X8 0 rfl ?_
 intro aaZ
 refine go ?_
 ((refine ah zr zr zr zr (FQ name) ad ?_ bE))
 rintro _ _⟨rfl,rfl⟩
 cases h1:isName name with
 | false =>
  refine go ?_
  ((refine ae hE Tryz.func64 rfl _ rfl ⟨1,A,⟨0,0,0,false⟩,(by unfold oS;rw[if_pos (by simp[h1])];exact⟨rfl,rfl⟩),.inl ⟨ai,rfl,rfl⟩⟩ ad))
 | true =>
 refine go ?_
 refine wX zr zr zr (by show name.size+4≤_;omega) ?_
 refine aB 25 (.string (bN name)) zr zr ?_
 ((refine go ?_;(refine ah zr zr zr zr (FQ (bN name)) ad ?_ bE)))
 rintro _ _⟨rfl,rfl⟩
 cases h2:isName (bN name)with
 | false =>
  refine go ?_
  ((refine ae hE Tryz.func64 rfl _ rfl ⟨1,A,⟨0,0,0,false⟩,(by unfold oS;rw[if_pos (by simp[h2])];exact⟨rfl,rfl⟩),.inl ⟨ai,rfl,rfl⟩⟩ ad))
 | true =>
 refine go ?_
 ((refine ah zr zr zr zr (Md bd A) ad ?_ bE))
 rintro _ _⟨rfl,rfl⟩
 cases h3:A.off with
 | true =>
  refine go ?_
  ((refine ae hE Tryz.func64 rfl _ rfl ⟨7,A,⟨0,0,0,false⟩,(by unfold oS;rw[if_neg (by simp[h1,h2]),if_pos h3];exact⟨rfl,rfl⟩),.inl ⟨ai,rfl,rfl⟩⟩ ad))
 | false =>
 refine go ?_
 ((refine ah zr zr zr zr (sh bd A name) ad ?_ bE))
 rintro _ _⟨rfl,rfl⟩
 refine go ?_
 ((refine ah zr zr zr zr (As bd A name 0 (A.size name).1) ad ?_ bE))
 rintro _ _⟨rb,rfl,rfl⟩
 have HR:=Bo A aaZ name 0 (A.size name).1
 obtain⟨B,hB⟩:∃B,B=(A.read name 0 (A.size name).1).1:=⟨_,rfl⟩
 rw[← hB]at HR ⊢
 refine go ?_
 ((refine aM 1 rfl ?_))
 rintro ra rc rfl
 refine fG (bs:=B) 1 rfl ?_
 intro Jt
 refine aN (U:=ao) zr zr zr bp ?_
 intro lb
 refine go ?_
 ((refine ah zr zr zr zr (Ik _ _ B Jt ai) ad ?_ bE))
 rintro fv _⟨hbf,rfl⟩
 obtain⟨fa,fc,rfl,hfc⟩:=hbf.2
 ((refine ah zr zr zr zr (Bi fa (fj B).length fc) ad ?_ bE))
 rintro _ _⟨bx,rfl,rfl⟩
 have qS:(fj B).length≤1048576:=by
  unfold fj
  split
  ·simp
  ·rw[List.length_take,List.length_drop];omega
 refine go ?_
 obtain⟨rs,F0⟩:∃rs,rs=bU (fj B):=⟨_,rfl⟩
 have AM:=n8 (fj B)
 rw[← F0]at AM
 refine gL rfl ?_
 refine aj (aq.trans (aq.pick [2] rfl) (Mh lb none _)) ?_
 refine uU (Fr:=aC bd A::F) (Pre:=fun _ _=>[ag bx (cl [.slice fa (fj B).length fc] 39),az 5 1 (.slice ra B.length rc) B.length (bV B),LI lb [] ]) (Post:=?Po) rfl hE.1.1 rfl ?c (fun l r=>ad) ?fN
 case c =>
  intro l r
  refine zC (az 5 1 (.slice ra B.length rc) B.length (bV B)) l bx _ (fj B) hbf ai _ (fun i=>LI lb ((bU (fj B)).take i)) ?_
  intro i x hx rv
  refine bQ.BA zr zr ?_
  intro G2 F2 R2 hY
  have kp:i<(bU (fj B)).length:=(List.getElem?_eq_some_iff.1 hx).1
  have uz:=(n8 (fj B)).2.1
  have iZ:(bU (fj B)).take (i+1)=(bU (fj B)).take i++[x]:=by rw[List.take_add_one,hx];rfl
  have rE:((bU (fj B)).take i).length≤(fj B).length:=by rw[List.length_take];omega
  simp only[iZ]at hY
  generalize (bU (fj B)).take i=ts at rE hY ⊢
  refine go ?_
  refine e8 rfl hY ?_
  refine aj (aq.pick [1] rfl) ?_
  refine dM (Gv lb ts) ?_
  rintro⟨lv,cs,M⟩ hR
  refine aj (aq.trans (aq.pick [4,2] rfl) (aq.join _ _ _)) ?_
  refine dM (Be 5 1 x.length rv (bV x) M) ?_
  rintro M'⟨MG,dH⟩
  obtain⟨xa,xc,rfl,ZG⟩:=MG.shape
  refine db 2 rfl ?_
  intro la lc OV
  simp only at OV
  subst OV
  refine go ?_
  refine au (U:=ao) zr zr zr zr zr zr zr zr zr bp ?_
  intro row
  refine go ?_
  refine bh (U:=ao) (mm:=1) (news:=[.slice xa x.length xc]) 3 0 zr zr zr zr zr zr zr zr zr zr zr zr (Vw.ag rfl) rfl (by simp[Value.oneCell']) ai (by show(_+1)*24≤_;omega) (fun _=>rfl) bp ?_
  intro v1
  ((refine aM 3 rfl ?_))
  rintro va vc rfl
  refine go ?_
  refine aj (aq.trans ad (Om lb ts x _ (.slice xa x.length xc) cs M M' hR MG dH _)) ?_
  refine eK hY rfl ad ⟨rfl,rfl⟩
 intro l r v H eH
 obtain⟨v',rfl⟩:=eH
 refine⟨_,_,_,rfl,by decide,?_⟩
 rw[hE.1.2,List.take_length,← F0]
 refine aj (aq.pick [2] rfl) ?_
 refine dM (Gv lb rs) ?_
 rintro⟨lv,cs,M⟩ hR
 refine db 1 rfl ?_
 intro la lc OV
 simp only at OV
 subst OV
 simp only at hR
 refine Pe 1 hR rfl ?_
 intro lG
 refine go ?_
 refine bq zr zr bp ?_
 intro jb
 refine go ?_
 have rH:=FI jb bd name 0 0 0 false A (Sep [az 39 1 (.slice la rs.length lc) rs.length cs,aV 5 M]) (.slice la rs.length lc) rs lG ai ai F6 cE zR
 refine ah zr zr zr zr rH (aq.trans ad (aq.cons (aC bd A) (aq.cons (jr jb bd name 0 0 0 false) (aq.bL [az 39 1 (.slice la rs.length lc) rs.length cs,aV 5 M] _)))) ?_ bE
 rintro _ _⟨e,y,rfl,rfl,OM⟩
 have yM:iG A name=rs:=by rw[F0,hB];rfl
 have k7:oS A name e y.1 ⟨y.2.1,y.2.2.1,y.2.2.2,false⟩:=by
  unfold oS
  rw[if_neg (by simp[h1,h2]),if_neg (by rw[h3];simp),yM]
  exact⟨y,OM,rfl,rfl⟩
 rw[yM]at hE
 refine go ?_
 refine aw zr zr ?_ ?_
 ·intro ct
  have eP:e≠0:=by omega
  refine go ?_
  refine pP hE Tryz.func64 rfl _ rfl ⟨e,_,_,k7,.inl ⟨eP,rfl,rfl⟩⟩ ad
 ·intro heq
  have nt:e=0:=by omega
  subst nt
  refine go ?_
  refine aF (fun w=>Sat G w ([ag lb (cl [.slice la rs.length lc] 113)])) (.st 0 (.st 1 (.st 2 (.st 3 (.st 4 .nil))))) rfl ak ak ak (fun w hw=>hw.aX ad) ?_
  refine go ?_
  refine aj (aq.trans (aq.pick [2] rfl) (aq.cg [az 39 1 (.slice la rs.length lc) rs.length cs,aV 5 M] _)) ?_
  refine aj (KD hR _) ?_
  refine pP hE Tryz.func64 rfl _ rfl ⟨0,_,_,k7,.inr ⟨rfl,jb,_,rfl,rfl⟩⟩ ad
end Go.Proofs.YthjbidjmgbjkiaaGreatDoor
namespace Go.SL
open Go
abbrev ir:=BitVec 32
def u32(x:ir):Value := .int .u32 (x.toNat:Int)
def wV(l:List ir):List Value:=l.map u32
theorem j4(l:List ir):(wV l).length=l.length:=by simp[wV]
theorem gA{l:List ir}{i:Nat}{x:ir}(h:l[i]?=some x):(wV l)[i]?=some (u32 x):=by simp[wV,h]
theorem u3(l:List ir)(i:Nat)(x:ir):(wV l).set i (u32 x)=wV (l.set i x):=by simp[wV]
def wB(c:UInt8):ir:=BitVec.ofNat 32 c.toNat
theorem ql(c:UInt8):(wB c).toNat=c.toNat:=by
 have:=c.toNat_lt
 simp only[wB,BitVec.toNat_ofNat]
 omega
theorem wrap32(n:Nat):IntKind.u32.wrap (n:Int)=((n%4294967296:Nat):Int):=by
 simp[IntKind.wrap,IntKind.bits,IntKind.signed]
theorem ofInt32(p:ir):BitVec.ofInt IntKind.u32.bits ((p.toNat:Nat):Int)=p:=by
 apply BitVec.eq_of_toNat_eq
 have h:IntKind.u32.bits=32:=rfl
 rw[BitVec.toNat_ofInt]
 have:=p.isLt
 show(((p.toNat:Nat):Int)%((2 ^ 32:Nat):Int)).toNat=p.toNat
 omega
section
variable{P:Program}{U:Tr}[hU:e7 P U]{f:FuncId}{n:Nat}{R:Ending→World→Prop}{G:cm}{k:List Item}{L:eN}{H H':List HP}{S:World→Prop}{all:Array Oper}{rest:Pl}{ty:TypeId}{pos:String}{af:Array Edge}{gd:Option (Nat × Bool)}{m:Bool}{d:Tmp}
theorem iV{t yt:TypeId}{x y:Operand}{p q:ir}(hd:Nat.blt d n=true)(hx:ev L x=some (.int .u32 (p.toNat:Int)))(hy:ev L y=some (.int .u32 (q.toNat:Int)))(h:J P f n R G S all rest k ((d,.int .u32 ((p+q).toNat:Int))::L) H):J P f n R G S all (.cons m true ⟨some d,.binOp .add t x y yt,ty,pos,af,gd⟩ rest) k L H:=by
 refine Mr hd hx hy ?_
 have e:IntKind.u32.wrap ((p.toNat:Int)+(q.toNat:Int))=((p+q).toNat:Int):=by
  rw[← Int.natCast_add,wrap32,BitVec.toNat_add]
 rw[e];exact h
theorem Fc{t yt:TypeId}{x y:Operand}{p q:ir}(hd:Nat.blt d n=true)(hx:ev L x=some (.int .u32 (p.toNat:Int)))(hy:ev L y=some (.int .u32 (q.toNat:Int)))(h:J P f n R G S all rest k ((d,.int .u32 ((p*q).toNat:Int))::L) H):J P f n R G S all (.cons m true ⟨some d,.binOp .mul t x y yt,ty,pos,af,gd⟩ rest) k L H:=by
 refine T' hd hx hy ?_
 have e:IntKind.u32.wrap ((p.toNat:Int)*(q.toNat:Int))=((p*q).toNat:Int):=by
  rw[← Int.natCast_mul,wrap32,BitVec.toNat_mul]
 rw[e];exact h
theorem pb(p:ir):IntKind.u32.wrap (p.toNat:Int)=(p.toNat:Int):=by
 rw[wrap32];have:=p.isLt;congr 1;omega
theorem hG{t yt:TypeId}{x y:Operand}{p q:ir}(hd:Nat.blt d n=true)(hx:ev L x=some (.int .u32 (p.toNat:Int)))(hy:ev L y=some (.int .u32 (q.toNat:Int)))(h:J P f n R G S all rest k ((d,.int .u32 ((p ^^^ q).toNat:Int))::L) H):J P f n R G S all (.cons m true ⟨some d,.binOp .xor t x y yt,ty,pos,af,gd⟩ rest) k L H :=
 cT hd (fun a ha w=>by
  have e:IntKind.u32.wrap ((BitVec.ofInt IntKind.u32.bits (p.toNat:Int) ^^^ BitVec.ofInt IntKind.u32.bits (q.toNat:Int)).toNat:Int)=((p ^^^ q).toNat:Int):=by rw[ofInt32,ofInt32];exact pb (p ^^^ q)
  simp[execOp,ha.ev hx,ha.ev hy,eqGuard,binOp,Op.intBits]
  simpa using e) h
theorem AE{t yt:TypeId}{x y:Operand}{p q:ir}(hd:Nat.blt d n=true)(hx:ev L x=some (.int .u32 (p.toNat:Int)))(hy:ev L y=some (.int .u32 (q.toNat:Int)))(h:J P f n R G S all rest k ((d,.int .u32 ((p &&& q).toNat:Int))::L) H):J P f n R G S all (.cons m true ⟨some d,.binOp .and t x y yt,ty,pos,af,gd⟩ rest) k L H :=
 cT hd (fun a ha w=>by
  have e:IntKind.u32.wrap ((BitVec.ofInt IntKind.u32.bits (p.toNat:Int) &&& BitVec.ofInt IntKind.u32.bits (q.toNat:Int)).toNat:Int)=((p &&& q).toNat:Int):=by rw[ofInt32,ofInt32];exact pb (p &&& q)
  simp[execOp,ha.ev hx,ha.ev hy,eqGuard,binOp,Op.intBits]
  simpa using e) h
theorem CW{t yt:TypeId}{x y:Operand}{p q:ir}(hd:Nat.blt d n=true)(hx:ev L x=some (.int .u32 (p.toNat:Int)))(hy:ev L y=some (.int .u32 (q.toNat:Int)))(h:J P f n R G S all rest k ((d,.int .u32 ((p ||| q).toNat:Int))::L) H):J P f n R G S all (.cons m true ⟨some d,.binOp .or t x y yt,ty,pos,af,gd⟩ rest) k L H :=
 cT hd (fun a ha w=>by
  have e:IntKind.u32.wrap ((BitVec.ofInt IntKind.u32.bits (p.toNat:Int) ||| BitVec.ofInt IntKind.u32.bits (q.toNat:Int)).toNat:Int)=((p ||| q).toNat:Int):=by rw[ofInt32,ofInt32];exact pb (p ||| q)
  simp[execOp,ha.ev hx,ha.ev hy,eqGuard,binOp,Op.intBits]
  simpa using e) h
theorem oX{t yt:TypeId}{x y:Operand}{p:ir}{j':IntKind}{q:Int}(s:Nat)(hd:Nat.blt d n=true)(hx:ev L x=some (.int .u32 (p.toNat:Int)))(hy:ev L y=some (.int j' q))(hq:q=(s:Int))(hs:s≤32)(h:J P f n R G S all rest k ((d,.int .u32 ((p >>> s).toNat:Int))::L) H):J P f n R G S all (.cons m true ⟨some d,.binOp .shr t x y yt,ty,pos,af,gd⟩ rest) k L H:=by
 subst hq
 refine jg hd hx hy ai ?_
 have e:(p.toNat:Int)/2 ^ (min ((s:Int).toNat) IntKind.u32.bits)=((p >>> s).toNat:Int):=by
  rw[BitVec.toNat_ushiftRight,Nat.shiftRight_eq_div_pow,Int.toNat_natCast,show min s IntKind.u32.bits=s from by show min s 32=s;omega]
  simp
 rw[e];exact h
theorem Fa{t yt:TypeId}{x y:Operand}{p:ir}{j':IntKind}{q:Int}(s:Nat)(hd:Nat.blt d n=true)(hx:ev L x=some (.int .u32 (p.toNat:Int)))(hy:ev L y=some (.int j' q))(hq:q=(s:Int))(hs:s≤32)(h:J P f n R G S all rest k ((d,.int .u32 ((p <<< s).toNat:Int))::L) H):J P f n R G S all (.cons m true ⟨some d,.binOp .shl t x y yt,ty,pos,af,gd⟩ rest) k L H:=by
 subst hq
 refine mi hd hx hy ai ?_
 have e:IntKind.u32.wrap ((p.toNat:Int)*2 ^ (min ((s:Int).toNat) IntKind.u32.bits))=((p <<< s).toNat:Int):=by
  rw[BitVec.toNat_shiftLeft,Nat.shiftLeft_eq,Int.toNat_natCast,show min s IntKind.u32.bits=s from by show min s 32=s;omega]
  rw[show(p.toNat:Int)*2 ^ s=((p.toNat*2 ^ s:Nat):Int)from by simp,wrap32]
 rw[e];exact h
theorem T8{t:TypeId}{x:Operand}{p:ir}(hd:Nat.blt d n=true)(hx:ev L x=some (.int .u32 (p.toNat:Int)))(h:J P f n R G S all rest k ((d,.int .u32 ((~~~p).toNat:Int))::L) H):J P f n R G S all (.cons m true ⟨some d,.unOp .xor t x,ty,pos,af,gd⟩ rest) k L H :=
 cT hd (fun a ha w=>by
  have e:IntKind.u32.wrap ((BitVec.ofInt IntKind.u32.bits IntKind.u32.max ^^^ BitVec.ofInt IntKind.u32.bits (p.toNat:Int)).toNat:Int)=((~~~p).toNat:Int):=by
   rw[ofInt32]
   have e1:BitVec.ofInt 32 4294967295 ^^^ p = ~~~p:=by rw[show BitVec.ofInt 32 4294967295=BitVec.allOnes 32 from by decide];exact BitVec.allOnes_xor
   exact(congrArg (fun z:BitVec 32=>IntKind.u32.wrap (z.toNat:Int)) e1).trans (pb (~~~p))
  simp only[execOp,ha.ev hx,Sem.run_bind,Result.andThen_ok,Op.unary,IntKind.signed,Bool.false_eq_true,if_false,Op.intBits]
  simp
  simpa using e) h
theorem oW{src dst:TypeId}{ts td:Ty}{x:Operand}{j':IntKind}{c:UInt8}(hd:Nat.blt d n=true)(hx:ev L x=some (.int .u8 (c.toNat:Int)))(hs:U.get src=some ts)(HO:ts.fK = .int j')(Ib:U.get dst=some td)(Ia:td.fK = .int .u32)(h:J P f n R G S all rest k ((d,.int .u32 ((wB c).toNat:Int))::L) H):J P f n R G S all (.cons m true ⟨some d,.convert src dst x,ty,pos,af,gd⟩ rest) k L H:=by
 refine xe hd hx hs HO Ib Ia (by have:=c.toNat_lt;simp only[fz];omega) ?_
 rw[ql]at h;exact h
theorem zf{src dst:TypeId}{ts td:Ty}{x:Operand}{j':IntKind}{p:ir}(hd:Nat.blt d n=true)(hx:ev L x=some (.int .u32 (p.toNat:Int)))(hs:U.get src=some ts)(HO:ts.fK = .int j')(Ib:U.get dst=some td)(Ia:td.fK = .int .u8)(h:J P f n R G S all rest k ((d,u8 (UInt8.ofNat p.toNat))::L) H):J P f n R G S all (.cons m true ⟨some d,.convert src dst x,ty,pos,af,gd⟩ rest) k L H:=by
 refine jJ hd hx hs HO Ib Ia ?_
 have e:Value.int .u8 (IntKind.u8.wrap (p.toNat:Int))=u8 (UInt8.ofNat p.toNat):=by
  simp[u8,IntKind.wrap,IntKind.bits,IntKind.signed]
 rw[e];exact h
end
end Go.SL
namespace Go.SL
open Go
structure Dg where
 bs:List UInt8
 len:bs.length=32
deriving DecidableEq
def Dg.at(x:Dg)(i:Nat):UInt8:=x.bs.getD i 0
def Dg.zero:Dg:=⟨List.replicate 32 0,by simp⟩
instance:Inhabited Dg:=⟨Dg.zero⟩
def dC(x:Dg):List Value :=
  [u8 (x.at 0),u8 (x.at 1),u8 (x.at 2),u8 (x.at 3),u8 (x.at 4),u8 (x.at 5),u8 (x.at 6),u8 (x.at 7),u8 (x.at 8),u8 (x.at 9),u8 (x.at 10),u8 (x.at 11),u8 (x.at 12),u8 (x.at 13),u8 (x.at 14),u8 (x.at 15),
   u8 (x.at 16),u8 (x.at 17),u8 (x.at 18),u8 (x.at 19),u8 (x.at 20),u8 (x.at 21),u8 (x.at 22),u8 (x.at 23),u8 (x.at 24),u8 (x.at 25),u8 (x.at 26),u8 (x.at 27),u8 (x.at 28),u8 (x.at 29),u8 (x.at 30),u8 (x.at 31)]
theorem cP(x:Dg):(dC x).length=32:=rfl
theorem dp(x:Dg):dC x=bV x.bs:=by
 have h1:x.bs=(List.range 32).map (fun i=>x.at i):=by
  apply List.ext_getElem?
  intro i
  rcases Nat.lt_or_ge i 32 with h|h
  ·rw[List.getElem?_map,List.getElem?_range h]
   simp only[Dg.at,Option.map_some,List.getD_eq_getElem?_getD]
   rw[List.getElem?_eq_getElem (by rw[x.len];exact h)];rfl
  ·rw[List.getElem?_eq_none (by rw[x.len];exact h),List.getElem?_eq_none (by simpa using h)]
 conv=>rhs;rw[h1]
 rfl
theorem MV{a b:UInt8}(h:u8 a=u8 b):a=b:=by
 simp only[u8,Value.int.injEq,true_and,Int.natCast_inj]at h
 exact UInt8.toNat.inj h
theorem TY{a b:List UInt8}(h:bV a=bV b):a=b:=by
 induction a generalizing b with
 | nil=>cases b with
  | nil=>rfl
  | cons y b=>simp[bV]at h
 | cons x a ih=>cases b with
  | nil=>simp[bV]at h
  | cons y b =>
   simp only[bV,List.map_cons,List.cons.injEq]at h
   rw[MV h.1,ih h.2]
theorem TN{a b:Dg}(h:dC a=dC b):a=b:=by
 rw[dp,dp]at h
 have:=TY h
 cases a;cases b;simp_all
section
variable{P:Program}
theorem EJ{e:TypeId}(he:P.underlying e=some (.int .u8))(hc:P.cellsOf e=1)(d:Nat)(a b:List UInt8)(hl:a.length=b.length)(w:World):∀is:List Nat,(∀i∈is,i<a.length) →
  (Op.eqItems (d+1) e (P.cellsOf e) (bV a).toArray (bV b).toArray is).run P w = .ok (decide (∀i∈is,a[i]?=b[i]?)) w:=by
 intro is
 induction is with
 | nil=>intro _;simp[Op.eqItems]
 | cons i is ih =>
  intro hi
  have Dq:P.plainKey e=true:=by unfold Program.plainKey;rw[he]
  have Ds:=hi i (List.mem_cons_self ..)
  have h1:(bV a).toArray[i*P.cellsOf e]?=some (u8 (a[i]'Ds)):=by rw[hc,Nat.mul_one];simp[bV,Ds]
  have h2:(bV b).toArray[i*P.cellsOf e]?=some (u8 (b[i]'(hl ▸ Ds))):=by rw[hc,Nat.mul_one];simp[bV,hl ▸ Ds]
  simp only[Op.eqItems,Sem.run_bind,run_part_plain w Dq h1,run_part_plain w Dq h2,Result.andThen_ok]
  have h3:(Op.equalIn (d+1) e (u8 (a[i]'Ds)) (u8 (b[i]'(hl ▸ Ds)))).run P w = .ok (decide (a[i]'Ds=b[i]'(hl ▸ Ds))) w:=by
   simp only[Op.equalIn,Sem.run_bind,Go.run_underlying he,Result.andThen_ok,u8,if_true,Sem.run_pure]
   congr 1
   rw[Bool.eq_iff_iff]
   simp only[beq_iff_eq,decide_eq_true_iff]
   constructor
   ·intro h;exact UInt8.toNat.inj ai
   ·intro h;rw[h]
  rw[h3]
  simp only[Result.andThen_ok]
  have h4:(a[i]?=b[i]?)↔a[i]'Ds=b[i]'(hl ▸ Ds):=by
   rw[List.getElem?_eq_getElem Ds,List.getElem?_eq_getElem (hl ▸ Ds),Option.some.injEq]
  by_cases h5:a[i]'Ds=b[i]'(hl ▸ Ds)
  ·rw[decide_eq_true h5]
   simp only[Bool.not_true,Bool.false_eq_true,if_false]
   rw[ih fun j hj=>hi j (List.mem_cons_of_mem _ hj)]
   congr 1
   rw[Bool.eq_iff_iff,decide_eq_true_iff,decide_eq_true_iff]
   constructor
   ·intro h j hj
    rcases List.mem_cons.1 hj with rfl|hj
    ·exact h4.2 h5
    ·exact h j hj
   ·exact fun h j hj=>h j (List.mem_cons_of_mem _ hj)
  ·rw[decide_eq_false h5]
   simp only[Bool.not_false,if_true,Sem.run_pure]
   congr 1
   rw[eq_comm,decide_eq_false_iff_not]
   exact fun h=>h5 (h4.1 (h i (List.mem_cons_self ..)))
theorem DV{t e:TypeId}{n:Nat}{a b:List UInt8}(ht:P.underlying t=some (.array n e))(he:P.underlying e=some (.int .u8))(hc:P.cellsOf e=1)(ha:a.length=n)(hb:b.length=n)(d:Nat)(w:World) :
  (Op.equalIn (d+2) t (.agg (bV a).toArray) (.agg (bV b).toArray)).run P w = .ok (decide (a=b)) w:=by
 obtain⟨i,hi⟩:=info_of_underlying he
 rw[run_equalIn_array w (d+1) _ _ ht hi,EJ he hc d a b ai w _ (fun i hi=>by rw[ha];exact List.mem_range.1 hi)]
 congr 1
 rw[Bool.eq_iff_iff,decide_eq_true_iff,decide_eq_true_iff]
 constructor
 ·intro h
  apply List.ext_getElem?
  intro j
  rcases Nat.lt_or_ge j n with hj|hj
  ·exact h j (List.mem_range.2 hj)
  ·rw[List.getElem?_eq_none ai,List.getElem?_eq_none ai]
 ·rintro rfl j _;rfl
theorem qq{t e:TypeId}(ht:P.underlying t=some (.array 32 e))(he:P.underlying e=some (.int .u8))(hc:P.cellsOf e=1)(a b:Dg)(d:Nat)(w:World) :
  (Op.equalIn (d+2) t (.agg (dC a).toArray) (.agg (dC b).toArray)).run P w = .ok (decide (a=b)) w:=by
 rw[dp,dp,DV ht he hc a.len b.len]
 congr 1
 rw[Bool.eq_iff_iff,decide_eq_true_iff,decide_eq_true_iff]
 constructor
 ·intro h;cases a;cases b;simp_all
 ·rintro rfl;rfl
end
section
variable{P:Program}{U:Tr}[hU:e7 P U]{f:FuncId}{n:Nat}{R:Ending→World→Prop}{G:cm}{k:List Item}{L:eN}{H H':List HP}{S:World→Prop}{all:Array Oper}{rest:Pl}{ty:TypeId}{pos:String}{af:Array Edge}{gd:Option (Nat × Bool)}{m:Bool}{d:Tmp}
theorem jI{x y:Operand}{t yt:TypeId}{c1 c2:Array Value}{b:Bool}(hd:Nat.blt d n=true)(hx:ev L x=some (.agg c1))(hy:ev L y=some (.agg c2))(hg:P.eqGuardType P.depth t=false)(he:∀w,(Op.equal t (.agg c1) (.agg c2)).run P w = .ok b w)(h:J P f n R G S all rest k ((d,.bool b)::L) H):J P f n R G S all (.cons m true ⟨some d,.binOp .eql t x y yt,ty,pos,af,gd⟩ rest) k L H:=by
 have gS:∀a w,Has n L a→(execOp a.eval ⟨some d,.binOp .eql t x y yt,ty,pos,af,gd⟩).run P w = .ok (.value (.bool b)) w:=fun a w ha=>by
  have hgu:(eqGuard .eql t x y (.agg c1) (.agg c2)).run P w = .ok () w:=by simp[eqGuard,hg]
  have hb:(binOp .eql t (.agg c1) (.agg c2)).run P w = .ok (.bool b) w:=by
   simp only[binOp,Sem.run_bind,he,Result.andThen_ok,Sem.run_pure]
  simp only[execOp,ha.ev hx,ha.ev hy,Sem.run_bind,hgu,hb,Result.andThen_ok,Sem.run_pure]
 cases m with
 | false=>exact jD hd (fun a w ha _=>gS a w ha) h
 | true=>exact kC hd (fun a w ha _=>gS a w ha) h
theorem iU{t e:TypeId}{bJ te:Ty}{nn:Nat}{z:Array Value}(hd:Nat.blt d n=true)(ht:U.get t=some bJ)(hu:bJ.fK = .array nn e)(he:U.get e=some te)(hz:bJ.info.zero=some (.agg z))(h:J P f n R G S all rest k ((d,.agg z)::L) H):J P f n R G S all (.cons m true ⟨some d,.build t #[],ty,pos,af,gd⟩ rest) k L H:=by
 have gS:∀a w,Has n L a→(execOp a.eval ⟨some d,.build t #[],ty,pos,af,gd⟩).run P w = .ok (.value (.agg z)) w:=fun a w ha=>by
  simp only[execOp,Instr.build,Sem.run_bind,dv ht hz,run_underlying ht,Result.andThen_ok,hu,run_sizeOf he,Array.map_empty,Instr.fill,Value.cells,Sem.run_pure]
 cases m with
 | false=>exact jD hd (fun a w ha _=>gS a w ha) h
 | true=>exact kC hd (fun a w ha _=>gS a w ha) h
theorem gM{t elem:TypeId}{bJ te:Ty}{x:Operand}{nn b off:Nat}(hd:Nat.blt d n=true)(ht:U.get t=some bJ)(hu:bJ.fK = .array nn elem)(he:U.get elem=some te)(hx:ev L x=some (.pointer (some ⟨b,off,none⟩)))(h:J P f n R G S all rest k ((d,.slice (some ⟨b,off,none⟩) nn nn)::L) H) :
  J P f n R G S all (.cons m true ⟨some d,.slice t x none none none,ty,pos,af,gd⟩ rest) k L H:=by
 refine cT hd (fun a ha w=>?_) h
 simp only[execOp,ha.ev hx,Instr.sliceAt,Sem.run_bind,run_underlying ht,Result.andThen_ok,hu,Instr.sureAddr,Instr.sliceBounds,Option.map_none,run_sizeOf he,Sem.run_pure]
 simp[Addr.add,run_sizeOf he]
theorem zg{t elem:TypeId}{bJ:Ty}{x:Operand}{nn len cap:Nat}{a0:Option Addr}(hd:Nat.blt d n=true)(ht:U.get t=some bJ)(hu:bJ.fK = .array nn elem)(hx:ev L x=some (.slice a0 len cap))(hl:nn≤len)(h:J P f n R G S all rest k ((d,.pointer a0)::L) H) :
  J P f n R G S all (.cons m true ⟨some d,.sliceToArrayPointer t x,ty,pos,af,gd⟩ rest) k L H:=by
 refine cT hd (fun a ha w=>?_) h
 simp only[execOp,ha.ev hx,Instr.arrayAt,Sem.run_bind,run_underlying ht,Result.andThen_ok,hu]
 rw[if_neg ai]
 simp
end
end Go.SL
namespace Go.SL
open Go
namespace Sha
def sH(x:ir)(n:Nat):ir:=x <<< (32-n) ||| x >>> n
theorem M4(x:ir)(n:Nat)(h1:1≤n)(h2:n≤31):x >>> n ^^^ x <<< (32-n)=sH x n:=by
 apply BitVec.eq_of_getLsbD_eq
 intro i hi
 simp only[sH,BitVec.getLsbD_xor,BitVec.getLsbD_or,BitVec.getLsbD_ushiftRight,BitVec.getLsbD_shiftLeft]
 rcases Nat.lt_or_ge i (32-n)with h|h
 ·simp[h]
 ·rw[BitVec.getLsbD_of_ge x (n+i) ai]
  simp
def ks:List ir:=[
 0x428a2f98,0x71374491,0xb5c0fbcf,0xe9b5dba5,0x3956c25b,0x59f111f1,0x923f82a4,0xab1c5ed5,
 0xd807aa98,0x12835b01,0x243185be,0x550c7dc3,0x72be5d74,0x80deb1fe,0x9bdc06a7,0xc19bf174,
 0xe49b69c1,0xefbe4786,0x0fc19dc6,0x240ca1cc,0x2de92c6f,0x4a7484aa,0x5cb0a9dc,0x76f988da,
 0x983e5152,0xa831c66d,0xb00327c8,0xbf597fc7,0xc6e00bf3,0xd5a79147,0x06ca6351,0x14292967,
 0x27b70a85,0x2e1b2138,0x4d2c6dfc,0x53380d13,0x650a7354,0x766a0abb,0x81c2c92e,0x92722c85,
 0xa2bfe8a1,0xa81a664b,0xc24b8b70,0xc76c51a3,0xd192e819,0xd6990624,0xf40e3585,0x106aa070,
 0x19a4c116,0x1e376c08,0x2748774c,0x34b0bcb5,0x391c0cb3,0x4ed8aa4a,0x5b9cca4f,0x682e6ff3,
 0x748f82ee,0x78a5636f,0x84c87814,0x8cc70208,0x90befffa,0xa4506ceb,0xbef9a3f7,0xc67178f2]
def s0(x:ir):ir:=sH x 7 ^^^ sH x 18 ^^^ x >>> 3
def s1(x:ir):ir:=sH x 17 ^^^ sH x 19 ^^^ x >>> 10
def b0(x:ir):ir:=sH x 2 ^^^ sH x 13 ^^^ sH x 22
def b1(x:ir):ir:=sH x 6 ^^^ sH x 11 ^^^ sH x 25
def ch(e f g:ir):ir:=g ^^^ e &&& (f ^^^ g)
def Wc(a b c:ir):ir:=a &&& b ||| c &&& (a ||| b)
theorem TR(e f g:ir):e &&& f ||| ~~~e &&& g=ch e f g:=by
 apply BitVec.eq_of_getLsbD_eq
 intro i hi
 simp only[ch,BitVec.getLsbD_xor,BitVec.getLsbD_or,BitVec.getLsbD_and,BitVec.getLsbD_not,hi,decide_true,Bool.true_and]
 cases e.getLsbD i <;> cases f.getLsbD i <;> cases g.getLsbD i <;> rfl
theorem No(a b c:ir):a &&& b ||| a &&& c ||| b &&& c=Wc a b c:=by
 apply BitVec.eq_of_getLsbD_eq
 intro i hi
 simp only[Wc,BitVec.getLsbD_or,BitVec.getLsbD_and]
 cases a.getLsbD i <;> cases b.getLsbD i <;> cases c.getLsbD i <;> rfl
def word(b:List UInt8)(t:Nat):ir:=wB (b.getD (4*t) 0) <<< 24 ||| wB (b.getD (4*t+1) 0) <<< 16 ||| wB (b.getD (4*t+2) 0) <<< 8 ||| wB (b.getD (4*t+3) 0)
def sched(b:List UInt8):Nat→List ir
 | 0=>[]
 | t+1 =>
  let w:=sched b t
  if t<16 then w++[word b t]else w++[w.getD (t-16) 0+w.getD (t-7) 0+s1 (w.getD (t-2) 0)+s0 (w.getD (t-15) 0)]
theorem dm(b:List UInt8)(t:Nat):(sched b t).length=t:=by
 induction t with
 | zero=>rfl
 | succ t ih=>simp only[sched];split <;> simp[ih]
theorem G0(b:List UInt8){t u:Nat}(h:t≤u)(i:Nat)(hi:i<t):(sched b u)[i]?=(sched b t)[i]? := by
 induction u with
 | zero=>omega
 | succ u ih =>
  rcases Nat.lt_or_ge u t with h2|h2
  ·have:t=u+1:=by omega
   rw[this]
  ·rw[← ih h2]
   simp only[sched]
   split <;> rw[List.getElem?_append_left (by rw[dm];omega)]
structure St where
 a:ir
 b:ir
 c:ir
 d:ir
 e:ir
 f:ir
 g:ir
 h:ir
def round(s:St)(k w:ir):St :=
 let x:=s.h+b1 s.e+ch s.e s.f s.g+k+w
 let y:=b0 s.a+Wc s.a s.b s.c
 ⟨x+y,s.a,s.b,s.c,s.d+x,s.e,s.f,s.g⟩
def rounds(s:St)(w:List ir):Nat→St
 | 0=>s
 | t+1=>round (rounds s w t) (ks.getD t 0) (w.getD t 0)
def plus(s t:St):St:=⟨s.a+t.a,s.b+t.b,s.c+t.c,s.d+t.d,s.e+t.e,s.f+t.f,s.g+t.g,s.h+t.h⟩
def chunk(s:St)(b:List UInt8):St:=plus s (rounds s (sched b 64) 64)
def start:St:=⟨0x6a09e667,0xbb67ae85,0x3c6ef372,0xa54ff53a,0x510e527f,0x9b05688c,0x1f83d9ab,0x5be0cd19⟩
def chunks(s:St)(b:List UInt8):Nat→St
 | 0=>s
 | n+1=>chunk (chunks s b n) (b.drop (64*n))
def St.l(s:St):List ir:=[s.a,s.b,s.c,s.d,s.e,s.f,s.g,s.h]
def nz(n:Nat):List UInt8:=(List.range 8).map fun i=>UInt8.ofNat (n/2 ^ (56-8*i))
def pad(n:Nat):List UInt8:=128::List.replicate ((119-n%64)%64) 0++nz (8*n)
def out(s:St):List UInt8:=(List.range 32).map fun i=>UInt8.ofNat ((s.l.getD (i/4) 0) >>> (24-8*(i%4))).toNat
theorem zL(s:St):(out s).length=32:=by simp[out]
def msg(b:List UInt8):List UInt8:=b++pad b.length
end Sha
def dA(b:List UInt8):Dg:=⟨Sha.out (Sha.chunks Sha.start (Sha.msg b) ((Sha.msg b).length/64)),Sha.zL _⟩
def ko(n:Nat):List UInt8:=(List.range 8).map fun i=>UInt8.ofNat (n/2 ^ (8*i))
def cG(tag:UInt8)(ps:List (List UInt8)):List UInt8:=tag::ps.flatMap fun p=>ko p.length++p
def cd(tag:UInt8)(ps:List (List UInt8)):Dg:=dA (cG tag ps)
namespace Sha
def part(b:List UInt8)(t:Nat):Nat→ir
 | 0=>0
 | j+1=>part b t j ||| wB (b.getD (4*t+j) 0) <<< (24-8*j)
theorem Wa(b:List UInt8)(t:Nat):part b t 4=word b t:=by
 simp[part,word]
def lT(b:List UInt8)(i:Nat):List ir:=(List.range 64).map fun t=>part b t (min 4 (i-4*t))
theorem jB(b:List UInt8)(i:Nat):(lT b i).length=64:=by simp[lT]
theorem kK(b:List UInt8)(i t:Nat)(ht:t<64):(lT b i)[t]?=some (part b t (min 4 (i-4*t))):=by
 simp[lT,ht]
theorem EE(b:List UInt8):lT b 0=List.replicate 64 0:=by
 apply List.ext_getElem?
 intro t
 rcases Nat.lt_or_ge t 64 with h|h
 ·rw[kK b 0 t h,List.getElem?_replicate,if_pos h];simp[part]
 ·rw[List.getElem?_eq_none (by rw[jB];exact h),List.getElem?_eq_none (by simpa using h)]
theorem EF(b:List UInt8)(i:Nat)(hi:i<64):(lT b i).set (i/4) (part b (i/4) (i%4) ||| wB (b.getD i 0) <<< (24-8*(i%4)))=lT b (i+1):=by
 apply List.ext_getElem?
 intro t
 rw[List.getElem?_set,jB]
 rcases Nat.lt_or_ge t 64 with h|h
 ·rw[kK b i t h,kK b (i+1) t h]
  by_cases ht:i/4=t
  ·subst ht
   rw[if_pos rfl,if_pos h]
   have e1:min 4 (i+1-4*(i/4))=i%4+1:=by omega
   have e2:4*(i/4)+i%4=i:=by omega
   rw[e1,part,e2]
  ·rw[if_neg ht]
   have:min 4 (i-4*t)=min 4 (i+1-4*t):=by omega
   rw[this]
 ·rw[List.getElem?_eq_none (by rw[jB];exact h),List.getElem?_eq_none (l:=lT b (i+1)) (by rw[jB];exact h)]
  split
  ·omega
  ·rfl
theorem DP(b:List UInt8)(t u:Nat)(h:t<u)(hu:t<16):(sched b u)[t]?=some (word b t):=by
 rw[G0 b (t:=t+1) ai t ai]
 simp only[sched,if_pos hu]
 rw[List.getElem?_append_right (by rw[dm];exact Nat.le_refl _),dm,Nat.sub_self]
 rfl
theorem Im(b:List UInt8):lT b 64=sched b 16++List.replicate 48 0:=by
 apply List.ext_getElem?
 intro t
 rcases Nat.lt_or_ge t 16 with h|h
 ·rw[kK b 64 t ai,List.getElem?_append_left (by rw[dm];exact h),DP b t 16 h h,show min 4 (64-4*t)=4 from by omega,Wa]
 ·rw[List.getElem?_append_right (by rw[dm];exact h),dm]
  rcases Nat.lt_or_ge t 64 with h2|h2
  ·rw[kK b 64 t h2,List.getElem?_replicate,if_pos ai,show min 4 (64-4*t)=0 from by omega];rfl
  ·rw[List.getElem?_eq_none (by rw[jB];exact h2),List.getElem?_eq_none (by simp;omega)]
def dS(b:List UInt8)(t:Nat):List ir:=sched b t++List.replicate (64-t) 0
theorem qp(b:List UInt8)(t:Nat)(h:t≤64):(dS b t).length=64:=by simp[dS,dm];omega
theorem gD(b:List UInt8)(t i:Nat)(h:i<t):(dS b t)[i]?=some ((sched b t).getD i 0):=by
 unfold dS
 rw[List.getElem?_append_left (by rw[dm];exact h),List.getD_eq_getElem?_getD,List.getElem?_eq_getElem (by rw[dm];exact h)];rfl
theorem tN(b:List UInt8)(t:Nat)(h1:16≤t)(h2:t<64):(dS b t).set t ((sched b t).getD (t-16) 0+(sched b t).getD (t-7) 0+s1 ((sched b t).getD (t-2) 0)+s0 ((sched b t).getD (t-15) 0))=dS b (t+1):=by
 unfold dS
 rw[List.set_append_right _ _ (by rw[dm];exact Nat.le_refl _),dm,Nat.sub_self,show 64-t=(64-(t+1))+1 from by omega,List.replicate_succ,List.set_cons_zero]
 conv=>rhs;unfold sched
 rw[if_neg ai]
 simp
theorem vq(b:List UInt8):dS b 64=sched b 64:=by simp[dS]
end Sha
namespace Sha
theorem A7{b b':List UInt8}(h:∀i,i<64→b.getD i 0=b'.getD i 0)(t:Nat):sched b t=sched b' t:=by
 induction t with
 | zero=>rfl
 | succ t ih =>
  simp only[sched,ih]
  split
  ·rename_i ht
   simp only[word,h (4*t) ai,h (4*t+1) ai,h (4*t+2) ai,h (4*t+3) ai]
  ·rfl
theorem yW(s:St)(b r:List UInt8)(h:64≤b.length):chunk s (b++r)=chunk s b:=by
 unfold chunk
 rw[A7 (b:=b++r) (b':=b) fun i hi=>by
  simp only[List.getD_eq_getElem?_getD]
  rw[List.getElem?_append_left ai]]
theorem wA(s:St)(b r:List UInt8):∀q,64*q≤b.length→chunks s (b++r) q=chunks s b q
 | 0,_=>rfl
 | q+1,h=>by
  simp only[chunks]
  rw[wA s b r q ai,List.drop_append_of_le_length ai,yW _ _ _ (by rw[List.length_drop];omega)]
theorem wC(s:St)(b:List UInt8)(p:Nat):∀q,chunks s b (p+q)=chunks (chunks s b p) (b.drop (64*p)) q
 | 0=>rfl
 | q+1=>by
  rw[← Nat.add_assoc]
  simp only[chunks]
  rw[wC s b p q,List.drop_drop,show 64*p+64*q=64*(p+q)from by omega]
theorem GW(b:List UInt8):chunks start (msg b) ((msg b).length/64)=chunks (chunks start b (b.length/64)) (b.drop (64*(b.length/64))++pad b.length) ((b.drop (64*(b.length/64))++pad b.length).length/64):=by
 have h1:64*(b.length/64)≤b.length:=by omega
 have hl:(msg b).length/64=b.length/64+(b.drop (64*(b.length/64))++pad b.length).length/64:=by
  simp only[msg,List.length_append,List.length_drop]
  omega
 rw[hl,wC]
 unfold msg
 rw[wA _ _ _ _ h1,List.drop_append_of_le_length h1]
end Sha
end Go.SL
namespace Go.SL
theorem Fx(b:List UInt8):(dA b).bs=Sha.out (Sha.chunks Sha.start (Sha.msg b) ((Sha.msg b).length/64)):=rfl
theorem Bq{l:List UInt8}{i n:Nat}{x:UInt8}(hl:l.length=n)(h:l[i]?=some x):(bV (l.take i++List.replicate (n-i) (0:UInt8))).set i (u8 x)=bV (l.take (i+1)++List.replicate (n-(i+1)) (0:UInt8)):=by
 have hi:i<n:=by
  rcases Nat.lt_or_ge i l.length with h2|h2
  ·omega
  ·rw[List.getElem?_eq_none h2]at h;cases h
 have e1:(l.take i).length=i:=by rw[List.length_take];omega
 show((l.take i++List.replicate (n-i) (0:UInt8)).map u8).set i (u8 x)=_
 rw[← List.map_set,List.set_append_right _ _ ai,e1,Nat.sub_self,show n-i=(n-(i+1))+1 from by omega,List.replicate_succ,List.set_cons_zero,List.take_add_one,h]
 simp[bV]
theorem iH(l:List UInt8):gJ (bV l)=true:=by
 induction l with
 | nil=>rfl
 | cons x l ih =>
  show(Value.oneCell' (u8 x) && gJ (bV l))=true
  rw[ih];rfl
end Go.SL
namespace Go.Proofs.YthjbidjmgbjkiaaGreatDoor
open Go Go.SL
def lQ(x:Int × List UInt8):List UInt8:=UInt8.ofNat x.1.toNat::(uv x.2.length++x.2)
def eo(l:List (Int × List UInt8)):List UInt8:=l.flatMap lQ
def q4:Nat→List UInt8→List (Int × List UInt8)
 | 0,_=>[]
 | f+1,b=>match b with
  | []=>[]
  | c::r=>if(cV r).2.2=true∧(cV r).1≤(cV r).2.1.length then((c.toNat:Int),(cV r).2.1.take (cV r).1)::q4 f ((cV r).2.1.drop (cV r).1)else [(0,[])]
def eT:Int→List (Int × List UInt8)→Bool
 | _,[]=>true
 | last,x::l=>decide (last<x.1) && decide (x.1≤63) && eT x.1 l
def pS(b:List UInt8):Option (List (Int × List UInt8)):=if 65536<b.length then none else if eT 0 (q4 b.length b)then some (q4 b.length b)else none
structure It where
 n:Int
 v:Value
 b:List UInt8
instance:Inhabited It:=⟨⟨0,.slice none 0 0,[]⟩⟩
def kG(x:It):List Value:=[.int .i64 x.n,x.v]
theorem im(x:It):(kG x).length=2:=rfl
def It.p(x:It):Int × List UInt8:=(x.n,x.b)
def sE(X:HP)(v:Value)(l:List It):Prop:=Vw X v l.length (l.flatMap kG)∧∀x∈l,dR X x.v x.b
theorem Bm(a b:List (Int × List UInt8)):eo (a++b)=eo a++eo b:=by simp[eo]
theorem ys(l:List (Int × List UInt8))(i:Nat):(eo (l.take i)).length≤(eo l).length:=by
 conv=>rhs;rw[← List.take_append_drop i l]
 rw[Bm,List.length_append];omega
def mC(l:List (Int × List UInt8))(i:Nat):Int:=match (l.take i).getLast? with
 | some x=>x.1
 | none=>0
theorem J2:∀(l:List (Int × List UInt8)) (last:Int) (i:Nat) (x:Int × List UInt8),eT last l=true→l[i]?=some x→(match (l.take i).getLast? with|some y=>y.1|none=>last)<x.1∧x.1≤63:=by
 intro l
 induction l with
 | nil=>intro last i x h hx;simp at hx
 | cons y l ih =>
  intro last i x h hx
  simp only[eT,Bool.and_eq_true,decide_eq_true_eq]at h
  cases i with
  | zero=>simp at hx;subst hx;simpa using h.1
  | succ i =>
   simp only[List.getElem?_cons_succ]at hx
   have:=ih y.1 i x h.2 hx
   rw[List.take_succ_cons]
   cases hl:l.take i with
   | nil=>rw[hl]at this;simpa using this
   | cons z r=>rw[hl]at this;rw[List.getLast?_cons_cons];exact this
theorem vK{l:List (Int × List UInt8)}{i:Nat}{x:Int × List UInt8}(h:l[i]?=some x):mC l (i+1)=x.1:=by
 unfold mC
 rw[List.take_add_one,h];simp
theorem J1:∀(l:List (Int × List UInt8)) (last:Int),eT last l=true→0≤last→∀x∈l,0<x.1:=by
 intro l
 induction l with
 | nil=>intro last h h0 x hx;cases hx
 | cons y l ih =>
  intro last h h0 x hx
  simp only[eT,Bool.and_eq_true,decide_eq_true_eq]at h
  rcases List.mem_cons.1 hx with rfl|hx
  ·omega
  ·exact ih y.1 h.2 ai x hx
theorem LH:∀(bs:List UInt8) (i acc n:Nat) (r:List UInt8) (ok:Bool),pX i acc bs=some (n,r,ok)→r.length<bs.length:=by
 intro bs
 induction bs with
 | nil=>intro i acc n r ok h;simp[pX]at h
 | cons c bs ih =>
  intro i acc n r ok h
  simp only[pX]at h
  split at h
  ·cases h
  ·split at h
   ·simp only[Option.some.injEq,Prod.mk.injEq]at h
    rw[← h.2.1,List.length_cons];omega
   ·have:=ih _ _ n r ok h
    rw[List.length_cons];omega
theorem oL(bs:List UInt8):(cV bs).2.1.length≤bs.length:=by
 unfold cV
 cases h:pX 0 0 bs with
 | none=>simp
 | some x =>
  obtain⟨n,r,ok⟩:=x
  have:=LH bs 0 0 _ _ _ h
  simp only[Option.getD_some];omega
theorem yd:∀(f g:Nat) (b:List UInt8),b.length≤f→b.length≤g→q4 f b=q4 g b
 | 0,0,_,_,_=>rfl
 | 0,g+1,b,hf,_=>by
  have:b=[]:=List.eq_nil_of_length_eq_zero ai
  subst this;rfl
 | f+1,0,b,_,hg=>by
  have:b=[]:=List.eq_nil_of_length_eq_zero ai
  subst this;rfl
 | f+1,g+1,[],_,_=>rfl
 | f+1,g+1,c::r,hf,hg=>by
  rw[q4,q4]
  have:=oL r
  rw[List.length_cons]at hf hg
  split
  ·rw[yd f g _ (by rw[List.length_drop];omega) (by rw[List.length_drop];omega)]
  ·rfl
def eg(b:List UInt8):List (Int × List UInt8):=q4 b.length b
theorem vd:eg []=[]:=rfl
theorem ye{c:UInt8}{r:List UInt8}(h:(cV r).2.2=true∧(cV r).1≤(cV r).2.1.length):eg (c::r)=((c.toNat:Int),(cV r).2.1.take (cV r).1)::eg ((cV r).2.1.drop (cV r).1):=by
 have h1:=oL r
 unfold eg
 rw[List.length_cons,q4]
 rw[if_pos h,yd _ _ _ (by rw[List.length_drop];omega) (Nat.le_refl _)]
theorem AT{c:UInt8}{r:List UInt8}(h:¬((cV r).2.2=true∧(cV r).1≤(cV r).2.1.length)):eg (c::r)=[(0,[])]:=by
 unfold eg
 rw[List.length_cons,q4]
 rw[if_neg h]
theorem q5:∀(f:Nat) (b:List UInt8),b.length≤f→(eg b).length≤b.length
 | 0,b,h=>by
  have:b=[]:=List.eq_nil_of_length_eq_zero ai
  subst this;simp[vd]
 | f+1,[],_=>by simp[vd]
 | f+1,c::r,h=>by
  have h1:=oL r
  rw[List.length_cons]at h
  by_cases hk:(cV r).2.2=true∧(cV r).1≤(cV r).2.1.length
  ·have h2:=q5 f ((cV r).2.1.drop (cV r).1) (by rw[List.length_drop];omega)
   rw[List.length_drop]at h2
   rw[ye hk,List.length_cons,List.length_cons]
   omega
  ·rw[AT hk,List.length_cons];simp
def rQ(xs:List (Int × List UInt8))(i:Nat):Bool:=match xs[i]? with
 | some x=>decide (mC xs i<x.1) && decide (x.1≤63)
 | none=>true
theorem v7{xs:List (Int × List UInt8)}{i:Nat}{x:Int × List UInt8}(h:xs[i]?=some x):rQ xs i=(decide (mC xs i<x.1) && decide (x.1≤63)):=by unfold rQ;rw[h]
theorem J3:∀(l:List (Int × List UInt8)) (last:Int),(eT last l=true↔∀i x,l[i]?=some x→(match (l.take i).getLast? with|some y=>y.1|none=>last)<x.1∧x.1≤63):=by
 intro l
 induction l with
 | nil=>intro last;simp[eT]
 | cons y l ih =>
  intro last
  simp only[eT,Bool.and_eq_true,decide_eq_true_eq,ih]
  constructor
  ·rintro⟨⟨h1,h2⟩,h3⟩ i x hx
   cases i with
   | zero=>simp at hx;subst hx;exact⟨h1,h2⟩
   | succ i =>
    have:=h3 i x (by simpa using hx)
    rw[List.take_succ_cons]
    cases hl:l.take i with
    | nil=>rw[hl]at this;simpa using this
    | cons z r=>rw[hl]at this;rw[List.getLast?_cons_cons];exact this
  ·intro h
   refine⟨by simpa using h 0 y rfl,fun i x hx=>?_⟩
   have:=h (i+1) x (by simpa using hx)
   rw[List.take_succ_cons]at this
   cases hl:l.take i with
   | nil=>rw[hl]at this;simpa using this
   | cons z r=>rw[hl,List.getLast?_cons_cons]at this;exact this
theorem yq(xs:List (Int × List UInt8)):eT 0 xs=true↔∀i,i<xs.length→rQ xs i=true:=by
 rw[J3]
 constructor
 ·intro h i hi
  have hx:xs[i]?=some xs[i]:=by simp
  rw[v7 hx,Bool.and_eq_true,decide_eq_true_eq,decide_eq_true_eq]
  exact h i _ hx
 ·intro h i x hx
  have:=h i (List.getElem?_eq_some_iff.1 hx).1
  rw[v7 hx,Bool.and_eq_true,decide_eq_true_eq,decide_eq_true_eq]at this
  exact this
def cI(b:List UInt8):Dg:=cd 0 [b]
def gn(l r:Dg):Dg:=cd 1 [l.bs,r.bs]
def bu:List Dg→List Dg
 | a::b::r=>gn a b::bu r
 | l=>l
theorem cH:∀l:List Dg,(bu l).length=(l.length+1)/2
 | []=>rfl
 | [a]=>by simp[bu]
 | a::b::r=>by simp only[bu,List.length_cons,cH r];omega
theorem qF:∀(l:List Dg) (i:Nat),(bu l)[i]?=match l[2*i]?,l[2*i+1]? with
  | some a,some b=>some (gn a b)
  | x,_=>x
 | [],i=>by simp[bu]
 | [a],i=>by
  cases i with
  | zero=>rfl
  | succ i=>simp[bu,show 2*(i+1)=2*i+1+1 from by omega]
 | a::b::r,i=>by
  cases i with
  | zero=>rfl
  | succ i =>
   simp only[bu,List.getElem?_cons_succ,show 2*(i+1)=2*i+1+1 from by omega]
   exact qF r i
def Yd:Nat→List Dg→List Dg
 | 0,l=>l
 | f+1,l=>if l.length≤1 then l else Yd f (bu l)
def vv(l:List Dg):Dg:=if l=[]then cd 2 []else((Yd l.length l).head?).getD Dg.zero
structure Bl where
 d:Dg
 size:Int
 piece:Int
 root:Dg
deriving DecidableEq
instance:Inhabited Bl:=⟨⟨Dg.zero,0,0,Dg.zero⟩⟩
def Bl.zero:Bl:=⟨Dg.zero,0,0,Dg.zero⟩
def bn(x:Bl):List Value:=dC x.d++[.int .i64 x.size,.int .i64 x.piece]++dC x.root
theorem uR(x:Bl):(bn x).length=66:=rfl
def bz(x:Bl):Bool:=decide (1≤x.size∧x.size≤1048576∧16≤x.piece∧x.piece≤16384∧(x.size+x.piece-1)/x.piece≤1024)
def cj(x:Bl):Int:=if bz x then(x.size+x.piece-1)/x.piece else 0
def dN(x:Bl)(i:Int):Option (Int × Int):=if i<0∨cj x≤i then none else some (i*x.piece,min x.piece (x.size-i*x.piece))
def fq(k:Nat):Nat→List UInt8→List (List UInt8)
 | 0,_=>[]
 | f+1,b=>if b=[]then []else b.take k::fq k f (b.drop k)
def cS(b:List UInt8)(piece:Int):Option (List Dg):=if bz ⟨Dg.zero,b.length,piece,Dg.zero⟩then some ((fq piece.toNat b.length b).map cI)else none
def fm(b:List UInt8)(piece:Int):Option Bl:=(cS b piece).map fun l=>⟨dA b,b.length,piece,vv l⟩
def gk(x:Bl)(b:List UInt8):Bool:=decide (fm b x.piece=some x)
def nW:List Bl→Bool
 | []=>false
 | x::l=>l.any (fun y=>decide (y.d=x.d)) || nW l
def fY(l:List Bl):Nat:=if l.length<1∨16<l.length∨l.any (fun x => !bz x)=true then 1 else if nW l then 5 else 0
def dx(x:Bl):List (Int × List UInt8):=[(1,x.d.bs),(2,uv x.size.toNat),(3,uv x.piece.toNat),(4,x.root.bs)]
def ix:Nat→List Bl→List (Int × List UInt8)
 | _,[]=>[]
 | i,x::l=>((i:Int)+1,eo (dx x))::ix (i+1) l
def wj(l:List Bl):List UInt8:=eo (ix 0 l)
def tW(l:List Bl):Dg:=dA (wj l)
def uB(b:List UInt8):Dg:=if h:b.length=32 then⟨b,h⟩else Dg.zero
def lj(b:List UInt8):Option Bl:=match pS b with
 | some [(_,a),(_,s),(_,p),(n,r)]=>if n≠4∨a.length≠32∨r.length≠32 then none else match dt s,dt p with
  | some s,some p=>if 1048576<max s p then none else some ⟨uB a,s,p,uB r⟩
  | _,_=>none
 | _=>none
def gQ:Nat→List (Int × List UInt8)→Option (List Bl)
 | _,[]=>some []
 | i,(n,b)::l=>match lj b with
  | some x=>if n≠(i:Int)+1 then none else(gQ (i+1) l).map (x::·)
  | none=>none
def uC(b:List UInt8):Option (List Bl):=match pS b with
 | some l=>match gQ 0 l with
  | some x=>if fY x=0 then some x else none
  | none=>none
 | none=>none
theorem Fq{n:Nat}(h:n≤1048576):(uv n).length≤3:=u4 2 n ai
theorem vP(x:Bl)(h:bz x=true):(eo (dx x)).length≤78:=by
 simp only[bz,decide_eq_true_eq]at h
 have h1:=Fq (n:=x.size.toNat) ai
 have h2:=Fq (n:=x.piece.toNat) ai
 have h3:uv 32=[32]:=by rw[hJ ai];rfl
 have h4:(uv (uv x.size.toNat).length).length=1:=by rw[hJ ai];rfl
 have h5:(uv (uv x.piece.toNat).length).length=1:=by rw[hJ ai];rfl
 simp only[eo,dx,lQ,List.flatMap_cons,List.flatMap_nil,List.length_append,List.length_cons,List.length_nil,x.d.len,x.root.len,h3,h4,h5]
 omega
theorem ub:∀(l:List Bl) (i:Nat),i+l.length≤63→eT (i:Int) (ix i l)=true
 | [],i,_=>rfl
 | x::l,i,h=>by
  rw[List.length_cons]at h
  simp only[ix,eT,Bool.and_eq_true,decide_eq_true_eq]
  refine⟨⟨ai,ai⟩,?_⟩
  have:=ub l (i+1) ai
  rw[Int.natCast_add]at this
  exact this
theorem vN:∀(l:List Bl) (i:Nat),(∀x∈l,bz x=true)→(eo (ix i l)).length≤80*l.length
 | [],i,_=>by simp[ix,eo]
 | x::l,i,h=>by
  have h1:=vP x (h x (List.mem_cons_self ..))
  have h2:=vN l (i+1) fun y hy=>h y (List.mem_cons_of_mem _ hy)
  have h3:(uv (eo (dx x)).length).length=1:=by rw[hJ ai];rfl
  simp only[eo]at h1 h2 h3
  simp only[ix,eo,List.flatMap_cons,List.length_append,lQ,List.length_cons,h3]
  omega
theorem np{l:List Bl}(h:fY l=0):l.length≤16∧1≤l.length∧∀x∈l,bz x=true:=by
 unfold fY at h
 split at h
 ·cases h
 ·rename_i h1
  rw[not_or,not_or]at h1
  refine⟨ai,ai,fun x hx=>?_⟩
  have:=h1.2.2
  simp only[Bool.not_eq_true,List.any_eq_false,Bool.not_eq_true',Bool.not_eq_false]at this
  have:=this x hx
  simpa using this
theorem Ct{l:List Bl}(h:fY l=0):(wj l).length≤1280:=by
 obtain⟨h1,h2,h3⟩:=np h
 have:=vN l 0 h3
 unfold wj;omega
theorem EL{b:List UInt8}{l:List Bl}(h:uC b=some l):fY l=0:=by
 unfold uC at h
 split at h
 ·split at h
  ·split at h
   ·cases h;assumption
   ·cases h
  ·cases h
 ·cases h
end Go.Proofs.YthjbidjmgbjkiaaGreatDoor
namespace Go.SL
open Go
def zv(n:Nat):UInt8:=UInt8.ofNat (if n<10 then 48+n else 87+n)
def j6(c:UInt8):Option Nat:=if 48≤c.toNat∧c.toNat≤57 then some (c.toNat-48)else if 97≤c.toNat∧c.toNat≤102 then some (c.toNat-87)else none
def lD(s:List UInt8)(i:Nat):Nat:=(j6 (s.getD i 0)).getD 0
def tM(d:Dg)(i:Nat):UInt8:=zv (if i%2=0 then(d.at (i/2)).toNat/16 else(d.at (i/2)).toNat%16)
def gb(d:Dg):List UInt8:=(List.range 64).map (tM d)
theorem jl(d:Dg):(gb d).length=64:=by simp[gb]
theorem ml(d:Dg){i:Nat}(h:i<64):(gb d)[i]?=some (tM d i):=by simp[gb,h]
def Dp(s:List UInt8)(i:Nat):List UInt8:=(List.range 32).map fun j=>UInt8.ofNat (if 2*j+1<i then 16*lD s (2*j)+lD s (2*j+1)else if 2*j<i then lD s (2*j)else 0)
theorem jG(s:List UInt8)(i:Nat):(Dp s i).length=32:=by simp[Dp]
theorem pq(s:List UInt8)(i:Nat){j:Nat}(h:j<32):(Dp s i)[j]?=some (UInt8.ofNat (if 2*j+1<i then 16*lD s (2*j)+lD s (2*j+1)else if 2*j<i then lD s (2*j)else 0)):=by simp[Dp,h]
theorem Kl(s:List UInt8):Dp s 0=List.replicate 32 0:=by
 apply List.ext_getElem?
 intro j
 rcases Nat.lt_or_ge j 32 with h|h
 ·rw[pq s 0 h,List.getElem?_replicate,if_pos h];simp
 ·rw[List.getElem?_eq_none (by rw[jG];exact h),List.getElem?_eq_none (by simpa using h)]
theorem NK{c:UInt8}{v:Nat}(h:j6 c=some v):v<16:=by
 unfold j6 at h
 split at h
 ·cases h;omega
 split at h
 ·cases h;omega
 ·cases h
theorem zS(s:List UInt8)(i:Nat):lD s i<16:=by
 unfold lD
 cases h:j6 (s.getD i 0)with
 | none=>simp
 | some v=>exact NK h
theorem Lk{n:Nat}(h:n<16):j6 (zv n)=some n:=by
 have:∀n:Nat,n<16→j6 (zv n)=some n:=by decide
 exact this n h
theorem JQ{c:UInt8}{v:Nat}(h:j6 c=some v):zv v=c:=by
 apply UInt8.toNat.inj
 unfold j6 at h
 unfold zv
 simp only[UInt8.toNat_ofNat']
 split at h
 ·cases h;rw[if_pos ai];omega
 split at h
 ·cases h;rw[if_neg ai];omega
 ·cases h
def iO(s:List UInt8):Option Dg:=if s.length=64∧∀c∈s,j6 c≠none then some ⟨Dp s 64,jG s 64⟩else none
theorem uO{s:List UInt8}{i:Nat}{c:UInt8}(h:s[i]?=some c):s.getD i 0=c:=by rw[List.getD_eq_getElem?_getD,h];rfl
theorem rj(d:Dg)(i:Nat):j6 (tM d i)=some (if i%2=0 then(d.at (i/2)).toNat/16 else(d.at (i/2)).toNat%16):=by
 have:=(d.at (i/2)).toNat_lt
 exact Lk (by split <;> omega)
theorem Dg.LS(d:Dg){j:Nat}(h:j<32):d.bs[j]?=some (d.at j):=by
 unfold Dg.at
 rw[List.getD_eq_getElem?_getD,List.getElem?_eq_getElem (by rw[d.len];exact h)];rfl
theorem D7(d:Dg):iO (gb d)=some d:=by
  unfold iO
  rw[if_pos ⟨jl d,fun c hc=>by
    obtain⟨i,hi,rfl⟩:=List.mem_map.1 hc
    rw[rj];simp⟩]
  congr 1
  obtain⟨bs,hl⟩:=d
  simp only[Dg.mk.injEq]
  apply List.ext_getElem?
  intro j
  rcases Nat.lt_or_ge j 32 with h|h
  · rw[pq _ _ h,if_pos ai,(⟨bs,hl⟩:Dg).LS h]
    unfold lD
    rw[uO (ml _ (show 2*j<64 by omega)),uO (ml _ (show 2*j+1<64 by omega)),rj,rj]
    simp only[Option.getD_some,Option.some.injEq]
    rw[if_pos ai,if_neg ai,show 2*j/2=j from by omega,show(2*j+1)/2=j from by omega]
    apply UInt8.toNat.inj
    simp only[UInt8.toNat_ofNat']
    have:=((⟨bs,hl⟩:Dg).at j).toNat_lt
    omega
  · rw[List.getElem?_eq_none (by rw[jG];exact h),List.getElem?_eq_none (by rw[hl];exact h)]
theorem DH{s:List UInt8}{d:Dg}(h:iO s=some d):s=gb d:=by
 unfold iO at h
 split at h
 ·rename_i hs
  cases h
  apply List.ext_getElem?
  intro i
  rcases Nat.lt_or_ge i 64 with hi|hi
  ·rw[ml _ hi]
   obtain⟨c,hc⟩:∃c,s[i]?=some c:=⟨s[i],List.getElem?_eq_getElem ai⟩
   rw[hc]
   congr 1
   obtain⟨v,hv⟩:=Option.ne_none_iff_exists'.1 (hs.2 c (List.mem_of_getElem? hc))
   rw[← JQ hv]
   unfold tM
   congr 1
   have MP:(Dg.at ⟨Dp s 64,jG s 64⟩ (i/2))=UInt8.ofNat (16*lD s (2*(i/2))+lD s (2*(i/2)+1)):=by
    unfold Dg.at
    rw[uO (pq s 64 (show i/2<32 by omega)),if_pos ai]
   rw[MP]
   have h1:=zS s (2*(i/2))
   have h2:=zS s (2*(i/2)+1)
   have h3:lD s i=v:=by unfold lD;rw[uO hc,hv];rfl
   simp only[UInt8.toNat_ofNat']
   split
   ·rename_i he
    rw[show 2*(i/2)=i from by omega]at h1 h2 ⊢
    omega
   ·rename_i he
    rw[show 2*(i/2)+1=i from by omega]at h2 ⊢
    omega
  ·rw[List.getElem?_eq_none ai,List.getElem?_eq_none (by rw[jl];exact hi)]
 ·cases h
def cL(kind:List UInt8)(d:Dg):ByteArray:=strOf (kind++gb d)
def ij(kind:List UInt8)(name:ByteArray):Option Dg:=if kind.isPrefixOf name.data.toList then iO (name.data.toList.drop kind.length)else none
theorem qo(l:List UInt8):(strOf l).data.toList=l:=by simp[strOf]
theorem mH{kind:List UInt8}{name:ByteArray}{d:Dg}:ij kind name=some d↔name=cL kind d:=by
 unfold ij cL
 constructor
 ·intro h
  split at h
  ·rename_i hp
   have h2:=DH h
   obtain⟨t,ht⟩:=List.isPrefixOf_iff_prefix.1 hp
   rw[← ht,List.drop_left]at h2
   subst h2
   rw[ht,vg]
  ·cases h
 ·rintro rfl
  rw[qo,if_pos (List.isPrefixOf_iff_prefix.2 ⟨_,rfl⟩),List.drop_left,D7]
theorem nu(kind:List UInt8)(d:Dg):ij kind (cL kind d)=some d:=mH.2 rfl
theorem tr{k:List UInt8}{a b:Dg}(h:cL k a=cL k b):a=b:=by
 have:=nu k a
 rw[h,nu]at this
 exact(Option.some.inj this).symm
theorem wi{j k:List UInt8}{a b:Dg}(hl:j.length=k.length)(h:cL j a=cL k b):j=k:=by
 unfold cL at h
 have:=yg.1 h
 exact(List.append_inj this hl).1
end Go.SL
namespace Go.Proofs.YthjbidjmgbjkiaaGreatDoor
open Go Go.SL
instance Zn(n:ByteArray)(K:List ByteArray):Decidable (n∈K):=decidable_of_iff (K.any (fun x=>decide (x=n))=true) (by rw[List.any_eq_true];exact⟨fun⟨x,hx,h⟩=>of_decide_eq_true h ▸ hx,fun h=>⟨n,h,decide_eq_true rfl⟩⟩)
def dG(A:Ab):List ByteArray:=A.names.map (·.1)
theorem Ed{α:Type}{a b:List α}(ha:a.Nodup)(hb:b.Nodup)(h:∀n,n∈a↔n∈b):a.length=b.length :=
 ((List.perm_ext_iff_of_nodup ha hb).2 h).length_eq
def n6(l:List ByteArray):List (List UInt8):=(l.map fun b=>b.data.toList).mergeSort fun x y=>decide (x≤y)
theorem rf(l:List ByteArray):(n6 l).Pairwise (·≤·) :=
 (List.pairwise_mergeSort (le:=fun x y:List UInt8=>decide (x≤y)) (fun a b c h1 h2=>decide_eq_true (List.le_trans (of_decide_eq_true h1) (of_decide_eq_true h2))) (fun a b=>by simpa using List.le_total a b) _).imp fun h=>of_decide_eq_true h
theorem lO(l:List ByteArray):(n6 l).Perm (l.map fun b=>b.data.toList):=List.mergeSort_perm _ _
theorem DN{a b:List ByteArray}(h:a.Perm b):n6 a=n6 b :=
 List.Perm.eq_of_pairwise (fun x y _ _ h1 h2=>List.le_antisymm h1 h2) (rf a) (rf b) ((lO a).trans ((h.map _).trans (lO b).symm))
theorem sQ(l:List ByteArray):(n6 l).length=l.length:=by rw[(lO l).length_eq,List.length_map]
def kS:List UInt8:=[115,45]
def kB:List UInt8:=[98,45]
def kN:List UInt8:=[110,45]
def kI:List UInt8:=[105,45]
def pW(A:Ab)(nm:ByteArray):Bool:=(A.look nm).isSome
def eJ(A:Ab)(nm:ByteArray):Option (List UInt8):=match A.look nm with
 | none=>none
 | some f=>if A.off then none else some (A.now f)
def l7(A:Ab)(d:Dg):Option (List Bl):=(eJ A (cL kI d)).bind uC
def jj(A:Ab)(d:Dg):Bool:=match eJ A (cL kB d)with
 | none=>false
 | some b=>decide (dA b=d)
def eW(A:Ab)(d:Dg):Bool:=match l7 A d with
 | none=>false
 | some x=>decide (tW x=d) && x.all fun y=>jj A y.d
def gV(A:Ab):Nat:=(A.names.map fun x=>if(ij kB x.1).isSome then(A.now x.2).length else 0).sum
def fX(A:Ab):List ByteArray:=(n6 (dG A)).map strOf
abbrev y9:=Ab→Nat→Ab→Prop
def iN(nm:ByteArray):y9:=fun A e B=>∃f,f ∉ A.fs.map (·.1)∧(e,B)=A.create (isName nm) nm f
def kT(nm:ByteArray):y9:=fun A e B=>(e,B)=A.remove (isName nm) nm
def lN(nm:ByteArray)(at_:Nat)(b:List UInt8):y9:=fun A e B=>(e,B)=A.write (fL nm at_ b) nm at_ b
def kR(nm:ByteArray):y9:=fun A e B=>(e,B)=A.sync (isName nm) nm
def q9(o n:ByteArray):y9:=fun A e B=>(e,B)=A.rename ([o,n].all isName) o n
def ew:y9:=fun A e B=>(e,B)=A.cp
def mO(kind:List UInt8)(right:Ab→Dg→Bool):List ByteArray→y9
 | [],A,e,B=>e=0∧B=A
 | nm::l,A,e,B=>match ij kind nm with
  | none=>mO kind right l A e B
  | some d=>if right A d then mO kind right l A e B else ∃e1 A1,kT nm A e1 A1∧((e1≠0∧e=e1∧B=A1)∨(e1=0∧mO kind right l A1 e B))
def dP(kind:List UInt8)(right:Ab→Dg→Bool):y9:=fun A=>mO kind right (fX A) A
def um:y9:=fun A e B=>∃e1 A1,gy [dP kB jj,dP kN (fun _ _=>false),dP kI eW] A e1 A1 ∧
 if e1=0∧A1.names.length<A.names.length then ew A1 e B else e=e1∧B=A1
structure ek where
 A:Ab
 aT:List (Dg × Bl)
 brk:Bool
def di(l:List (Dg × Bl))(d:Dg):Option Bl:=(l.find? fun x=>decide (x.1=d)).map (·.2)
def yw(s:ek)(x:Bl):Bool:=decide (di s.aT x.d=some x)
def cw(s:ek):Int:=gV s.A+(s.aT.map (·.2.size)).sum
def Ai(ss:List y9)(s:ek)(e:Nat)(t:ek):Prop:=∃B,gy ss s.A e B∧t=⟨B,s.aT,s.brk || decide (e≠0)⟩
def jO(s:ek)(x:Bl):Nat:=if s.brk then 10 else if yw s x then 0 else 4
def fS(x:Bl):ByteArray:=cL kS x.d
def fB(x:Bl):ByteArray:=cL kB x.d
def BE(o n:ByteArray):List y9:=[kR o,q9 o n,ew]
def dE(q:Int)(x:Bl)(s:ek)(e:Nat)(t:ek):Prop :=
 if s.brk then e=10∧t=s else if bz x=false then e=1∧t=s else if(di s.aT x.d).isSome∨pW s.A (fB x)then e=5∧t=s
 else if q<cw s+x.size then e=11∧t=s
 else if pW s.A (fS x)then e=0∧t=⟨s.A,s.aT++[(x.d,x)],s.brk⟩
 else ∃e1 s1,Ai [iN (fS x),ew] s e1 s1∧((e1≠0∧e=e1∧t=s1)∨(e1=0∧e=0∧t=⟨s1.A,s1.aT++[(x.d,x)],s1.brk⟩))
def lJ(x:Bl)(i:Int)(b:List UInt8)(s:ek)(e:Nat)(t:ek):Prop :=
 if jO s x≠0 then e=jO s x∧t=s else match dN x i with
  | none=>e=1∧t=s
  | some (at_,n)=>if(b.length:Int)≠n then e=1∧t=s else Ai [lN (fS x) at_.toNat b] s e t
def kh(x:Bl)(s:ek)(e:Nat)(t:ek):Prop:=if jO s x≠0 then e=jO s x∧t=s else Ai [kR (fS x)] s e t
def gI(l:List (Dg × Bl))(d:Dg):List (Dg × Bl):=l.filter fun x => !decide (x.1=d)
def eL(x:Bl)(s:ek)(e:Nat)(t:ek):Prop :=
 if jO s x≠0 then e=jO s x∧t=s else ∃s1,Ai [kT (fS x)] s e s1∧t=if e≠0 then s1 else⟨s1.A,gI s1.aT x.d,s1.brk⟩
def dr(x:Bl)(s:ek)(e:Nat)(t:ek):Prop :=
 if jO s x≠0 then e=jO s x∧t=s
 else if gk x ((eJ s.A (fS x)).getD [])=false then ∃e1,eL x s e1 t∧e=if e1≠0 then e1 else 8
 else ∃s1,Ai (BE (fS x) (fB x)) s e s1∧t=if e≠0 then s1 else⟨s1.A,gI s1.aT x.d,s1.brk⟩
end Go.Proofs.YthjbidjmgbjkiaaGreatDoor
namespace Go.SL
section
variable{P:Program}{U:Tr}[hU:e7 P U]{f:FuncId}{n:Nat}{R:Ending→World→Prop}{G:cm}{k:List Item}{L:eN}{H H':List HP}{S:World→Prop}{all:Array Oper}{rest:Pl}{ty:TypeId}{pos:String}{af:Array Edge}{gd:Option (Nat × Bool)}{m:Bool}{d:Tmp}
theorem e9{Hs:List HP}{t:TypeId}{x:Operand}{b o off nn cap:Nat}{bJ:Ty}{es cs:List Value}{A:HP}(i idx:Nat)(hd:Nat.blt d n=true)(hx:ev L x=some (.pointer (some ⟨b,off,none⟩)))(hi:cf Hs i=some A)(hv:Vw A (.slice (some ⟨b,o,none⟩) nn cap) nn cs)(ie:off=o+idx)(qT:∀j v,es[j]?=some v→cs[idx+j]?=some v)(ht:U.get t=some bJ)(hg:bJ.isAgg=true)(hl:Nat.beq es.length bJ.info.size=true)(h:J P f n R G (fun w=>Sat G w Hs) all rest k ((d,.agg es.toArray)::L) H):J P f n R G (fun w=>Sat G w Hs) all (.cons true true ⟨some d,.load t x,ty,pos,af,gd⟩ rest) k L H :=
 kC hd (fun a w ha hw=>by
  have hc:∀j v,es[j]?=some v→w.cell? ⟨b,off+j,none⟩=some v:=fun j v hj=>by
   obtain⟨h,hh,hA⟩:=Sat.j7 hw hi
   have:=hv.cell (qT j v hj) h hA
   rw[ie,show o+idx+j=o+(idx+j) by omega]
   exact dw hh this
  simp[execOp,ha.ev hx,gE (P:=P) ht hg (Nat.eq_of_beq_eq_true hl) hc]) h
end
end Go.SL
namespace Go.SL
open Go
theorem eC(l:List ir):gJ (wV l)=true:=by
 induction l with
 | nil=>rfl
 | cons x l ih =>
  show(Value.oneCell' (u32 x) && gJ (wV l))=true
  rw[ih];rfl
section
variable{P:Program}{U:Tr}[hU:e7 P U]{f:FuncId}{n:Nat}{R:Ending→World→Prop}{G:cm}{k:List Item}{L:eN}{H H':List HP}{S:World→Prop}{all:Array Oper}{rest:Pl}{ty:TypeId}{pos:String}{af:Array Edge}{gd:Option (Nat × Bool)}{m:Bool}{d:Tmp}
theorem T9{t:TypeId}{x:Operand}{j:IntKind}{p:Int}(hd:Nat.blt d n=true)(hx:ev L x=some (.int j p))(hr:fz j (-p))(h:J P f n R G S all rest k ((d,.int j (-p))::L) H):J P f n R G S all (.cons m true ⟨some d,.unOp .neg t x,ty,pos,af,gd⟩ rest) k L H :=
 cT hd (fun a ha w=>by
  have e:j.wrap (0-p) = -p:=by rw[Int.zero_sub];exact cD hr
  simp only[execOp,ha.ev hx,Sem.run_bind,Result.andThen_ok,Op.unary,Op.intArith]
  simp
  simpa using e) h
theorem aI{t:TypeId}{x:Operand}{b:Nat}{bJ:Ty}{l:List Value}{e:TypeId}(i:Nat)(hd:Nat.blt d n=true)(hx:ev L x=some (.pointer (some ⟨b,0,none⟩)))(hi:cf H i=some (ag b (cl l e)))(ht:U.get t=some bJ)(hg:bJ.isAgg=true)(hl:l.length=bJ.info.size)(h:J P f n R G S all rest k ((d,.agg l.toArray)::L) H):J P f n R G S all (.cons false true ⟨some d,.load t x,ty,pos,af,gd⟩ rest) k L H :=
 wZ (U:=U) hd hx ht hg (by rw[hl];exact Nat.beq_refl _) (fun w hw j v hj=>by rw[de (hw.rR hi),Nat.zero_add];exact hj) h
theorem bD{Hs:List HP}{t:TypeId}{x:Operand}{b:Nat}{bJ:Ty}{l:List Value}{e:TypeId}(i:Nat)(hd:Nat.blt d n=true)(hx:ev L x=some (.pointer (some ⟨b,0,none⟩)))(hi:cf Hs i=some (ag b (cl l e)))(ht:U.get t=some bJ)(hg:bJ.isAgg=true)(hl:l.length=bJ.info.size)(h:J P f n R G (fun w=>Sat G w Hs) all rest k ((d,.agg l.toArray)::L) H):J P f n R G (fun w=>Sat G w Hs) all (.cons true true ⟨some d,.load t x,ty,pos,af,gd⟩ rest) k L H :=
 kC hd (fun a w ha hw=>by
  have hw:Sat G w Hs:=hw
  simp[execOp,ha.ev hx,gE (P:=P) ht hg hl (fun j v hj=>by rw[de (hw.rR hi),Nat.zero_add];exact hj)]) h
theorem cn{t:TypeId}{x y:Operand}{b:Nat}{bJ:Ty}{l l':List Value}{e:TypeId}(i:Nat)(hS:∀w,Sat G w H'→Sx rest S w)(hx:ev L x=some (.pointer (some ⟨b,0,none⟩)))(hy:ev L y=some (.agg l'.toArray))(ht:U.get t=some bJ)(g8:l'.length=bJ.info.size)(ct:l'≠[])(fC:gJ l'=true)(hi:cf H i=some (ag b (cl l e)))(YK:l.length=l'.length)(hp:km i (ag b (cl l' e)) H [] = .mk H')(h:J P f n R G S all rest k L H'):J P f n R G S all (.cons false true ⟨none,.store t x y,ty,pos,af,gd⟩ rest) k L H:=by
 have hc:aY (.agg l'.toArray)=l':=by simp[aY]
 refine jC (U:=U) (l':=l') i hS hx hy ht (by rw[hc,g8];exact Nat.beq_refl _) (by rw[hc];cases l' with|nil=>exact absurd rfl ct|cons _ _=>rfl) (by rw[hc];exact fC) hi (by rw[hc];omega) (by rw[hc];simp[YK]) hp h
theorem fV{t:TypeId}{x y:Operand}{b off:Nat}{bJ:Ty}{l:List Value}{u:Value}{e:TypeId}(i:Nat)(hS:∀w,Sat G w H'→Sx rest S w)(hx:ev L x=some (.pointer (some ⟨b,off,none⟩)))(hy:ev L y=some u)(ht:U.get t=some bJ)(g8:Nat.beq bJ.info.size 1=true)(hc:aY u=[u])(fC:gJ [u]=true)(hi:cf H i=some (ag b (cl l e)))(hq:off<l.length)(hp:km i (ag b (cl (l.set off u) e)) H [] = .mk H')(h:J P f n R G S all rest k L H'):J P f n R G S all (.cons false true ⟨none,.store t x y,ty,pos,af,gd⟩ rest) k L H:=by
 refine jC (U:=U) (l':=l.set off u) i hS hx hy ht (by rw[hc,Nat.eq_of_beq_eq_true g8];rfl) (by rw[hc];rfl) (by rw[hc];exact fC) hi (by rw[hc];simp;omega) ?_ hp h
 rw[hc,List.set_eq_take_append_cons_drop,if_pos hq]
 simp
theorem dF{t elem:TypeId}{bJ te:Ty}{x y:Operand}{j:IntKind}{b o len:Nat}{p:Int}(q:Nat)(hd:Nat.blt d n=true)(ht:U.get t=some bJ)(hu:bJ.fK = .array len elem)(he:U.get elem=some te)(hs:Nat.beq te.info.size 1=true)(hx:ev L x=some (.pointer (some ⟨b,o,none⟩)))(hy:ev L y=some (.int j p))(hq:p=(q:Int))(cO:q<len)(h:J P f n R G S all rest k ((d,.pointer (some ⟨b,o+q,none⟩))::L) H):J P f n R G S all (.cons m true ⟨some d,.indexAddr t x y,ty,pos,af,gd⟩ rest) k L H:=by
 subst hq
 refine iC hd ht hu he hx hy ai ai ?_
 rw[Nat.eq_of_beq_eq_true hs,Int.toNat_natCast,Nat.mul_one]
 exact h
theorem lu{t:TypeId}{x:Operand}{b off:Nat}{bJ:Ty}{l:List Value}{e:TypeId}{v:Value}(i q:Nat)(hd:Nat.blt d n=true)(hx:ev L x=some (.pointer (some ⟨b,off,none⟩)))(hi:cf H i=some (ag b (cl l e)))(hq:off=q)(hv:l[q]?=some v)(ht:U.get t=some bJ)(hg:bJ.isAgg=false)(h:J P f n R G S all rest k ((d,v)::L) H):J P f n R G S all (.cons false true ⟨some d,.load t x,ty,pos,af,gd⟩ rest) k L H:=by
 subst hq
 exact ej (U:=U) i hd hx hi (by rw[df];exact hv) ht hg h
theorem dU{Hs:List HP}{t:TypeId}{x:Operand}{b off:Nat}{bJ:Ty}{l:List Value}{e:TypeId}{v:Value}(i q:Nat)(hd:Nat.blt d n=true)(hx:ev L x=some (.pointer (some ⟨b,off,none⟩)))(hi:cf Hs i=some (ag b (cl l e)))(hq:off=q)(hv:l[q]?=some v)(ht:U.get t=some bJ)(hg:bJ.isAgg=false)(h:J P f n R G (fun w=>Sat G w Hs) all rest k ((d,v)::L) H):J P f n R G (fun w=>Sat G w Hs) all (.cons true true ⟨some d,.load t x,ty,pos,af,gd⟩ rest) k L H:=by
 subst hq
 exact eu (U:=U) i hd hx hi (by rw[df];exact hv) ht hg h
theorem lx{t e:TypeId}{bJ te:Ty}{nn:Nat}{z:Array Value}{parts:Array (Nat × Operand)}{cs:List Value}(hd:Nat.blt d n=true)(ht:U.get t=some bJ)(hu:bJ.fK = .array nn e)(he:U.get e=some te)(hz:bJ.info.zero=some (.agg z))(hb:tE L te.info.size z.toList parts.toList = .mk cs)(h:J P f n R G S all rest k ((d,.agg cs.toArray)::L) H):J P f n R G S all (.cons m true ⟨some d,.build t parts,ty,pos,af,gd⟩ rest) k L H:=by
 have gS:∀a w,Has n L a→(execOp a.eval ⟨some d,.build t parts,ty,pos,af,gd⟩).run P w = .ok (.value (.agg cs.toArray)) w:=fun a w ha=>by
  have hf:=uh ha te.info.size parts.toList z.toList cs hb
  rw[Array.toArray_toList]at hf
  simp only[execOp,Instr.build,Sem.run_bind,dv ht hz,run_underlying ht,Result.andThen_ok,hu,run_sizeOf he,Value.cells,Array.toList_map,hf,Sem.run_pure]
 cases m with
 | false=>exact jD hd (fun a w ha _=>gS a w ha) h
 | true=>exact kC hd (fun a w ha _=>gS a w ha) h
end
end Go.SL
namespace Go.SL
open Go
theorem Mk{P:Program}{f:FuncId}{n:Nat}{R:Ending→World→Prop}{G:cm}{ds:List Nat}{k k0:List Item}{L:eN}{H H':List HP}{fn:Func}{F:List HP}{Post:Value→List HP→Prop}{v:Value}{Hq:List HP}(hR:Ends R G F Post)(hf:P.funcs[f]?=some fn)(hk:gK 1000 k0 = .mk (.code .ret::k))(he:aq H (ds.map (fun r=>ag r (.deferred (some [])))++H'))(Ep:∀a w,Has n L a→Sat { G with ds:=ds } w H'→(results fn a.tmps).run P w = .ok v w)(eH:Post v Hq)(zZ:aq H' (Hq++F)):K P f n R { G with ds:=ds } k0 L H:=by
 refine fF 1000 hk ?_
 intro a w ha hw cs
 have KV:({ G with ds:=ds }:cm).ro=none:=hR.1.1
 rw[KV]
 obtain⟨w',lR,hs⟩:=ox (P:=P) ds { bf none f a (.code .ret::k)with mode := .returning } cs w rfl ha.2 ⟨H',hw.aX he,rfl⟩
 exact⟨_,w',_,hR.2 _ _ w' eH (by have:=lR.aX zZ;exact this),Steps.trans (.one (stepR_ret rfl)) hs,rfl,rfl,rfl,rfl,fn,hf,Ep a w' ha.1 lR⟩
theorem vu{P:Program}{U:Tr}[hU:e7 P U]{n:Nat}{L:eN}{a:Act}{p b:Nat}{t e:TypeId}{bJ:Ty}{u:Value}{G:cm}{w:World}{H:List HP}(i:Nat)(ha:Has n L a)(hw:Sat G w H)(hp:dB L p=some (.pointer (some ⟨b,0,none⟩)))(ht:U.get t=some bJ)(hg:bJ.isAgg=false)(hi:cf H i=some (ag b (cl [u] e))):(zB a.tmps (.cell p t)).run P w = .ok u w:=by
 have hc:w.cell? ⟨b,0,none⟩=some u:=by rw[de (hw.rR hi)];rfl
 have K9:=na (P:=P) (w:=w) ht hg hc
 have g1:a.tmps.getD p undef = .pointer (some ⟨b,0,none⟩):=by simp[Array.getD_eq_getD_getElem?,ha.2.2 p _ hp]
 simp only[zB,g1,asAddr,Sem.run_bind,Sem.run_pure,Result.andThen_ok]
 simpa[Instr.loadAt,Instr.sureAddr]using K9
theorem qJ{P:Program}{U:Tr}[hU:e7 P U]{f:FuncId}{n:Nat}{R:Ending→World→Prop}{G:cm}{ds:List Nat}{k k0:List Item}{L:eN}{H H':List HP}{fn:Func}{F:List HP}{Post:Value→List HP→Prop}{p q b1 b2:Nat}{t1 t2 e1 e2:TypeId}{ty1 ty2:Ty}{u1 u2:Value}{Hq:List HP}(i j:Nat)(hR:Ends R G F Post)(hf:P.funcs[f]?=some fn)(hk:gK 1000 k0 = .mk (.code .ret::k))(xN:fn.results.toList=[.cell p t1,.cell q t2])(hp:dB L p=some (.pointer (some ⟨b1,0,none⟩)))(hq:dB L q=some (.pointer (some ⟨b2,0,none⟩)))(HN:U.get t1=some ty1)(Jp:ty1.isAgg=false)(Ws:U.get t2=some ty2)(Du:ty2.isAgg=false)(he:aq H (ds.map (fun r=>ag r (.deferred (some [])))++H'))(hi:cf H' i=some (ag b1 (cl [u1] e1)))(hj:cf H' j=some (ag b2 (cl [u2] e2)))(eH:Post (.tuple #[u1,u2]) Hq)(zZ:aq H' (Hq++F)):K P f n R { G with ds:=ds } k0 L H:=by
 refine Mk hR hf hk he (fun a w ha hw=>?_) eH zZ
 have h1:=vu (P:=P) i ha hw hp HN Jp hi
 have h2:=vu (P:=P) j ha hw hq Ws Du hj
 rw[nf,Array.mapM_eq_mapM_toList,xN]
 simp only[Sem.run_bind,Sem.run_map,List.mapM_cons,List.mapM_nil,h1,h2,Sem.run_pure,Result.andThen_ok]
 simp
theorem aU{P:Program}{f:FuncId}{n:Nat}{R:Ending→World→Prop}{G:cm}{k:List Item}{L:eN}{H F:List HP}{Post:Value→List HP→Prop}(hE:Ends R G F Post)(h:K P f n R { G with ds:=[] } k L H):K P f n R G k L H:=by
 have:({ G with ds:=[] }:cm)=G:=by have:=hE.1.2;cases G;simp_all
 rw[this]at h
 exact h
theorem oV{P:Program}{f:FuncId}{n:Nat}{R:Ending→World→Prop}{G:cm}{k:List Item}{L:eN}{H:List HP}{ps:Array Tmp}{assign body:Code}{k0:List Item}{g:Operand}{gid:FuncId}{cap:Array Value}{Pre:Nat→Nat→List HP}{Fr:List HP}(Post:Nat→Nat→(LoopState→Option Code→HP)→Value→List HP→Prop)(hk:gK 1000 k0 = .mk (.code (.rangeFunc g ps assign body)::k))(KV:G.ro=none)(hg:ev L g=some (.func (.func gid) #[] cap))(c:∀l r,aD P gid (.func (.yield l) #[] #[]::cap.toList) (bg l .ready none f n L ps assign body r::Pre l r) (Post l r (fun st pd=>bg l st pd f n L ps assign body r)))(he:∀l r,aq H (Pre l r++Fr))(fN:∀l r v H',Post l r (fun st pd=>bg l st pd f n L ps assign body r) v H'→∃st pd Ud,H'=bg l st pd f n L ps assign body r::Ud∧st ≠ .busy ∧
   K P f n R { G with ds:=r::G.ds } ((pd.map Item.code).toList++k) L (Ud++(ag r (.deferred (some []))::Fr))):K P f n R G k0 L H :=
 uU hk KV hg c he fN
theorem cM{P:Program}{f:FuncId}{n:Nat}{R:Ending→World→Prop}{G:cm}{k:List Item}{L:eN}{H:List HP}{e:TypeId}{sz nn:Nat}{v:Value}{cs:List Value}(i:Nat)(hi:cf H i=some (az e sz v nn cs))(h:Vw (az e sz v nn cs) v nn cs→K P f n R G k L H):K P f n R G k L H :=
 qj fun⟨w,hw⟩=>by
  obtain⟨h1,_,hA⟩:=hw.j7 hi
  exact h (Vw.oh e sz v nn cs ⟨h1,hA⟩)
theorem Fz{e:TypeId}{sz nn c:Nat}{a:Option Addr}{cs:List Value}{h:Hp}(hs:az e sz (.slice a nn c) nn cs h):nn≤c:=by
 obtain⟨_,⟨a',hv,hn,_⟩|⟨b,o,cap,pre,bM,hv,hp,hn,hc,_⟩⟩:=hs
 ·omega
 ·simp only[Value.slice.injEq]at hv;omega
theorem Oo{P:Program}{f:FuncId}{n:Nat}{R:Ending→World→Prop}{G:cm}{k:List Item}{L:eN}{H:List HP}{S:World→Prop}{all:Array Oper}{rest:Pl}{e:TypeId}{sz nn c:Nat}{a:Option Addr}{cs:List Value}(i:Nat)(hi:cf H i=some (az e sz (.slice a nn c) nn cs))(h:Vw (az e sz (.slice a nn c) nn cs) (.slice a nn c) nn cs→nn≤c→J P f n R G S all rest k L H):J P f n R G S all rest k L H :=
 zd fun w hw=>by
  obtain⟨h1,_,hA⟩:=hw.j7 hi
  exact h (Vw.oh e sz _ nn cs ⟨h1,hA⟩) (Fz hA)
theorem G4{P:Program}{U:Tr}[hU:e7 P U]{n:Nat}{G:cm}{L:eN}{H:List HP}{fn:Func}{p b:Nat}{t e:TypeId}{bJ:Ty}{cs:List Value}{a:Act}{w:World}(i:Nat)(ha:qL G n L a)(hw:Sat G w H)(xN:fn.results.toList=[.cell p t])(hp:dB L p=some (.pointer (some ⟨b,0,none⟩)))(ht:U.get t=some bJ)(hg:bJ.isAgg=true)(hl:cs.length=bJ.info.size)(hi:cf H i=some (ag b (cl cs e))):(results fn a.tmps).run P w = .ok (.agg cs.toArray) w:=by
 have hc:∀j v,cs[j]?=some v→w.cell? ⟨b,0+j,none⟩=some v:=fun j v hj=>by rw[de (hw.rR hi),Nat.zero_add];exact hj
 have K9:=gE (P:=P) (w:=w) ht hg hl hc
 have Ta:(loadVar t ⟨b,0,none⟩).run P w = .ok (.agg cs.toArray) w:=by simpa[Instr.loadAt,Instr.sureAddr]using K9
 have g1:a.tmps.getD p undef = .pointer (some ⟨b,0,none⟩):=by simp[Array.getD_eq_getD_getElem?,ha.get hp]
 rw[nf,Array.mapM_eq_mapM_toList,xN]
 simp only[Sem.run_bind,Sem.run_map,List.mapM_cons,List.mapM_nil,zB,g1,asAddr,Sem.run_pure,Result.andThen_ok,Ta]
 simp
theorem iB{P:Program}{U:Tr}[hU:e7 P U]{f:FuncId}{n:Nat}{R:Ending→World→Prop}{G:cm}{k k0:List Item}{L:eN}{H:List HP}{fn:Func}{F:List HP}{Post:Value→List HP→Prop}{p b:Nat}{t e:TypeId}{bJ:Ty}{cs:List Value}(i:Nat)(hR:Ends R G F Post)(hf:P.funcs[f]?=some fn)(hk:gK 1000 k0 = .mk (.code .ret::k))(xN:fn.results.toList=[.cell p t])(hp:dB L p=some (.pointer (some ⟨b,0,none⟩)))(ht:U.get t=some bJ)(hg:bJ.isAgg=true)(hl:cs.length=bJ.info.size)(hi:cf H i=some (ag b (cl cs e))){Hq:List HP}(eH:Post (.agg cs.toArray) Hq)(he:aq H (Hq++F)):K P f n R G k0 L H:=by
 refine fF 1000 hk ?_
 intro a w ha hw wx
 have gS:=G4 (P:=P) i ha hw xN hp ht hg hl hi
 rw[hR.1.1]
 exact⟨_,w,_,hR.2 _ _ w eH (hw.aX he),.one (stepR_ret rfl),rfl,rfl,by show a.defers=[];rw[ha.2,hR.1.2];rfl,rfl,fn,hf,gS⟩
end Go.SL
namespace Go.Proofs.YthjbidjmgbjkiaaGreatDoor
open Go Go.SL
attribute [local irreducible] J K aD Ends ag az aL bK aZ aQ aV bg bQ
theorem J0(n:Nat)(h1:1≤n)(h2:n≤31):IntKind.u64.wrap ((BitVec.ofInt IntKind.u64.bits (IntKind.u64.wrap (-(n:Int))) &&& BitVec.ofInt IntKind.u64.bits 31).toNat:Int)=((32-n:Nat):Int):=by
 have:∀n:Nat,n<32→1≤n→IntKind.u64.wrap ((BitVec.ofInt 64 (IntKind.u64.wrap (-(n:Int))) &&& BitVec.ofInt 64 31).toNat:Int)=((32-n:Nat):Int):=by decide
 exact this n ai h1
theorem tG(x:ir)(n:Nat)(h1:1≤n)(h2:n≤31):aD Tryz.prog 230 [u32 x,.int .i64 (-(n:Int))] [] (fun r H=>r=u32 (Sha.sH x n)∧H=[]):=by
 unfold u32
 refine aD.enter Tryz.func230 ak rfl Tryz.ntmps230 zr zr ?_
 intro G F R hE
 refine go ?_
 refine dW ?_
 refine jJ (U:=ao) zr zr zr zr zr zr ?_
 (refine nN ?_)
 ((refine bj 5 ((.int .u64 ((32-n:Nat):Int))) rfl ((congrArg (Value.int .u64) (J0 n h1 h2))) ?_))
 refine go ?_
 refine Fa (32-n) zr zr zr zr ai ?_
 (repeat(first|refine fk ?_|refine oX n zr zr zr ai ai ?_|refine CW zr zr zr ?_))
 ((refine ae hE Tryz.func230 rfl _ rfl ⟨rfl,rfl⟩ ad))
theorem ib(x:ir)(n:Nat)(h1:1≤n)(h2:n≤31):aD Tryz.prog 206 [u32 x,.int .i64 (n:Int)] [] (fun r H=>r=u32 (Sha.sH x n)∧H=[]):=by
 refine aD.enter Tryz.func206 ak rfl Tryz.ntmps206 zr zr ?_
 intro G F R hE
 refine go ?_
 refine T9 zr zr (by simp only[fz];omega) ?_
 ((refine ah zr zr zr zr (tG x n h1 h2) ad ?_ bE))
 rintro _ _⟨rfl,rfl⟩
 refine go ?_
 ((refine ae hE Tryz.func206 rfl _ rfl ⟨rfl,rfl⟩ ad))
set_option maxRecDepth 20000 in
theorem DM(A:HP)(v:Value)(b:List UInt8)(hv:dR A v b)(Ju:64≤b.length) :
  aD Tryz.prog 205 [v] [A] (fun r H=>r = .agg (wV (Sha.sched b 64)).toArray∧H=[A]):=by
 obtain⟨a,c,rfl,hc⟩:=hv.2
 have hf:=hv.front 64 Ju
 refine aD.enter Tryz.func205 ak rfl Tryz.ntmps205 zr zr ?_
 intro G F R hE
 refine aE rfl ?_
 refine aN (U:=ao) zr zr zr bp ?_
 intro b2
 (refine nN ?_)
 (refine aE rfl ?_;refine nN ?_)
 refine aN (U:=ao) zr zr zr bp ?_
 intro b3
 refine go ?_
 refine bG (U:=ao) (p:=0) (q:=64) zr zr zr zr zr zr zr ai ai (.inr ai) ?_
 ((refine aB 10 ((.slice (sliceAt a c 0 1) 64 c)) rfl (rfl) ?_))
 refine go ?_
 refine bo (fun i:Nat=>i≤64) (fun i=>64-i)
  (fun i=>[(2,ptr b2),(3,ptr b3),(10,.slice (sliceAt a c 0 1) 64 c),(11,.int .i64 64),(12,.int .i64 (i:Int))])
  (fun i=>ag b3 (cl (wV (Sha.lT b i)) 206)::ag b2 (cl (wV (List.replicate 64 0)) 206)::A::F) 0 (Nat.zero_le _) rfl bY (by rw[Sha.EE];exact ad) ?_
 rintro i hi ih
 refine go ?_
 refine aw zr zr ?_ ?_
 ·intro cO
  have Ca:i<64:=by omega
  obtain⟨x,hx⟩:∃x,b[i]?=some x:=⟨b[i]' ai,by simp⟩
  have hxd:b.getD i 0=x:=by rw[List.getD_eq_getElem?_getD,hx];rfl
  have pT:(bV (b.take 64))[i]?=some (u8 x):=by
   refine oP ?_
   rw[List.getElem?_take,if_pos Ca,hx]
  obtain⟨bb,oo,cc,fA⟩:=hf.1.some (by intro e;rw[e]at pT;simp at pT)
  simp only[Value.slice.injEq,true_and]at fA
  obtain⟨fA,-,rfl⟩:=fA
  have hlen:(b.take 64).length=64:=by rw[List.length_take];omega
  have hf2:=hf.1
  rw[fA,hlen]at hf2
  rw[fA]
  refine go ?_
  refine cK (U:=ao) i zr zr zr zr zr zr zr zr Ca ?_
  refine aJ ?_
  refine bB (U:=ao) 2 i zr zr zr hf2 rfl pT zr zr ?_
  refine go ?_
  refine aF (fun w=>Sat G w ([ag b3 (cl (wV (Sha.lT b i)) 206)])) (.st 0 (.st 1 (.st 2 (.st 3 (.st 4 (.st 5 (.st 6 (.st 7 (.st 8 (.st 9 (.st 10 (.st 11 (.st 12 (.act 13 .nil)))))))))))))) rfl ak ak ak (fun w hw=>hw.aX ad) ?_
  refine go ?_
  have hg:=Sha.kK b i (i/4) ai
  have hq:(i:Int)/4=((i/4:Nat):Int):=by omega
  have hr:24-8*((i:Int)%4)=((24-8*(i%4):Nat):Int):=by omega
  have abr:(wV (Sha.lT b i)).length=64:=by rw[j4,Sha.jB]
  (repeat(first|refine fk ?_|refine mR zr zr zr ai ai (by simp only[fz];omega) ?_|refine nI zr zr zr ai ai ?_|refine gi zr zr zr (by simp only[fz];omega) ?_|refine dF (U:=ao) (i/4) zr zr zr zr zr zr zr hq ai ?_|(refine aJ ?_;refine dU (U:=ao) 0 (i/4) zr zr zr (Nat.zero_add _) (gA hg) zr zr ?_)|(refine dW ?_;refine oW (U:=ao) zr zr zr zr zr zr ?_)|refine Fa (24-8*(i%4)) zr zr zr hr ai ?_|refine CW zr zr zr ?_))
  refine aS ?_
  refine fV (U:=ao) 0 fR zr zr zr zr zr zr zr (by rw[j4,Sha.jB];omega) rfl ?_
  rw[show 0+i/4=i/4 from Nat.zero_add _]
  refine go ?_
  have cE:=Sha.EF b i Ca
  rw[hxd]at cE
  have fM:(wV (Sha.lT b i)).set (i/4) (.int .u32 (((Sha.part b (i/4) (min 4 (i-4*(i/4))) ||| wB x <<< (24-8*(i%4))).toNat:Nat):Int))=wV (Sha.lT b (i+1)):=by
   rw[← cE,show min 4 (i-4*(i/4))=i%4 from by omega]
   exact u3 _ _ _
  rw[fM,← fA]
  refine aO ih (i+1) rfl ai ai bY ad
 intro eQ
 have H9:i=64:=by omega
 subst H9
 clear ih
 refine go ?_
 refine bo (fun t:Nat=>16≤t∧t≤64) (fun t=>64-t)
  (fun t=>[(2,ptr b2),(3,ptr b3),(6,.int .i64 (t:Int))])
  (fun t=>ag b3 (cl (wV (Sha.dS b t)) 206)::ag b2 (cl (wV (List.replicate 64 0)) 206)::A::F) 16 ⟨ai,ai⟩ rfl bY (by rw[Sha.Im];exact ad) ?_
 rintro t⟨HN,Ws⟩ ih
 have hlen:=Sha.qp b t Ws
 refine go ?_
 refine aw zr zr ?_ ?_
 ·intro cO
  have ht:t<64:=by omega
  have g2:=Sha.gD b t (t-2) ai
  have g7:=Sha.gD b t (t-7) ai
  have Y6:=Sha.gD b t (t-15) ai
  have Y5:=Sha.gD b t (t-16) ai
  refine go ?_
  refine aF (fun w=>Sat G w ([ag b3 (cl (wV (Sha.dS b t)) 206)])) (.st 0 (.st 1 (.st 2 (.st 3 (.st 4 (.st 5 (.st 6 (.st 7 (.st 8 (.st 9 .nil)))))))))) rfl ak ak ak (fun w hw=>hw.aX ad) ?_
  refine go ?_
  (repeat(first|refine fk ?_|refine dF (U:=ao) (t-2) zr zr zr zr zr zr zr ai ai ?_|refine dF (U:=ao) (t-15) zr zr zr zr zr zr zr ai ai ?_|(refine aJ ?_;first|refine dU (U:=ao) 0 (t-2) zr zr zr (Nat.zero_add _) (gA g2) zr zr ?_|refine dU (U:=ao) 0 (t-15) zr zr zr (Nat.zero_add _) (gA Y6) zr zr ?_)))
  ((refine ah zr zr zr zr (ib _ 17 ai ai) ad ?_ bE))
  rintro _ _⟨rfl,rfl⟩
  refine go ?_
  ((refine ah zr zr zr zr (ib _ 19 ai ai) ad ?_ bE))
  rintro _ _⟨rfl,rfl⟩
  (repeat(first|refine fk ?_|refine hG zr zr zr ?_|refine oX 10 zr zr zr zr ai ?_))
  ((refine ah zr zr zr zr (ib _ 7 ai ai) ad ?_ bE))
  rintro _ _⟨rfl,rfl⟩
  refine go ?_
  ((refine ah zr zr zr zr (ib _ 18 ai ai) ad ?_ bE))
  rintro _ _⟨rfl,rfl⟩
  (repeat(first|refine fk ?_|refine hG zr zr zr ?_|refine oX 3 zr zr zr zr ai ?_))
  refine aF (fun w=>Sat G w ([ag b3 (cl (wV (Sha.dS b t)) 206)])) (.st 0 (.st 1 (.st 2 (.st 3 (.st 4 (.st 5 (.st 6 (.st 7 (.st 8 (.st 9 (.st 10 (.st 11 (.st 12 (.st 13 (.st 14 (.act 15 .nil)))))))))))))))) rfl ak ak ak (fun w hw=>hw.aX ad) ?_
  refine go ?_
  (repeat(first|refine fk ?_|refine dF (U:=ao) (t-16) zr zr zr zr zr zr zr ai ai ?_|refine dF (U:=ao) (t-7) zr zr zr zr zr zr zr ai ai ?_|refine dF (U:=ao) t zr zr zr zr zr zr zr zr ht ?_|(refine aJ ?_;first|refine dU (U:=ao) 0 (t-16) zr zr zr (Nat.zero_add _) (gA Y5) zr zr ?_|refine dU (U:=ao) 0 (t-7) zr zr zr (Nat.zero_add _) (gA g7) zr zr ?_)|refine iV zr zr zr ?_))
  refine aS ?_
  refine fV (U:=ao) 0 fR zr zr zr zr zr zr zr (by rw[j4,hlen];omega) rfl ?_
  rw[show 0+t=t from Nat.zero_add _]
  refine go ?_
  have fM:=(u3 (Sha.dS b t) t _).trans (congrArg wV (Sha.tN b t HN ht))
  refine aj (H':=ag b3 (cl (wV (Sha.dS b (t+1))) 206)::ag b2 (cl (wV (List.replicate 64 0)) 206)::A::F) (by rw[← fM];exact aq.refl _) ?_
  refine aO ih (t+1) rfl ⟨ai,ai⟩ ai bY ad
 intro eQ
 have Eo:t=64:=by omega
 subst Eo
 rw[Sha.vq]
 have Cn:(wV (Sha.sched b 64)).length=64:=by rw[j4,Sha.dm]
 have fC:gJ (wV (Sha.sched b 64))=true:=eC _
 generalize wV (Sha.sched b 64)=W at Cn fC hE ⊢
 refine go ?_
 refine aI (U:=ao) 0 zr zr zr zr zr Cn ?_
 refine cn (U:=ao) 1 fR rfl rfl rfl Cn (by intro e;rw[e]at Cn;cases Cn) fC rfl (by rw[Cn];simp[j4]) rfl ?_
 refine go ?_
 refine iB (U:=ao) 1 hE Tryz.func205 zr zr zr zr zr Cn rfl ⟨rfl,rfl⟩ ad
def mX(X:HP):Prop:=Vw X (.slice (some ⟨0,0,none⟩) 64 64) 64 (wV Sha.ks)
theorem mX.mono{A B:HP}(h:mX A)(TI:∀h,B h→∃h',sub h' h∧A h'):mX B:=Vw.mono h TI
theorem KG{t:Nat}(h:t<64):Sha.ks[t]?=some (Sha.ks.getD t 0):=by
 rw[List.getD_eq_getElem?_getD,List.getElem?_eq_getElem (show t<Sha.ks.length from h)];rfl
def My(s:Sha.St):Value := .agg (wV s.l).toArray
set_option maxRecDepth 20000 in
theorem AW(A:HP)(hK:mX A)(v:Value)(b:List UInt8)(hv:dR A v b)(Ju:64≤b.length)(s:Sha.St) :
  aD Tryz.prog 173 [My s,v] [A] (fun r H=>r=My (Sha.chunk s b)∧H=[A]):=by
 have gw:=DM A v b hv Ju
 obtain⟨a,c,rfl,hc⟩:=hv.2
 unfold mX at hK
 have eA:(Sha.sched b 64).length=64:=Sha.dm b 64
 have Cg:Sha.chunk s b=Sha.plus s (Sha.rounds s (Sha.sched b 64) 64):=rfl
 rw[Cg]
 generalize Sha.sched b 64=W at gw eA ⊢
 obtain⟨s1,s2,s3,s4,s5,s6,s7,s8⟩:=s
 dsimp only [My,Sha.St.l,wV,List.map_cons,List.map_nil]
 refine aD.enter Tryz.func173 ak rfl Tryz.ntmps173 zr zr ?_
 intro G F R hE
 refine go ?_
 refine bq zr zr bp ?_
 intro b2
 refine go ?_
 refine aN (U:=ao) zr zr zr bp ?_
 intro b4
 refine go ?_
 refine aF (fun w=>Sat G w ([ag b2 (cl [u32 s1,u32 s2,u32 s3,u32 s4,u32 s5,u32 s6,u32 s7,u32 s8] 214)])) (.st 0 (.st 1 (.st 2 (.st 3 (.st 4 (.st 5 (.st 6 (.st 7 (.st 8 (.st 9 (.st 10 (.st 11 (.st 12 (.st 13 (.st 14 (.st 15 (.st 16 (.st 17 (.st 18 (.st 19 (.st 20 (.st 21 (.st 22 (.st 23 .nil)))))))))))))))))))))))) rfl ak ak ak (fun w hw=>hw.aX ad) ?_
 refine go ?_
 (repeat(first|refine fk ?_|refine iC (U:=ao) zr zr zr zr zr zr ai ai ?_))
 ((refine ah zr zr zr zr (gw) ad ?_ bE))
 rintro _ _⟨rfl,rfl⟩
 refine go ?_
 generalize hs:(⟨s1,s2,s3,s4,s5,s6,s7,s8⟩:Sha.St)=s at hE
 refine bo (fun t:Nat=>t≤64) (fun t=>64-t)
  (fun t=>[(2,ptr b2),(4,ptr b4),(34,.agg (wV W).toArray),(35,.int .i64 (t:Int)),(5,u32 (Sha.rounds s W t).a),(6,u32 (Sha.rounds s W t).b),(7,u32 (Sha.rounds s W t).c),(8,u32 (Sha.rounds s W t).d),(9,u32 (Sha.rounds s W t).e),(10,u32 (Sha.rounds s W t).f),(11,u32 (Sha.rounds s W t).g),(12,u32 (Sha.rounds s W t).h)])
  (fun _=>ag b4 (cl (wV (List.replicate 8 0)) 214)::ag b2 (cl [u32 s1,u32 s2,u32 s3,u32 s4,u32 s5,u32 s6,u32 s7,u32 s8] 214)::A::F) 0 (Nat.zero_le _) rfl (by subst hs;repeat(first|exact BT|refine yD rfl ?_)) ad ?_
 rintro t ht ih
 refine go ?_
 refine aw zr zr ?_ ?_
 ·intro cO
  have HN:t<64:=by omega
  have hr:Sha.rounds s W (t+1)=Sha.round (Sha.rounds s W t) (Sha.ks.getD t 0) (W.getD t 0):=rfl
  generalize Sha.rounds s W t=T at hr ⊢
  obtain⟨ta,tb,tc,td,te,tf,tg,th⟩:=T
  have Nt:(wV W).toArray.toList[((t:Nat):Int).toNat]?=some (u32 (W.getD t 0)):=by
   rw[Int.toNat_natCast]
   exact gA (by rw[List.getD_eq_getElem?_getD,List.getElem?_eq_getElem ai];rfl)
  have W1:=gA (KG HN)
  generalize Sha.ks.getD t 0=kt at hr W1
  generalize W.getD t 0=wt at hr Nt
  simp only
  refine go ?_
  refine xd (U:=ao) zr zr zr zr zr zr zr zr ai ai Nt ?_
  refine go ?_
  refine aF (fun w=>Sat G w ([A])) (.st 0 (.st 1 (.st 3 (.st 6 (.st 10 (.st 11 (.st 12 (.st 13 (.st 14 (.st 15 (.st 16 (.st 18 (.st 19 (.st 20 (.st 22 (.act 2 (.act 4 (.st 5 (.act 7 (.st 8 (.st 9 (.st 17 (.st 21 (.st 23 (.st 24 .nil))))))))))))))))))))))))) rfl ak ak ak (fun w hw=>hw.aX ad) ?_
  refine go ?_
  (repeat(first|refine fk ?_|refine dF (U:=ao) t zr zr zr zr zr zr zr zr HN ?_|(refine aJ ?_;refine cz (U:=ao) 0 t zr zr zr hK rfl W1 zr zr ?_)|refine hG zr zr zr ?_|refine AE zr zr zr ?_))
  ((refine ah rfl rfl rfl rfl ((ib _ 6 ai ai)) ad ?_ (fun _ _ w hp hw=>by obtain⟨rfl,rfl⟩:=hp;exact hw.aX ad)))
  rintro _ _⟨rfl,rfl⟩
  refine go ?_
  ((refine ah rfl rfl rfl rfl ((ib _ 11 ai ai)) ad ?_ (fun _ _ w hp hw=>by obtain⟨rfl,rfl⟩:=hp;exact hw.aX ad)))
  rintro _ _⟨rfl,rfl⟩
  refine go ?_
  (repeat((refine hG zr zr zr ?_)))
  ((refine ah rfl rfl rfl rfl ((ib _ 25 ai ai)) ad ?_ (fun _ _ w hp hw=>by obtain⟨rfl,rfl⟩:=hp;exact hw.aX ad)))
  rintro _ _⟨rfl,rfl⟩
  (repeat(first|refine fk ?_|refine hG zr zr zr ?_|refine iV zr zr zr ?_))
  ((refine ah zr zr zr zr (ib _ 2 ai ai) ad ?_ bE))
  rintro _ _⟨rfl,rfl⟩
  refine go ?_
  ((refine ah zr zr zr zr (ib _ 13 ai ai) ad ?_ bE))
  rintro _ _⟨rfl,rfl⟩
  (repeat(first|refine fk ?_|refine hG zr zr zr ?_))
  ((refine ah zr zr zr zr (ib _ 22 ai ai) ad ?_ bE))
  rintro _ _⟨rfl,rfl⟩
  (repeat(first|refine fk ?_|refine hG zr zr zr ?_|refine AE zr zr zr ?_|refine CW zr zr zr ?_|refine iV zr zr zr ?_))
  ((refine bj 5 ((u32 (Sha.rounds s W (t+1)).a)) rfl ((by rw[hr];rfl)) ?_))
  ((refine bj 6 ((u32 (Sha.rounds s W (t+1)).b)) rfl ((by rw[hr];rfl)) ?_))
  ((refine bj 7 ((u32 (Sha.rounds s W (t+1)).c)) rfl ((by rw[hr];rfl)) ?_))
  ((refine bj 8 ((u32 (Sha.rounds s W (t+1)).d)) rfl ((by rw[hr];rfl)) ?_))
  ((refine bj 9 ((u32 (Sha.rounds s W (t+1)).e)) rfl ((by rw[hr];rfl)) ?_))
  ((refine bj 10 ((u32 (Sha.rounds s W (t+1)).f)) rfl ((by rw[hr];rfl)) ?_))
  ((refine bj 11 ((u32 (Sha.rounds s W (t+1)).g)) rfl ((by rw[hr];rfl)) ?_))
  ((refine bj 12 ((u32 (Sha.rounds s W (t+1)).h)) rfl ((by rw[hr];rfl)) ?_))
  refine aO ih (t+1) rfl ai ai bY ad
 intro eQ
 have Eo:t=64:=by omega
 subst Eo
 have sI:My (Sha.plus s (Sha.rounds s W 64)) = .agg (List.map u32 [(Sha.plus s (Sha.rounds s W 64)).a,(Sha.plus s (Sha.rounds s W 64)).b,(Sha.plus s (Sha.rounds s W 64)).c,(Sha.plus s (Sha.rounds s W 64)).d,(Sha.plus s (Sha.rounds s W 64)).e,(Sha.plus s (Sha.rounds s W 64)).f,(Sha.plus s (Sha.rounds s W 64)).g,(Sha.plus s (Sha.rounds s W 64)).h]).toArray:=rfl
 rw[← sI]at hE
 clear sI Cg ih
 generalize Sha.rounds s W 64=T at hE ⊢
 obtain⟨ta,tb,tc,td,te,tf,tg,th⟩:=T
 subst hs
 simp only
 refine go ?_
 (repeat(first|refine fk ?_|refine iC (U:=ao) zr zr zr zr zr zr ai ai ?_|refine iV zr zr zr ?_))
 refine lx (U:=ao) zr zr zr zr zr zr ?_
 refine go ?_
 refine iB (U:=ao) 0 hE Tryz.func173 zr zr zr zr zr zr zr ⟨rfl,rfl⟩ ad
end Go.Proofs.YthjbidjmgbjkiaaGreatDoor
namespace Go.SL
open Go
def dV(x:Dg):Value := .agg (dC x).toArray
theorem TM{a b:Dg}(h:dV a=dV b):a=b:=by
 simp only[dV,Value.agg.injEq]at h
 exact TN (by simpa using congrArg Array.toList h)
section
variable{P:Program}
theorem N9{kt e:TypeId}(hu:P.underlying kt=some (.array 32 e))(he:P.underlying e=some (.int .u8))(hc:P.cellsOf e=1)(em:Bool)(k:Dg)(w:World):(Instr.checkKey em 10000 kt (dV k)).run P w = .ok () w:=by
 obtain⟨i,hi⟩:=info_of_underlying he
 have Dq:P.plainKey e=true:=by unfold Program.plainKey;rw[he]
 have g8:(sizeOf e).run P w = .ok 1 w:=by
  rw[Go.run_sizeOf w hi];congr 1
 rw[show(10000:Nat)=9999+1 from rfl,Instr.checkKey]
 simp only[Sem.run_bind,Go.run_underlying hu,Result.andThen_ok,dV]
 simp only[Std.Legacy.Range.forIn_eq_forIn_range',Std.Legacy.Range.size,Nat.sub_zero,Nat.add_one_sub_one,Nat.div_one]
 have each:∀j∈List.range' 0 32,j<32:=fun j hj=>by simp[List.mem_range']at hj;omega
 generalize List.range' 0 32=is at each
 induction is with
 | nil=>simp
 | cons j is ih =>
  have hj:=each j (by simp)
  have cZ:(dC k).toArray[j*1]?=some (u8 (k.at j)):=by
   rw[Nat.mul_one,dp]
   simp only[List.getElem?_toArray]
   rw[show bV k.bs=k.bs.map u8 from rfl,List.getElem?_map,List.getElem?_eq_getElem (by rw[k.len];exact hj)]
   simp[Dg.at,k.len,hj]
  have p1:(part e (dC k).toArray (j*1)).run P w = .ok (u8 (k.at j)) w:=run_part_plain w Dq cZ
  have p2:(Instr.checkKey em 9999 e (u8 (k.at j))).run P w = .ok () w:=by
   rw[show(9999:Nat)=9998+1 from rfl,Instr.checkKey]
   simp[Go.run_underlying he,u8]
  simp only[List.forIn_cons,Sem.run_bind,g8,Result.andThen_ok,p1,p2,Sem.run_pure]
  exact ih (fun y hy=>each y (by simp[hy]))
theorem Ba{kt e:TypeId}(hu:P.underlying kt=some (.array 32 e))(he:P.underlying e=some (.int .u8))(hc:P.cellsOf e=1)(a b:Dg)(w:World):(Op.equal kt (dV a) (dV b)).run P w = .ok (decide (a=b)) w :=
 qq hu he hc a b 9998 w
theorem We{kt e:TypeId}(hu:P.underlying kt=some (.array 32 e))(he:P.underlying e=some (.int .u8))(hc:P.cellsOf e=1):lq P kt dV where
 inj _ _:=TM
 check em k w:=N9 hu he hc em k w
 find k l ks w h:=by
  rw[run_findKey_eq (w:=w) (by rw[hu])]
  have key:∀(l:List MapEntry) (ks:List Dg) (o:Nat),l.map (·.key)=ks.map dV →
    ∃r,(Instr.findAsking kt (dV k) l o).run P w = .ok r w∧((r=none∧k ∉ ks)∨∃i e,r=some (o+i,e.val)∧l[i]?=some e∧ks[i]?=some k∧∀j,j<i→ks[j]? ≠ some k):=by
   intro l
   induction l with
   | nil =>
    intro ks o h
    have:ks=[]:=by simpa using h.symm
    subst this
    exact⟨none,by simp[Instr.findAsking],.inl ⟨rfl,by simp⟩⟩
   | cons en l ih =>
    intro ks o h
    cases ks with
    | nil=>simp at h
    | cons c ks =>
     simp only[List.map_cons,List.cons.injEq]at h
     obtain⟨h1,h2⟩:=h
     have hq:(Op.equal kt (dV k) en.key).run P w = .ok (decide (k=c)) w:=by rw[h1];exact Ba hu he hc k c w
     by_cases Jl:k=c
     ·subst Jl
      refine⟨some (o+0,en.val),by simp[Instr.findAsking,hq],.inr ⟨0,en,rfl,by simp,by simp,fun j hj=>absurd hj ai⟩⟩
     ·obtain⟨r,hr,ig⟩:=ih ks (o+1) h2
      refine⟨r,by simp[Instr.findAsking,hq,Jl,hr],?_⟩
      rcases ig with⟨rfl,hn⟩|⟨i,e',rfl,hi,hk,hj⟩
      ·exact .inl ⟨rfl,by simp[Jl,hn]⟩
      ·refine .inr ⟨i+1,e',by congr 2;omega,by simpa using hi,by simpa using hk,fun j nK=>?_⟩
       cases j with
       | zero=>simp;exact fun h=>Jl h.symm
       | succ j=>simpa using hj j ai
  obtain⟨r,hr,ig⟩:=key l ks 0 h
  refine⟨r,hr,?_⟩
  rcases ig with h|⟨i,e,hr,hi,hk,hj⟩
  ·exact .inl h
  ·exact .inr ⟨i,e,by rw[hr];simp,hi,hk,hj⟩
 bits k:=by
  rw[show(10000:Nat)=9999+1 from rfl]
  simp only[dV,Instr.sameBits,beq_self_eq_true,Bool.true_and,List.all_eq_true]
  have:∀(l:List UInt8),∀x∈((bV l).zip (bV l)),Instr.sameBits 9999 x.1 x.2=true:=by
   intro l
   induction l with
   | nil=>simp[bV]
   | cons c l ih =>
    intro x hx
    simp only[bV,List.map_cons,List.zip_cons_cons,List.mem_cons]at hx
    rcases hx with rfl|hx
    ·simp[u8,Instr.sameBits]
    ·exact ih x hx
  intro x hx
  rw[dp]at hx
  exact this k.bs x hx
end
end Go.SL
