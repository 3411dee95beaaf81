import Derived.Test.YtjpboghdolfekaaGreatDoorQMQ0
import Derived.Test.YtjpboghdolfekaaGreatDoorQMQ2
import Derived.Test.YtjpboghdolfekaaGreatDoorQMQ6
import Derived.Test.YtjpboghdolfekaaGreatDoorQMQ7
import Derived.Test.YtjpboghdolfekaaGreatDoorQMQ8
import Derived.Test.YtjpboghdolfekaaGreatDoorQMQ12
import Derived.Test.YtjpboghdolfekaaGreatDoorQMQ13
import Derived.Test.YtjpboghdolfekaaGreatDoorRows
import Derived.OpenShut
import Derived.ChangeArms
import Derived.ProofKit
import Derived.Handed
import Derived.JoinedOf
import Derived.RowKit
import Derived.WalkKit
import Derived.ShutString
import Derived.ChangeOld
import Derived.Below
import Derived.SizedLaws
import Derived.ChangeSame
import Derived.ChangeVars
import Derived.Test.YtjpboghdolfekaaGreatDoorProg
import GoSem.ClaimSeven
import Derived.KernelRfl
import Derived.Test.YtjpboghdolfekaaGreatDoorTie
import Derived.Test.YtjpboghdolfekaaGreatDoorCards
import Derived.SevenTiedAt
set_option linter.unnecessarySimpa false
set_option linter.unusedSectionVars false
set_option linter.unusedSimpArgs false
set_option linter.unusedVariables false
set_option maxHeartbeats 2000000
set_option maxRecDepth 100000
set_option linter.defProp false
namespace Go.Proofs.YtjpboghdolfekaaGreatDoor
open Go Go.SL
def ur{n lo hi:Int}(h:Bs n lo hi=true):lo≤n∧n≤hi:=by
 unfold Bs at h
 rw[Bool.and_eq_true]at h
 exact⟨of_decide_eq_true h.1,of_decide_eq_true h.2⟩
def BC{R R':Int}(hR:R≤R'):∀(L:List PL) (h:Hp),aJ (bQ R) L h→aJ (bQ R') L h
 | [],h,hs=>hs
 | x::L,h,hs=>dG (fun h h1=>LQ x.nb x.id x.bd hR h h1) (fun h h1=>BC hR L h h1) hs
def mR{R R':Int}(hR:R≤R')(L:List PL)(H:List HP):ak (aJ (bQ R) L::H) (aJ (bQ R') L::H):=fun h hs=>⟨h,sub.refl h,dG (fun h h1=>BC hR L h h1) (fun _ h=>h) hs⟩
attribute [local irreducible] J K aw Ends ag aH au bE aW aJ a6 aZ bI aG bN dD
def yE(X:HP)(s:EV)(hs:yg X s)(mb n:Nat)(now R:Int)(k:Nat)(hn:0≤now∧now≤1000000) :
  aw Tryz.prog 25 [ptr mb,.agg (lZ s).toArray] [bN mb n now R k] (fun r H=>∃e:Int,r = .int .i64 e∧H=[bN mb n now R k]):=by
 refine aw.opens (dw mb n now R k) ae fun y hy=>?_
 refine aw.enter Tryz.func25 ae rfl Tryz.ntmps25 zr zr ?_
 intro G F R' hE
 have hc:=ck mb n now R k y hy F
 unfold vG at hc
 refine ai (H':=ag mb (cl (iI n y.ob y.nt y.pa y.pc now y.na y.ds.length y.nc) 57)::ag y.ob (cl (iu y.tb y.im y.bm) 90)::ag y.tb (cl (jH y.tm) 134)::au dV y.tm []::au dV y.im y.fV::au dV y.bm y.iH::ag y.nt (cl (dm ((n:Int)+1+8) y.wa y.wc) 92)::aH 67 2 (.slice y.pa (n+1) y.pc) (n+1) (bF n y.L)::aH 35 32 (.slice y.na y.ds.length y.nc) y.ds.length (y.ds.flatMap dC)::aJ (bQ R) y.L::F) (ak.refl _) ?_
 refine aN rfl ?_
 refine bC zr zr bq ?_
 intro b3
 refine go ?_
 refine aR (H':=ag b3 (cl (lZ s) 40)::ag mb (cl (iI n y.ob y.nt y.pa y.pc now y.na y.ds.length y.nc) 57)::ag y.ob (cl (iu y.tb y.im y.bm) 90)::ag y.tb (cl (jH y.tm) 134)::au dV y.tm []::au dV y.im y.fV::au dV y.bm y.iH::ag y.nt (cl (dm ((n:Int)+1+8) y.wa y.wc) 92)::aH 67 2 (.slice y.pa (n+1) y.pc) (n+1) (bF n y.L)::aH 35 32 (.slice y.na y.ds.length y.nc) y.ds.length (y.ds.flatMap dC)::aJ (bQ R) y.L::F) ah ?_
 refine aF (jV s.n 0 1000) ?_
 cases hw:Bs s.n 0 1000 with
 | false =>
  refine go ?_
  refine ai (H':=bN mb n now R k::F) (ak.trans ah hc) ?_
  refine ad hE Tryz.func25 zr zr ⟨1,rfl,rfl⟩
 | true =>
 have hr:=ur hw
 refine go ?_
 by_cases h8:s.d=8
 ·refine aQ 10 ((.bool true)) rfl ((congrArg Value.bool (decide_eq_true h8))) (go ?_)
  refine aO (fun w=>Sat G w ([ag b3 (cl (lZ s) 40),ag mb (cl (iI n y.ob y.nt y.pa y.pc now y.na y.ds.length y.nc) 57)])) (cM 0 9 (.act 9 (.act 10 (.st 11 .nil)))) rfl ae ae ae dv ?_
  refine go ?_
  refine bP (qb mb n now y.ob y.nt y.pa y.pc y.na y.ds.length y.nc s.n hn aj) ?_
  refine go ?_
  refine bP (Ah y.nt _ y.wa y.wc s.i (now+s.n)) ?_
  refine go ?_
  refine ai (H':=bN mb n now R k::F) (ak.trans ah hc) ?_
  refine ad hE Tryz.func25 zr zr ⟨4,rfl,rfl⟩
 ·refine aQ 10 ((.bool false)) rfl ((congrArg Value.bool (decide_eq_false h8))) (go ?_)
  refine aO (fun w=>Sat G w ([ag b3 (cl (lZ s) 40),ag mb (cl (iI n y.ob y.nt y.pa y.pc now y.na y.ds.length y.nc) 57)])) (cM 0 9 (.act 9 (.act 10 (.st 11 .nil)))) rfl ae ae ae dv ?_
  refine go ?_
  refine bP (qb mb n now y.ob y.nt y.pa y.pc y.na y.ds.length y.nc s.n hn aj) ?_
  refine go ?_
  refine bP (EZ y.nt _ y.wa y.wc s.i (now+s.n)) ?_
  refine go ?_
  refine ai (H':=bN mb n now R k::F) (ak.trans ah hc) ?_
  refine ad hE Tryz.func25 zr zr ⟨4,rfl,rfl⟩
def KS(mb n:Nat)(now R:Int)(k:Nat)(seed:Int)(hn:0≤now∧now≤100000)(hR:R≤100000)(Pg:n≤16) :
  aw Tryz.prog 21 [ptr mb,.int .u64 seed] [bN mb n now R k] (fun r H=>H=[bN mb n (now+1) (R+((n:Int)+1)) k]):=by
 refine aw.opens (dw mb n now R k) ae fun y hy=>?_
 refine aw.enter Tryz.func21 ae rfl Tryz.ntmps21 zr zr ?_
 intro G F R' hE
 refine ai (H':=ag mb (cl (iI n y.ob y.nt y.pa y.pc now y.na y.ds.length y.nc) 57)::ag y.ob (cl (iu y.tb y.im y.bm) 90)::ag y.tb (cl (jH y.tm) 134)::au dV y.tm []::au dV y.im y.fV::au dV y.bm y.iH::ag y.nt (cl (dm ((n:Int)+1+8) y.wa y.wc) 92)::aH 67 2 (.slice y.pa (n+1) y.pc) (n+1) (bF n y.L)::aH 35 32 (.slice y.na y.ds.length y.nc) y.ds.length (y.ds.flatMap dC)::aJ (bQ R) y.L::F) (ak.refl _) ?_
 refine jP 7 rfl aj ?_
 intro xb xo xc he _ _ _
 simp only[Value.slice.injEq,true_and]at he
 obtain⟨Ap,rfl⟩:=he
 rw[Ap]
 refine go ?_
 refine aF (qb mb n now y.ob y.nt _ y.pc y.na y.ds.length y.nc 1 aj aj) ?_
 refine go ?_
 refine ai (H':=ag mb (cl (iI n y.ob y.nt (some ⟨xb,xo,none⟩) y.pc (now+1) y.na y.ds.length y.nc) 57)::ag y.ob (cl (iu y.tb y.im y.bm) 90)::ag y.tb (cl (jH y.tm) 134)::au dV y.tm []::au dV y.im y.fV::au dV y.bm y.iH::ag y.nt (cl (dm ((n:Int)+1+8) y.wa y.wc) 92)::aH 67 2 (.slice (some ⟨xb,xo,none⟩) (n+1) y.pc) (n+1) (bF n y.L)::aH 35 32 (.slice y.na y.ds.length y.nc) y.ds.length (y.ds.flatMap dC)::aJ (bQ R) y.L::F) ah ?_
 refine aO (fun w=>Sat G w ([ag mb (cl (iI n y.ob y.nt (some ⟨xb,xo,none⟩) y.pc (now+1) y.na y.ds.length y.nc) 57)])) (cM 0 8 (.act 8 (cM 9 5 .nil))) rfl ae ae ae dv ?_
 refine go ?_
 refine cP (IE y.nt _ y.wa y.wc (now+1) aj) ?_
 rintro _ _⟨da,dc,wa,wc,rfl,rfl⟩
 refine go ?_
 refine ik rfl (go ?_)
 refine aO (fun w=>Sat G w ([ag mb (cl (iI n y.ob y.nt (some ⟨xb,xo,none⟩) y.pc (now+1) y.na y.ds.length y.nc) 57)])) (cM 0 8 (.act 8 .nil)) rfl ae ae ae dv ?_
 refine go ?_
 refine aF (EK y.ob y.tb y.tm y.im y.bm (now+1) aj) ?_
 refine go ?_
 refine ai (H':=aJ (bQ (R+((0:Nat):Int))) y.L::ag mb (cl (iI n y.ob y.nt (some ⟨xb,xo,none⟩) y.pc (now+1) y.na y.ds.length y.nc) 57)::aH 67 2 (.slice (some ⟨xb,xo,none⟩) (n+1) y.pc) (n+1) (bF n y.L)::ag y.ob (cl (iu y.tb y.im y.bm) 90)::ag y.tb (cl (jH y.tm) 134)::au dV y.tm []::au dV y.im y.fV::au dV y.bm y.iH::ag y.nt (cl (dm ((n:Int)+1+8) wa wc) 92)::aH 35 32 (.slice y.na y.ds.length y.nc) y.ds.length (y.ds.flatMap dC)::F) (ak.trans (H2:=aJ (bQ R) y.L::ag mb (cl (iI n y.ob y.nt (some ⟨xb,xo,none⟩) y.pc (now+1) y.na y.ds.length y.nc) 57)::aH 67 2 (.slice (some ⟨xb,xo,none⟩) (n+1) y.pc) (n+1) (bF n y.L)::ag y.ob (cl (iu y.tb y.im y.bm) 90)::ag y.tb (cl (jH y.tm) 134)::au dV y.tm []::au dV y.im y.fV::au dV y.bm y.iH::ag y.nt (cl (dm ((n:Int)+1+8) wa wc) 92)::aH 35 32 (.slice y.na y.ds.length y.nc) y.ds.length (y.ds.flatMap dC)::F) ah (mR aj y.L _)) ?_
 refine bj (fun i:Nat=>i≤n+1) (fun i=>n+1-i) (fun i=>[(0,ptr mb),(1,.int .u64 seed),(52,.slice (some ⟨xb,xo,none⟩) (n+1) y.pc),(53,.int .i64 ((n+1:Nat):Int)),(54,.int .i64 (i:Int))])
  (fun i=>aJ (bQ (R+(i:Int))) y.L::ag mb (cl (iI n y.ob y.nt (some ⟨xb,xo,none⟩) y.pc (now+1) y.na y.ds.length y.nc) 57)::aH 67 2 (.slice (some ⟨xb,xo,none⟩) (n+1) y.pc) (n+1) (bF n y.L)::ag y.ob (cl (iu y.tb y.im y.bm) 90)::ag y.tb (cl (jH y.tm) 134)::au dV y.tm []::au dV y.im y.fV::au dV y.bm y.iH::ag y.nt (cl (dm ((n:Int)+1+8) wa wc) 92)::aH 35 32 (.slice y.na y.ds.length y.nc) y.ds.length (y.ds.flatMap dC)::F) 0 (Nat.zero_le _) rfl bO ah ?_
 rintro i hi ih
 refine dz 2 rfl ?_
 intro ud
 refine go ?_
 by_cases cB:i<n+1
 case neg =>
  obtain rfl:i=n+1:=by omega
  have hc:=ck mb n (now+1) (R+((n:Int)+1)) k { y with wa:=wa,wc:=wc } ⟨hy.ll,hy.pid,hy.e1,hy.e2,hy.nk,hy.nil⟩ F
  unfold vG at hc
  simp only[Ap]at hc
  rw[show R+((n+1:Nat):Int)=R+((n:Int)+1)from by omega]
  refine aQ 55 ((.bool false)) rfl ((congrArg Value.bool (decide_eq_false aj))) (go ?_)
  refine ai (H':=bN mb n (now+1) (R+((n:Int)+1)) k::F) (ak.trans ah hc) ?_
  refine bB hE Tryz.func21 rfl _ zr zr ah
 case pos =>
 refine aQ 55 ((.bool true)) rfl ((congrArg Value.bool (decide_eq_true aj))) (go ?_)
 cases i with
 | zero =>
  refine bM 0 2 zr zr zr zr zr zr zr zr aj ?_
  refine bZ (U:=aY) (es:=[.pointer none,.pointer none]) 2 (0*2) zr zr zr ud rfl (fun q v hq=>by
   have h2:q<2:=by rcases Nat.lt_or_ge q 2 with h|h;exact h;rw[List.getElem?_eq_none (by simpa using h)]at hq;cases hq
   unfold bF
   rw[List.getElem?_append_left (by simp only[List.length_cons,List.length_nil];omega)]
   simpa using hq) zr zr zr ?_
  refine aB zr zr zr bq ?_
  intro b9
  refine go ?_
  refine ai (H':=aJ (bQ (R+((1:Nat):Int))) y.L::ag mb (cl (iI n y.ob y.nt (some ⟨xb,xo,none⟩) y.pc (now+1) y.na y.ds.length y.nc) 57)::aH 67 2 (.slice (some ⟨xb,xo,none⟩) (n+1) y.pc) (n+1) (bF n y.L)::ag y.ob (cl (iu y.tb y.im y.bm) 90)::ag y.tb (cl (jH y.tm) 134)::au dV y.tm []::au dV y.im y.fV::au dV y.bm y.iH::ag y.nt (cl (dm ((n:Int)+1+8) wa wc) 92)::aH 35 32 (.slice y.na y.ds.length y.nc) y.ds.length (y.ds.flatMap dC)::F) (ak.trans (H2:=aJ (bQ (R+((0:Nat):Int))) y.L::ag mb (cl (iI n y.ob y.nt (some ⟨xb,xo,none⟩) y.pc (now+1) y.na y.ds.length y.nc) 57)::aH 67 2 (.slice (some ⟨xb,xo,none⟩) (n+1) y.pc) (n+1) (bF n y.L)::ag y.ob (cl (iu y.tb y.im y.bm) 90)::ag y.tb (cl (jH y.tm) 134)::au dV y.tm []::au dV y.im y.fV::au dV y.bm y.iH::ag y.nt (cl (dm ((n:Int)+1+8) wa wc) 92)::aH 35 32 (.slice y.na y.ds.length y.nc) y.ds.length (y.ds.flatMap dC)::F) ah (mR aj y.L _)) ?_
  refine aK ih 1 rfl aj aj bO ah
 | succ j =>
 have hj:j<y.L.length:=by have:=hy.ll;omega
 obtain⟨x,hx⟩:∃x,y.L[j]?=some x:=⟨y.L[j],by simp⟩
 refine bM (j+1) 2 zr zr zr zr zr zr zr zr cB ?_
 refine bZ (U:=aY) (es:=Bg x) 2 ((j+1)*2) zr zr zr ud rfl (fun q v hq=>by
  have h2:q<2:=by rcases Nat.lt_or_ge q 2 with h|h;exact h;rw[List.getElem?_eq_none (by simpa[Bg]using h)]at hq;cases hq
  rw[iw hx q h2]
  exact hq) zr zr zr ?_
 refine aB zr zr zr bq ?_
 intro b9
 refine go ?_
 refine ai (H':=bQ (R+((j+1:Nat):Int)) x::aJ (bQ (R+((j+1:Nat):Int))) (y.L.eraseIdx j)::ag b9 (cl [ptr x.bd,ptr x.nb] 67)::ag mb (cl (iI n y.ob y.nt (some ⟨xb,xo,none⟩) y.pc (now+1) y.na y.ds.length y.nc) 57)::aH 67 2 (.slice (some ⟨xb,xo,none⟩) (n+1) y.pc) (n+1) (bF n y.L)::ag y.ob (cl (iu y.tb y.im y.bm) 90)::ag y.tb (cl (jH y.tm) 134)::au dV y.tm []::au dV y.im y.fV::au dV y.bm y.iH::ag y.nt (cl (dm ((n:Int)+1+8) wa wc) 92)::aH 35 32 (.slice y.na y.ds.length y.nc) y.ds.length (y.ds.flatMap dC)::F) (ak.trans (H2:=aJ (bQ (R+((j+1:Nat):Int))) y.L::ag b9 (cl [ptr x.bd,ptr x.nb] 67)::ag mb (cl (iI n y.ob y.nt (some ⟨xb,xo,none⟩) y.pc (now+1) y.na y.ds.length y.nc) 57)::aH 67 2 (.slice (some ⟨xb,xo,none⟩) (n+1) y.pc) (n+1) (bF n y.L)::ag y.ob (cl (iu y.tb y.im y.bm) 90)::ag y.tb (cl (jH y.tm) 134)::au dV y.tm []::au dV y.im y.fV::au dV y.bm y.iH::ag y.nt (cl (dm ((n:Int)+1+8) wa wc) 92)::aH 35 32 (.slice y.na y.ds.length y.nc) y.ds.length (y.ds.flatMap dC)::F) ah (dF (bQ (R+((j+1:Nat):Int))) hx _)) ?_
 refine aO (fun w=>Sat G w ([ag b9 (cl [ptr x.bd,ptr x.nb] 67),ag mb (cl (iI n y.ob y.nt (some ⟨xb,xo,none⟩) y.pc (now+1) y.na y.ds.length y.nc) 57)])) (cM 0 10 (.act 10 (cM 11 5 .nil))) rfl ae ae ae dv ?_
 (repeat(first|refine eK ?_|refine Gc zr zr zr ?_))
 refine cP (JK x.nb x.id x.bd (R+((j+1:Nat):Int)) aj (now+1) _ aj) ?_
 rintro _ _⟨oa,oc,rfl,rfl⟩
 refine go ?_
 refine az (Ia mb _ oa oc) ?_
 rintro _ _ rfl
 refine go ?_
 refine ai (H':=aJ (bQ (R+((j+1+1:Nat):Int))) y.L::ag mb (cl (iI n y.ob y.nt (some ⟨xb,xo,none⟩) y.pc (now+1) y.na y.ds.length y.nc) 57)::aH 67 2 (.slice (some ⟨xb,xo,none⟩) (n+1) y.pc) (n+1) (bF n y.L)::ag y.ob (cl (iu y.tb y.im y.bm) 90)::ag y.tb (cl (jH y.tm) 134)::au dV y.tm []::au dV y.im y.fV::au dV y.bm y.iH::ag y.nt (cl (dm ((n:Int)+1+8) wa wc) 92)::aH 35 32 (.slice y.na y.ds.length y.nc) y.ds.length (y.ds.flatMap dC)::F) (ak.trans (H2:=aJ (bQ (R+((j+1:Nat):Int))) (y.L.eraseIdx j)::bQ (R+((j+1:Nat):Int)+1) x::ag mb (cl (iI n y.ob y.nt (some ⟨xb,xo,none⟩) y.pc (now+1) y.na y.ds.length y.nc) 57)::aH 67 2 (.slice (some ⟨xb,xo,none⟩) (n+1) y.pc) (n+1) (bF n y.L)::ag y.ob (cl (iu y.tb y.im y.bm) 90)::ag y.tb (cl (jH y.tm) 134)::au dV y.tm []::au dV y.im y.fV::au dV y.bm y.iH::ag y.nt (cl (dm ((n:Int)+1+8) wa wc) 92)::aH 35 32 (.slice y.na y.ds.length y.nc) y.ds.length (y.ds.flatMap dC)::F) ah (ak.trans (mR (R':=R+((j+1:Nat):Int)+1) aj _ _) (ak.trans (H2:=bQ (R+((j+1:Nat):Int)+1) x::aJ (bQ (R+((j+1:Nat):Int)+1)) (y.L.eraseIdx j)::ag mb (cl (iI n y.ob y.nt (some ⟨xb,xo,none⟩) y.pc (now+1) y.na y.ds.length y.nc) 57)::aH 67 2 (.slice (some ⟨xb,xo,none⟩) (n+1) y.pc) (n+1) (bF n y.L)::ag y.ob (cl (iu y.tb y.im y.bm) 90)::ag y.tb (cl (jH y.tm) 134)::au dV y.tm []::au dV y.im y.fV::au dV y.bm y.iH::ag y.nt (cl (dm ((n:Int)+1+8) wa wc) 92)::aH 35 32 (.slice y.na y.ds.length y.nc) y.ds.length (y.ds.flatMap dC)::F) ah (ak.trans (gp (bQ (R+((j+1:Nat):Int)+1)) hx _) (mR aj _ _))))) ?_
 refine aK ih (j+1+1) rfl aj aj bO ah
end Go.Proofs.YtjpboghdolfekaaGreatDoor
namespace Go.Proofs.YtjpboghdolfekaaGreatDoor
open Go Go.SL
def OL(L:List PL)(j:Nat)(z:PL)(x:PL)(h:L[j]?=some x)(hb:z.bd=x.bd):(L.set j z).flatMap Bg=(L.flatMap Bg).set (j*2+1) (ptr z.nb):=by
 induction L generalizing j with
 | nil=>simp at h
 | cons a L ih =>
  cases j with
  | zero =>
   simp only[List.getElem?_cons_zero,Option.some.injEq]at h
   subst h
   simp[Bg,hb]
  | succ j =>
   rw[List.set_cons_succ,List.flatMap_cons,List.flatMap_cons,ih j (by simpa using h)]
   rw[List.set_append_right _ _ (by show 2≤_;omega)]
   congr 2
   show j*2+1=(j+1)*2+1-2
   omega
def EW{n:Nat}{L:List PL}{j:Nat}{z x:PL}(h:L[j]?=some x)(hb:z.bd=x.bd):bF n (L.set j z)=(bF n L).set ((j+1)*2+1) (ptr z.nb):=by
 have hj:j<L.length:=(List.getElem?_eq_some_iff.1 h).1
 have hl:(L.flatMap Bg).length=L.length*2:=bt qN L
 unfold bF
 rw[List.length_set,OL L j z x h hb,List.set_append_right _ _ (by show 2≤_;omega),List.set_append_left _ _ (by show(j+1)*2+1-2<_;rw[hl];omega)]
 congr 3
 show j*2+1=(j+1)*2+1-2
 omega
attribute [local irreducible] J K aw Ends ag aH au bE aW aJ a6 aZ bI aG bN dD
def sA(X:HP)(hK:lL X)(s:EV)(hs:yg X s)(hb:s.b.length≤1000000)(h2:s.d≠2)(mb n:Nat)(adg:1≤s.node∧s.node≤n)(now R:Int)(hR:0≤R)(k:Nat)(Pg:n≤16) :
    aw Tryz.prog 29 [ptr mb,.agg (lZ s).toArray] [bN mb n now R k,X] (fun r H=>∃e:Int,r = .int .i64 e∧H=[bN mb n now R k,X]):=by
  refine aw.opens (dw mb n now R k) ae fun y hy=>?_
  obtain⟨d,node,i,kn,turn,h,la,lc,l,ba,bc,b,seed⟩:=s
  simp only at hb h2 adg
  obtain⟨j,rfl⟩:∃j:Nat,node=((j+1:Nat):Int):=⟨(node-1).toNat,aj⟩
  have hj:j<y.L.length:=by have:=hy.ll;omega
  obtain⟨x,hx⟩:∃x,y.L[j]?=some x:=⟨y.L[j],by simp⟩
  have sF:(bF n y.L)[(j+1)*2+0]?=some (ptr x.bd):=iw hx 0 aj
  have CP:(bF n y.L)[(j+1)*2+1]?=some (ptr x.nb):=iw hx 1 aj
  refine aw.enter Tryz.func29 ae rfl Tryz.ntmps29 zr zr ?_
  intro G F R' hE
  refine ai (H':=ag mb (cl (iI n y.ob y.nt y.pa y.pc now y.na y.ds.length y.nc) 57)::ag y.ob (cl (iu y.tb y.im y.bm) 90)::ag y.tb (cl (jH y.tm) 134)::au dV y.tm []::au dV y.im y.fV::au dV y.bm y.iH::ag y.nt (cl (dm ((n:Int)+1+8) y.wa y.wc) 92)::aH 67 2 (.slice y.pa (n+1) y.pc) (n+1) (bF n y.L)::aH 35 32 (.slice y.na y.ds.length y.nc) y.ds.length (y.ds.flatMap dC)::aJ (bQ R) y.L::X::F) (ak.refl _) ?_
  refine jP 7 rfl aj ?_
  intro xb xo xc he _ hlc ud
  simp only[Value.slice.injEq,true_and]at he
  obtain⟨Ap,rfl⟩:=he
  rw[Ap]at ud ⊢
  have hc:=ck mb n now R k y hy (X::F)
  unfold vG at hc
  simp only[Ap]at hc
  refine aN rfl ?_
  refine bC zr zr bq ?_
  intro b3
  refine go ?_
  refine ai (H':=ag b3 (cl (lZ ⟨d,((j+1:Nat):Int),i,kn,turn,h,la,lc,l,ba,bc,b,seed⟩) 40)::ag mb (cl (iI n y.ob y.nt (some ⟨xb,xo,none⟩) y.pc now y.na y.ds.length y.nc) 57)::ag y.ob (cl (iu y.tb y.im y.bm) 90)::ag y.tb (cl (jH y.tm) 134)::au dV y.tm []::au dV y.im y.fV::au dV y.bm y.iH::ag y.nt (cl (dm ((n:Int)+1+8) y.wa y.wc) 92)::aH 67 2 (.slice (some ⟨xb,xo,none⟩) (n+1) y.pc) (n+1) (bF n y.L)::aH 35 32 (.slice y.na y.ds.length y.nc) y.ds.length (y.ds.flatMap dC)::aJ (bQ R) y.L::X::F) ah ?_
  refine aO (fun w=>Sat G w ([ag b3 (cl (lZ ⟨d,((j+1:Nat):Int),i,kn,turn,h,la,lc,l,ba,bc,b,seed⟩) 40),ag mb (cl (iI n y.ob y.nt (some ⟨xb,xo,none⟩) y.pc now y.na y.ds.length y.nc) 57)])) (cM 0 8 .nil) rfl ae ae ae dv ?_
  (repeat(first|refine eK ?_|refine bM (j+1) 2 zr zr zr zr zr zr zr zr aj ?_))
  refine ai (H':=bQ R x::aJ (bQ R) (y.L.eraseIdx j)::ag b3 (cl (lZ ⟨d,((j+1:Nat):Int),i,kn,turn,h,la,lc,l,ba,bc,b,seed⟩) 40)::aH 67 2 (.slice (some ⟨xb,xo,none⟩) (n+1) y.pc) (n+1) (bF n y.L)::ag mb (cl (iI n y.ob y.nt (some ⟨xb,xo,none⟩) y.pc now y.na y.ds.length y.nc) 57)::X::ag y.ob (cl (iu y.tb y.im y.bm) 90)::ag y.tb (cl (jH y.tm) 134)::au dV y.tm []::au dV y.im y.fV::au dV y.bm y.iH::ag y.nt (cl (dm ((n:Int)+1+8) y.wa y.wc) 92)::aH 35 32 (.slice y.na y.ds.length y.nc) y.ds.length (y.ds.flatMap dC)::F) (ak.trans (H2:=aJ (bQ R) y.L::ag b3 (cl (lZ ⟨d,((j+1:Nat):Int),i,kn,turn,h,la,lc,l,ba,bc,b,seed⟩) 40)::aH 67 2 (.slice (some ⟨xb,xo,none⟩) (n+1) y.pc) (n+1) (bF n y.L)::ag mb (cl (iI n y.ob y.nt (some ⟨xb,xo,none⟩) y.pc now y.na y.ds.length y.nc) 57)::X::ag y.ob (cl (iu y.tb y.im y.bm) 90)::ag y.tb (cl (jH y.tm) 134)::au dV y.tm []::au dV y.im y.fV::au dV y.bm y.iH::ag y.nt (cl (dm ((n:Int)+1+8) y.wa y.wc) 92)::aH 35 32 (.slice y.na y.ds.length y.nc) y.ds.length (y.ds.flatMap dC)::F) ah (dF (bQ R) hx _)) ?_
  by_cases h5:d=5
  · refine aQ 13 ((.bool true)) rfl ((congrArg Value.bool (decide_eq_true h5))) (go ?_)
    refine aO (fun w=>Sat G w ([aH 67 2 (.slice (some ⟨xb,xo,none⟩) (n+1) y.pc) (n+1) (bF n y.L),ag b3 (cl (lZ ⟨d,((j+1:Nat):Int),i,kn,turn,h,la,lc,l,ba,bc,b,seed⟩) 40)])) (cM 0 13 (.act 13 .nil)) rfl ae ae ae dv ?_
    (repeat(first|refine eK ?_|(refine aS ?_;refine cV 0 ((j+1)*2+0) zr zr zr ud rfl sF zr zr ?_)))
    have htn:0≤turn∧turn≤255:=hs.turn
    refine sV (U:=aY) zr zr zr zr zr zr (by show fZ .i64 turn;simp only[fZ];omega) ?_
    have hcr:=Gi x.nb x.id x.bd R i kn turn X (.slice ba b.length bc) b hs.b.1 hs.bl hs.i hs.n aj
    refine az hcr ?_
    rintro _ _⟨A,hA,rfl⟩
    refine go ?_
    refine az (zp X hK mb n y.ob y.nt xb xo y.pc now y.na y.ds.length y.nc (bF n y.L) j aj Pg x.bd hlc sF A hA R hR) ?_
    rintro _ _⟨nb,rfl,rfl⟩
    refine go ?_
    have hz:=ck mb n now R k { y with L:=y.L.set j ⟨(j:Int)+1,x.bd,nb⟩ } ⟨by show(y.L.set j _).length=n;rw[List.length_set];exact hy.ll,fun q u hq=>by
      simp only[List.getElem?_set]at hq
      split at hq
      · rename_i hqj
        subst hqj
        rw[← Option.some.inj hq]
      · exact hy.pid q u hq,hy.e1,hy.e2,hy.nk,hy.nil⟩ (X::F)
    unfold vG at hz
    simp only[Ap]at hz
    rw[EW (z:=⟨(j:Int)+1,x.bd,nb⟩) hx rfl]at hz
    refine ai (H':=bN mb n now R k::X::F) (ak.trans (H2:=bQ R ⟨(j:Int)+1,x.bd,nb⟩::aJ (bQ R) (y.L.eraseIdx j)::ag mb (cl (iI n y.ob y.nt (some ⟨xb,xo,none⟩) y.pc now y.na y.ds.length y.nc) 57)::aH 67 2 (.slice (some ⟨xb,xo,none⟩) (n+1) y.pc) (n+1) ((bF n y.L).set ((j+1)*2+1) (ptr nb))::X::ag y.ob (cl (iu y.tb y.im y.bm) 90)::ag y.tb (cl (jH y.tm) 134)::au dV y.tm []::au dV y.im y.fV::au dV y.bm y.iH::ag y.nt (cl (dm ((n:Int)+1+8) y.wa y.wc) 92)::aH 35 32 (.slice y.na y.ds.length y.nc) y.ds.length (y.ds.flatMap dC)::F) ah (ak.trans (ke (bQ R) (y:=⟨(j:Int)+1,x.bd,nb⟩) hx _) (ak.trans ah hz))) ?_
    refine ad hE Tryz.func29 zr zr ⟨0,rfl,rfl⟩
  refine aQ 13 ((.bool false)) rfl ((congrArg Value.bool (decide_eq_false h5))) (go ?_)
  by_cases h6:d=6
  · refine aQ 35 ((.bool true)) rfl ((congrArg Value.bool (decide_eq_true h6))) (go ?_)
    refine aO (fun w=>Sat G w ([aH 67 2 (.slice (some ⟨xb,xo,none⟩) (n+1) y.pc) (n+1) (bF n y.L),ag b3 (cl (lZ ⟨d,((j+1:Nat):Int),i,kn,turn,h,la,lc,l,ba,bc,b,seed⟩) 40)])) (cM 0 6 (.act 6 .nil)) rfl ae ae ae dv ?_
    (repeat(first|refine eK ?_|(refine aS ?_;refine cV 0 ((j+1)*2+0) zr zr zr ud rfl sF zr zr ?_)))
    have uf:=JT x.nb x.id x.bd R X (.slice ba b.length bc) b hs.b.1 aj
    refine aF uf ?_
    refine go ?_
    refine ai (H':=bN mb n now R k::X::F) (ak.trans (H2:=bQ R x::aJ (bQ R) (y.L.eraseIdx j)::ag mb (cl (iI n y.ob y.nt (some ⟨xb,xo,none⟩) y.pc now y.na y.ds.length y.nc) 57)::aH 67 2 (.slice (some ⟨xb,xo,none⟩) (n+1) y.pc) (n+1) (bF n y.L)::X::ag y.ob (cl (iu y.tb y.im y.bm) 90)::ag y.tb (cl (jH y.tm) 134)::au dV y.tm []::au dV y.im y.fV::au dV y.bm y.iH::ag y.nt (cl (dm ((n:Int)+1+8) y.wa y.wc) 92)::aH 35 32 (.slice y.na y.ds.length y.nc) y.ds.length (y.ds.flatMap dC)::F) ah (ak.trans (gp (bQ R) hx _) (ak.trans ah hc))) ?_
    refine ad hE Tryz.func29 zr zr ⟨0,rfl,rfl⟩
  refine aQ 35 ((.bool false)) rfl ((congrArg Value.bool (decide_eq_false h6))) (go ?_)
  (repeat(first|refine eK ?_|(refine aS ?_;refine aP 3 ((j+1)*2+1) zr zr zr ud rfl CP zr zr ?_)))
  refine aQ 52 ((.bool false)) rfl ((congrArg Value.bool (decide_eq_false h2))) (go ?_)
  refine aO (fun w=>Sat G w ([aH 67 2 (.slice (some ⟨xb,xo,none⟩) (n+1) y.pc) (n+1) (bF n y.L),ag b3 (cl (lZ ⟨d,((j+1:Nat):Int),i,kn,turn,h,la,lc,l,ba,bc,b,seed⟩) 40)])) (cM 0 6 (.act 6 (.st 7 .nil))) rfl ae ae ae dv ?_
  (repeat(first|refine eK ?_|(refine aS ?_;refine cV 0 ((j+1)*2+1) zr zr zr ud rfl CP zr zr ?_)|refine cE (U:=aY) (cs:=dC h) 1 zr zr zr zr zr zr ?_))
  refine bP (Kd x.nb x.id x.bd R h) ?_
  refine go ?_
  refine ai (H':=bN mb n now R k::X::F) (ak.trans (H2:=bQ R x::aJ (bQ R) (y.L.eraseIdx j)::ag mb (cl (iI n y.ob y.nt (some ⟨xb,xo,none⟩) y.pc now y.na y.ds.length y.nc) 57)::aH 67 2 (.slice (some ⟨xb,xo,none⟩) (n+1) y.pc) (n+1) (bF n y.L)::X::ag y.ob (cl (iu y.tb y.im y.bm) 90)::ag y.tb (cl (jH y.tm) 134)::au dV y.tm []::au dV y.im y.fV::au dV y.bm y.iH::ag y.nt (cl (dm ((n:Int)+1+8) y.wa y.wc) 92)::aH 35 32 (.slice y.na y.ds.length y.nc) y.ds.length (y.ds.flatMap dC)::F) ah (ak.trans (gp (bQ R) hx _) (ak.trans ah hc))) ?_
  refine ad hE Tryz.func29 zr zr ⟨4,rfl,rfl⟩
end Go.Proofs.YtjpboghdolfekaaGreatDoor
namespace Go.Proofs.YtjpboghdolfekaaGreatDoor
open Go Go.SL
structure DoR(n:Nat)(s:EV)(now R:Int)(k:Nat)(e vy R':Int)(k':Nat):Prop where
 tt:now≤vy∧vy≤now+1
 rr:R≤R'∧R'≤R+17
 kk:k≤k'∧k'≤k+1
 d1:s.d=1→e=0∧vy=now+1∧k'=k
 d4:s.d=4→vy=now∧∀xs:List Bl,(s.l.map fun b=>gl b s.n)=xs.map some→df xs=0→k=0→e=0∧k'=1
def DoR.same{n:Nat}{s:EV}(now R:Int)(k:Nat)(e:Int)(h1:s.d≠1)(h4:s.d≠4):DoR n s now R k e now R k:=⟨aj,aj,aj,fun h=>absurd h h1,fun h=>absurd h h4⟩
attribute [local irreducible] J K aw Ends ag aH au bE aW aJ a6 aZ bI aG bN dD
def Gg(X:HP)(hK:lL X)(s:EV)(hs:yg X s)(hl:s.l.length≤100)(hle:∀x∈s.l,x.length≤100000)(hb:s.b.length≤1000000)(h2:s.d≠2)(PE:s.d≠11)(mb n:Nat)(Pg:n≤16)(now R:Int)(hn:0≤now∧now≤100000)(hR:0≤R∧R≤100000)(k:Nat)(hk:k≤1000) :
  aw Tryz.prog 8 [ptr mb,.agg (lZ s).toArray] [bN mb n now R k,X] (fun r H=>∃(e vy R':Int) (k':Nat),r = .int .i64 e∧DoR n s now R k e vy R' k'∧H=[bN mb n vy R' k',X]):=by
 refine aw.enter Tryz.func8 ae rfl Tryz.ntmps8 zr zr ?_
 intro G F R1 hE
 refine aN rfl ?_
 refine bC zr zr bq ?_
 intro b3
 refine go ?_
 refine ai (H':=ag b3 (cl (lZ s) 40)::bN mb n now R k::X::F) ah ?_
 by_cases h1:s.d=1
 ·refine aQ 7 ((.bool true)) rfl ((congrArg Value.bool (decide_eq_true h1))) (go ?_)
  refine az (KS mb n now R k s.seed hn hR.2 Pg) ?_
  rintro _ _ rfl
  refine go ?_
  refine ad hE Tryz.func8 zr zr ⟨0,now+1,R+((n:Int)+1),k,rfl,⟨aj,aj,aj,fun _=>⟨rfl,rfl,rfl⟩,fun h=>absurd (h1.symm.trans h) (by decide)⟩,rfl⟩
 refine aQ 7 ((.bool false)) rfl ((congrArg Value.bool (decide_eq_false h1))) (go ?_)
 by_cases h4:s.d=4
 ·refine aQ 13 ((.bool true)) rfl ((congrArg Value.bool (decide_eq_true h4))) (go ?_)
  refine aV (U:=aY) (l:=lZ s) 0 zr zr zr zr zr zr (go ?_)
  refine az (BY X hK s hs hl hle mb n now R k hk) ?_
  rintro _ _⟨e,k',rfl,hk',hx,rfl⟩
  refine go ?_
  ((refine ad hE Tryz.func8 zr zr ⟨e,now,R,k',rfl,⟨aj,aj,aj,fun h=>absurd h h1,fun _=>⟨rfl,fun xs a b c=>by obtain⟨p,q⟩:=hx xs a b c;exact⟨aj,q⟩⟩⟩,rfl⟩))
 refine aQ 13 ((.bool false)) rfl ((congrArg Value.bool (decide_eq_false h4))) (go ?_)
 have nu:=fun e=>DoR.same (n:=n) (s:=s) now R k e h1 h4
 by_cases h7:s.d=7
 ·refine aQ 18 ((.bool true)) rfl ((congrArg Value.bool (decide_eq_true h7))) (go ?_)
  refine ai (H':=bN mb n now R k::ag b3 (cl (lZ s) 40)::X::F) ah ?_
  refine cG (dw mb n now R k) ?_
  rintro y hy
  have hc:=ck mb n now R k y hy (X::F)
  unfold vG at hc
  refine ai (H':=ag mb (cl (iI n y.ob y.nt y.pa y.pc now y.na y.ds.length y.nc) 57)::ag y.ob (cl (iu y.tb y.im y.bm) 90)::ag y.tb (cl (jH y.tm) 134)::au dV y.tm []::au dV y.im y.fV::au dV y.bm y.iH::ag y.nt (cl (dm ((n:Int)+1+8) y.wa y.wc) 92)::aH 67 2 (.slice y.pa (n+1) y.pc) (n+1) (bF n y.L)::aH 35 32 (.slice y.na y.ds.length y.nc) y.ds.length (y.ds.flatMap dC)::aJ (bQ R) y.L::ag b3 (cl (lZ s) 40)::X::F) (ak.refl _) ?_
  refine aO (fun w=>Sat G w ([ag b3 (cl (lZ s) 40),ag mb (cl (iI n y.ob y.nt y.pa y.pc now y.na y.ds.length y.nc) 57)])) (cM 0 6 (.act 6 (.st 7 .nil))) rfl ae ae ae dv ?_
  refine go ?_
  refine bP (EY y.nt _ y.wa y.wc s.i) ?_
  refine go ?_
  refine ai (H':=bN mb n now R k::X::F) (ak.trans ah hc) ?_
  refine ad hE Tryz.func8 zr zr ⟨4,now,R,k,rfl,nu 4,rfl⟩
 refine aQ 18 ((.bool false)) rfl ((congrArg Value.bool (decide_eq_false h7))) (go ?_)
 by_cases h10:s.d=10
 ·refine aQ 27 ((.bool true)) rfl ((congrArg Value.bool (decide_eq_true h10))) (go ?_)
  refine ai (H':=bN mb n now R k::ag b3 (cl (lZ s) 40)::X::F) ah ?_
  refine cG (dw mb n now R k) ?_
  rintro y hy
  have hc:=ck mb n now R k y hy (X::F)
  unfold vG at hc
  refine ai (H':=ag mb (cl (iI n y.ob y.nt y.pa y.pc now y.na y.ds.length y.nc) 57)::ag y.ob (cl (iu y.tb y.im y.bm) 90)::ag y.tb (cl (jH y.tm) 134)::au dV y.tm []::au dV y.im y.fV::au dV y.bm y.iH::ag y.nt (cl (dm ((n:Int)+1+8) y.wa y.wc) 92)::aH 67 2 (.slice y.pa (n+1) y.pc) (n+1) (bF n y.L)::aH 35 32 (.slice y.na y.ds.length y.nc) y.ds.length (y.ds.flatMap dC)::aJ (bQ R) y.L::ag b3 (cl (lZ s) 40)::X::F) (ak.refl _) ?_
  refine aO (fun w=>Sat G w ([ag b3 (cl (lZ s) 40),ag mb (cl (iI n y.ob y.nt y.pa y.pc now y.na y.ds.length y.nc) 57)])) (cM 0 10 (.act 10 (.st 11 .nil))) rfl ae ae ae dv ?_
  refine go ?_
  refine bP (Cf y.nt _ y.wa y.wc s.i s.n s.turn) ?_
  refine go ?_
  refine ai (H':=bN mb n now R k::X::F) (ak.trans ah hc) ?_
  refine ad hE Tryz.func8 zr zr ⟨4,now,R,k,rfl,nu 4,rfl⟩
 refine aQ 27 ((.bool false)) rfl ((congrArg Value.bool (decide_eq_false h10))) (go ?_)
 by_cases h8:s.d=8
 ·refine aQ 40 ((.bool true)) rfl ((congrArg Value.bool (decide_eq_true h8))) (go ?_)
  refine aV (U:=aY) (l:=lZ s) 0 zr zr zr zr zr zr (go ?_)
  refine az (yE X s hs mb n now R k aj) ?_
  rintro _ _⟨e,rfl,rfl⟩
  refine go ?_
  refine ad hE Tryz.func8 zr zr ⟨e,now,R,k,rfl,nu e,rfl⟩
 refine aQ 40 ((.bool false)) rfl ((congrArg Value.bool (decide_eq_false h8))) (go ?_)
 by_cases h9:s.d=9
 ·refine aQ 40 ((.bool true)) rfl ((congrArg Value.bool (decide_eq_true h9))) (go ?_)
  refine aV (U:=aY) (l:=lZ s) 0 zr zr zr zr zr zr (go ?_)
  refine az (yE X s hs mb n now R k aj) ?_
  rintro _ _⟨e,rfl,rfl⟩
  refine go ?_
  refine ad hE Tryz.func8 zr zr ⟨e,now,R,k,rfl,nu e,rfl⟩
 refine aQ 40 ((.bool false)) rfl ((congrArg Value.bool (decide_eq_false h9))) (go ?_)
 refine aQ 46 ((.bool false)) rfl ((congrArg Value.bool (decide_eq_false PE))) (go ?_)
 refine aQ 89 ((.bool false)) rfl ((congrArg Value.bool (decide_eq_false h2))) (go ?_)
 by_cases h3:s.d=3
 ·refine aQ 89 ((.bool true)) rfl ((congrArg Value.bool (decide_eq_true h3))) (go ?_)
  refine aF (Av mb n now R k s.node) ?_
  cases hw:Bs s.node 1 n with
  | false =>
   refine go ?_
   refine ad hE Tryz.func8 zr zr ⟨1,now,R,k,rfl,nu 1,rfl⟩
  | true =>
  refine go ?_
  refine aV (U:=aY) (l:=lZ s) 1 zr zr zr zr zr zr (go ?_)
  refine az (sA X hK s hs hb h2 mb n (ur hw) now R hR.1 k Pg) ?_
  rintro _ _⟨e,rfl,rfl⟩
  refine go ?_
  refine ad hE Tryz.func8 zr zr ⟨e,now,R,k,rfl,nu e,rfl⟩
 refine aQ 89 ((.bool false)) rfl ((congrArg Value.bool (decide_eq_false h3))) (go ?_)
 by_cases h5:s.d=5
 ·refine aQ 89 ((.bool true)) rfl ((congrArg Value.bool (decide_eq_true h5))) (go ?_)
  refine aF (Av mb n now R k s.node) ?_
  cases hw:Bs s.node 1 n with
  | false =>
   refine go ?_
   refine ad hE Tryz.func8 zr zr ⟨1,now,R,k,rfl,nu 1,rfl⟩
  | true =>
  refine go ?_
  refine aV (U:=aY) (l:=lZ s) 1 zr zr zr zr zr zr (go ?_)
  refine az (sA X hK s hs hb h2 mb n (ur hw) now R hR.1 k Pg) ?_
  rintro _ _⟨e,rfl,rfl⟩
  refine go ?_
  refine ad hE Tryz.func8 zr zr ⟨e,now,R,k,rfl,nu e,rfl⟩
 refine aQ 89 ((.bool false)) rfl ((congrArg Value.bool (decide_eq_false h5))) (go ?_)
 by_cases h6:s.d=6
 ·refine aQ 89 ((.bool true)) rfl ((congrArg Value.bool (decide_eq_true h6))) (go ?_)
  refine aF (Av mb n now R k s.node) ?_
  cases hw:Bs s.node 1 n with
  | false =>
   refine go ?_
   refine ad hE Tryz.func8 zr zr ⟨1,now,R,k,rfl,nu 1,rfl⟩
  | true =>
  refine go ?_
  refine aV (U:=aY) (l:=lZ s) 1 zr zr zr zr zr zr (go ?_)
  refine az (sA X hK s hs hb h2 mb n (ur hw) now R hR.1 k Pg) ?_
  rintro _ _⟨e,rfl,rfl⟩
  refine go ?_
  refine ad hE Tryz.func8 zr zr ⟨e,now,R,k,rfl,nu e,rfl⟩
 refine aQ 89 ((.bool false)) rfl ((congrArg Value.bool (decide_eq_false h6))) (go ?_)
 refine ad hE Tryz.func8 zr zr ⟨1,now,R,k,rfl,nu 1,rfl⟩
end Go.Proofs.YtjpboghdolfekaaGreatDoor
open Go
namespace Go.SL
section
variable{P:Program}{U:Tr}[hU:eO P U]{f:FuncId}{n:Nat}{R:Ending→World→Prop}{G:cg}{k:List Item}{L:eC}{H H':List HP}{S:World→Prop}{all:Array Oper}{rest:Pl}{ty:TypeId}{pos:String}{af:Array Edge}{gd:Option (Nat × Bool)}{m:Bool}{d:Tmp}
theorem A7{x y:Operand}{t elem:TypeId}{bL te:Ty}{z u:Value}{p q:Nat}(sz:Nat)(hd:Nat.blt d n=true)(hx:ev L x=some (.int .i64 (p:Int)))(hy:ev L y=some (.int .i64 (q:Int)))(ht:U.get t=some bL)(hu:bL.fe = .slice elem)(he:U.get elem=some te)(hz:te.info.zero=some z)(G0:bg z=List.replicate sz u)(hs:te.info.size=sz)(js:0<sz)(Kt:p≤q)(hq0:0<q)(Fe:q≤9223372036854775807)(ny:te.info.bytes*q≤281474976710656)(hS:∀b w,Sat G w (ag b (cl (List.replicate (q*sz) u) elem)::H)→Sx rest S w)(h:∀b,J P f n R G S all rest k ((d,.slice (some ⟨b,0,none⟩) p q)::L) (ag b (cl (List.replicate (q*sz) u) elem)::H)) :
  J P f n R G S all (.cons false true ⟨some d,.makeSlice t x y,ty,pos,af,gd⟩ rest) k L H:=by
 refine lO hd (fun v H1=>∃b,v = .slice (some ⟨b,0,none⟩) p q∧H1=ag b (cl (List.replicate (q*sz) u) elem)::H) (fun a w ha hw=>?_) ?_ ?_
 ·refine⟨_,_,_,?_,⟨w.heap.size,rfl,rfl⟩,hw.alloc _⟩
  have wq:IntKind.i64.wrap (q:Int)=q:=cz (by simp only[fZ];omega)
  have wp:IntKind.i64.wrap (p:Int)=p:=cz (by simp only[fZ];omega)
  have hb:¬((281474976710656:Int)<(te.info.bytes:Int)*(q:Int)):=by omega
  have aaf:¬((q:Int)<(p:Int)):=by omega
  have v7:z.cells=(List.replicate sz u).toArray:=by rw[cW,G0]
  have af':¬((q:Int)<0):=by omega
  have G6:¬((p:Int)<0):=by omega
  have h0:¬q*sz=0:=by
   have:=Nat.mul_pos hq0 js
   omega
  have jy:(Array.range (q*sz)).map (fun i=>((List.replicate sz u).toArray:Array Value)[i%((List.replicate sz u).toArray:Array Value).size]!)=(List.replicate (q*sz) u).toArray:=by
   apply Array.ext
   ·simp
   ·intro i h1 h2
    have cB:i%sz<sz:=Nat.mod_lt _ js
    simp[cB]
  have nX:(Instr.makeSlice t (.int .i64 (p:Int)) (.int .i64 (q:Int))).run P w = .ok (.slice (some ⟨w.heap.size,0,none⟩) p q) { w with heap:=w.heap.push (.cells (List.replicate (q*sz) u).toArray elem) }:=by
   unfold Instr.makeSlice
   simp only[Sem.run_bind,run_underlying ht,Result.andThen_ok,hu,asInt,asIntOf,Sem.run_pure,run_typeInfo he,wp,wq]
   rw[if_neg (by simp[hb,aaf])]
   simp only[pure_bind,Sem.run_bind,run_askRoom,Result.andThen_ok,run_sizeOf he,hs,Int.toNat_natCast,h0,if_false,cY he hz,Sem.run_pure,v7,jy,newRow,run_newObj]
  simp only[execOp,ha.ev hx,ha.ev hy,Sem.run_bind,nX,Result.andThen_ok,Sem.run_pure,cl]
 ·grind
 grind
end
end Go.SL
namespace Go.Proofs.YtjpboghdolfekaaGreatDoor
open Go Go.SL
def iq(n:Int):List Value := .int .i64 n :: .int .i64 16777216 :: .int .i64 1::xC iD
def vz(n:Nat):bF n []=List.replicate ((n+1)*2) (.pointer none):=by
 unfold bF
 rw[show(n+1)*2=2*(n-([]:List PL).length)+1+1 from by simp only[List.length_nil];omega,List.replicate_succ,List.replicate_succ]
 rfl
def aen(A B:List Value)(u v w:Value):((A++u::u::B).set A.length v).set (A.length+1) w=A++v::w::B:=by
 rw[List.set_append_right _ _ (Nat.le_refl _),Nat.sub_self,List.set_cons_zero,List.set_append_right _ _ aj,show A.length+1-A.length=1 from by omega,List.set_cons_succ,List.set_cons_zero]
def EX{n:Nat}{L:List PL}(z:PL)(h:L.length<n):((bF n L).set ((L.length+1)*2+0) (ptr z.bd)).set ((L.length+1)*2+1) (ptr z.nb)=bF n (L++[z]):=by
 have hl:(L.flatMap Bg).length=L.length*2:=bt qN L
 obtain⟨q,hq⟩:∃q,n-L.length=q+1:=⟨n-L.length-1,aj⟩
 have hA:([Value.pointer none,Value.pointer none]++L.flatMap Bg).length=(L.length+1)*2:=by
  rw[List.length_append,hl]
  show 2+L.length*2=_
  omega
 have e1:bF n L=([Value.pointer none,Value.pointer none]++L.flatMap Bg)++Value.pointer none::Value.pointer none::List.replicate (2*q) (.pointer none):=by
  unfold bF
  rw[hq,show 2*(q+1)=2*q+1+1 from by omega,List.replicate_succ,List.replicate_succ,List.append_assoc]
 have e2:bF n (L++[z])=([Value.pointer none,Value.pointer none]++L.flatMap Bg)++ptr z.bd::ptr z.nb::List.replicate (2*q) (.pointer none):=by
  unfold bF
  rw[List.length_append,show n-(L.length+[z].length)=q from by simp only[List.length_singleton];omega]
  simp[Bg]
 rw[e1,e2,← hA]
 exact aen _ _ _ _ _
def Ea(g:PL→HP)(z:PL)(L:List PL)(H:List HP):ak (g z::aJ g L::H) (aJ g (L++[z])::H):=(mi g z L H).trans fun h hs=>⟨h,sub.refl h,dG (fun h h1=>oV ((List.perm_append_singleton z L).symm.map g) h h1) (fun _ h=>h) hs⟩
attribute [local irreducible] J K aw Ends ag aH au bE aW aJ a6 aZ bI aG bN dD
def yo(n:Int):aw Tryz.prog 7 [.int .i64 n] [] (fun r H=>r = .agg (iq n).toArray∧H=[]):=by
 refine aw.ao Tryz.func7 Tryz.ntmps7 fun G F R hE=>?_
 refine aN rfl ?_
 refine aB zr zr zr bq ?_
 intro b2
 refine go ?_
 (refine bh hE ?_;apply a7 (U:=aY) hE Tryz.func7 rfl (ak.refl _);(repeat(first|exact aT.nil|apply aT.agg 0 zr zr zr zr zr));exact⟨rfl,rfl⟩;exact ah)
def Hz(X:HP)(hK:lL X)(n:Nat)(hn:1≤n∧n≤16):aw Tryz.prog 6 [.agg (iq n).toArray] [X] (fun r H=>∃mb,r = .tuple #[ptr mb,.int .i64 0]∧H=[bN mb n 0 0 0,X]):=by
  refine aw.ao Tryz.func6 Tryz.ntmps6 fun G F R hE=>?_
  refine aN rfl ?_
  refine bC zr zr bq ?_
  intro b1
  refine aR (H':=ag b1 (cl (iq n) 32)::X::F) ah (go ?_)
  refine aF (jV n 1 16) ?_
  rw[mN aj]
  refine go ?_
  refine aF (jV 1 1 100) ?_
  rw[mN aj]
  refine go ?_
  refine aO (fun w=>Sat G w ([ag b1 (cl (iq n) 32)])) (cM 0 4 (.act 4 (.st 5 (.act 6 (.st 7 .nil))))) rfl ae ae ae dv ?_
  refine go ?_
  refine cm (U:=aY) (l:=iq n) 0 zr zr zr zr zr zr (go ?_)
  refine A7 (U:=aY) (p:=n+1) (q:=n+1) (u := .pointer none) 2 zr zr zr zr zr zr zr zr zr aj (Nat.le_refl _) aj aj (by show 16*(n+1)≤_;omega) (fun _ w hw=>hw.cp ah) ?_
  intro row
  refine go ?_
  refine bC zr zr (fun _ w hw=>hw.cp ah) ?_
  intro mb
  refine go ?_
  have jF:=fQ (e:=67) (sz:=2) (b:=row) (o:=0) (c:=n+1) (nn:=n+1) (cs:=List.replicate ((n+1)*2) (Value.pointer none)) (pre:=[]) (junk:=[]) rfl (Nat.le_refl _) (by simp) (by simp) (ag mb (cl (iq n++[.pointer none,.pointer none,.slice (some ⟨row,0,none⟩) (n+1) (n+1),.int .i64 0,.slice none 0 0]) 57)::ag b1 (cl (iq n) 32)::X::F)
  rw[List.nil_append,List.append_nil,← vz]at jF
  rw[← vz]
  refine aR (ak.trans ah jF) ?_
  refine aR (H':=ag mb (cl (iq n++[.pointer none,.pointer none,.slice (some ⟨row,0,none⟩) (n+1) (n+1),.int .i64 0,.slice none 0 0]) 57)::ag b1 (cl (iq n) 32)::aH 67 2 (.slice (some ⟨row,0,none⟩) (n+1) (n+1)) (n+1) (bF n [])::X::F) ah (go ?_)
  refine az IA ?_
  rintro _ _⟨ob,tb,tm,im,bm,rfl,rfl⟩
  refine go ?_
  (refine aX ?_;(refine bG 5 fE zr zr zr zr zr zr zr zr zr ?_))
  refine aR (H':=ag mb (cl (iq n++[ptr ob,.pointer none,.slice (some ⟨row,0,none⟩) (n+1) (n+1),.int .i64 0,.slice none 0 0]) 57)::ag b1 (cl (iq n) 32)::aH 67 2 (.slice (some ⟨row,0,none⟩) (n+1) (n+1)) (n+1) (bF n [])::ag ob (cl (iu tb im bm) 90)::ag tb (cl (jH tm) 134)::au dV tm []::au dV im []::au dV bm []::X::F) ah (go ?_)
  refine az (ID ((n:Int)+1+8) aj) ?_
  rintro _ _⟨nt,rfl,rfl⟩
  refine go ?_
  refine ai (H':=ag mb (cl (iI n ob nt (some ⟨row,0,none⟩) (n+1) 0 none 0 0) 57)::ag b1 (cl (iq n) 32)::aH 67 2 (.slice (some ⟨row,0,none⟩) (n+1) (n+1)) (n+1) (bF n [])::ag ob (cl (iu tb im bm) 90)::ag tb (cl (jH tm) 134)::au dV tm []::au dV im []::au dV bm []::ag nt (cl (dm ((n:Int)+1+8) none 0) 92)::X::F) ah ?_
  refine ai (sh (bQ 0) _) ?_
  refine bj (fun y:Nat × List PL=>y.1=y.2.length∧y.1≤n∧∀(i:Nat) (x:PL),y.2[i]?=some x→x.id=(i:Int)+1) (fun y=>n-y.1) (fun y=>[(1,ptr b1),(4,ptr mb),(45,.int .i64 (n:Int)),(46,.int .i64 (y.1:Int))])
    (fun y=>aJ (bQ 0) y.2::ag mb (cl (iI n ob nt (some ⟨row,0,none⟩) (n+1) 0 none 0 0) 57)::ag b1 (cl (iq n) 32)::aH 67 2 (.slice (some ⟨row,0,none⟩) (n+1) (n+1)) (n+1) (bF n y.2)::ag ob (cl (iu tb im bm) 90)::ag tb (cl (jH tm) 134)::au dV tm []::au dV im []::au dV bm []::ag nt (cl (dm ((n:Int)+1+8) none 0) 92)::X::F) (0,[]) ⟨rfl,Nat.zero_le _,fun i x h=>by simp at h⟩ rfl bO ah ?_
  rintro⟨q,L⟩⟨hq,hL,QP⟩ ih
  simp only at hq hL QP
  subst hq
  refine go ?_
  by_cases cB:L.length<n
  case neg =>
    have hLn:L.length=n:=by omega
    ((refine aQ 47 ((.bool false)) rfl ((congrArg Value.bool (decide_eq_false (by simp only;omega)))) ?_))
    refine go ?_
    have hc:=ck mb n 0 0 0 ⟨ob,tb,tm,im,bm,nt,none,0,some ⟨row,0,none⟩,n+1,none,0,[],[],[],L⟩ ⟨hLn,QP,(fun d v h=>by cases h),(fun d v h=>by cases h),rfl,fun _=>rfl⟩ (X::F)
    unfold vG at hc
    refine ai (bp 35 32 none _) ?_
    refine ai (H':=bN mb n 0 0 0::X::F) (ak.trans ah hc) ?_
    refine ad hE Tryz.func6 zr zr ⟨mb,rfl,rfl⟩
  case pos =>
  have uf:(bF n L).length=(n+1)*2:=by
    have h1:(L.flatMap Bg).length=L.length*2:=bt qN L
    unfold bF
    rw[List.length_append,List.length_append,h1,List.length_replicate]
    show 2+(L.length*2+2*(n-L.length))=_
    omega
  ((refine aQ 47 ((.bool true)) rfl ((congrArg Value.bool (decide_eq_true (by simp only;omega)))) ?_))
  refine go ?_
  refine az (NC 16777216 aj aj) ?_
  rintro _ _⟨bd,rfl,rfl⟩
  refine go ?_
  refine bM (L.length+1) 2 zr zr zr zr zr zr zr zr aj (go ?_)
  refine o5 (U:=aY) (q:=(L.length+1)*2+0) 4 fE rfl (Nat.add_assoc _ _ _) zr zr zr zr zr zr aj aj rfl (go ?_)
  have hbg:=zp X hK mb n ob nt row 0 (n+1) 0 none 0 0 ((bF n L).set ((L.length+1)*2+0) (ptr bd)) L.length aj hn.2 bd (by rw[List.length_set];exact uf) (by rw[List.getElem?_set_self (by rw[uf];omega)]) (Ab.new 16777216) QS.new 0 (Int.le_refl _)
  refine az hbg ?_
  rintro _ _⟨nb,rfl,rfl⟩
  have hna:=EX (n:=n) (L:=L) ⟨(L.length:Int)+1,bd,nb⟩ cB
  simp only at hna
  rw[hna]
  refine go ?_
  refine ai (H':=aJ (bQ 0) (L++[⟨(L.length:Int)+1,bd,nb⟩])::ag mb (cl (iI n ob nt (some ⟨row,0,none⟩) (n+1) 0 none 0 0) 57)::ag b1 (cl (iq n) 32)::aH 67 2 (.slice (some ⟨row,0,none⟩) (n+1) (n+1)) (n+1) (bF n (L++[⟨(L.length:Int)+1,bd,nb⟩]))::ag ob (cl (iu tb im bm) 90)::ag tb (cl (jH tm) 134)::au dV tm []::au dV im []::au dV bm []::ag nt (cl (dm ((n:Int)+1+8) none 0) 92)::X::F) (ak.trans (H2:=bQ 0 ⟨(L.length:Int)+1,bd,nb⟩::aJ (bQ 0) L::ag mb (cl (iI n ob nt (some ⟨row,0,none⟩) (n+1) 0 none 0 0) 57)::ag b1 (cl (iq n) 32)::aH 67 2 (.slice (some ⟨row,0,none⟩) (n+1) (n+1)) (n+1) (bF n (L++[⟨(L.length:Int)+1,bd,nb⟩]))::ag ob (cl (iu tb im bm) 90)::ag tb (cl (jH tm) 134)::au dV tm []::au dV im []::au dV bm []::ag nt (cl (dm ((n:Int)+1+8) none 0) 92)::X::F) ah (Ea (bQ 0) _ L _)) ?_
  refine aK ih (L.length+1,L++[⟨(L.length:Int)+1,bd,nb⟩]) rfl (⟨by simp,by show L.length+1≤n;omega,fun i x hx=>by
    rcases Nat.lt_or_ge i L.length with h|h
    · rw[List.getElem?_append_left h]at hx
      exact QP i x hx
    · rw[List.getElem?_append_right h]at hx
      have h0:i-L.length=0:=by
        rcases Nat.eq_zero_or_pos (i-L.length)with h1|h1
        · exact h1
        · rw[List.getElem?_eq_none (by simp only[List.length_singleton];exact h1)]at hx;cases hx
      rw[h0]at hx
      simp only[List.getElem?_cons_zero,Option.some.injEq]at hx
      rw[← hx]
      show(L.length:Int)+1=_
      omega⟩) (by show n-(L.length+1)<n-L.length;omega) bO ah
end Go.Proofs.YtjpboghdolfekaaGreatDoor
namespace Go.Proofs.YtjpboghdolfekaaGreatDoor
open Go Go.SL
structure AP(s:EV):Prop where
 b:s.b.length≤2000
 l:s.l.length≤5
 x:∀x∈s.l,x.length≤500
attribute [local irreducible] J K aw Ends ag aH au bE aW aJ a6 aZ bI
def E0(X:HP)(v:Value)(l:List EV)(hv:Vw X v l.length (l.flatMap lZ))(hl:l.length≤9223372036854775807)(hs:∀s∈l,yg X s) :
    aw Tryz.prog 5 [v] [X] (fun r H=>∃b:Bool,r = .bool b∧H=[X]∧(b=false→∀(i:Nat) (s:EV),i<200→l[i]?=some s→AP s)):=by
  obtain⟨a,c,rfl⟩:=hv.shape
  refine aw.ao Tryz.func5 Tryz.ntmps5 fun G F R hE=>?_
  refine go ?_
  refine bj (fun y:Nat × Nat=>y.1≤l.length∧y.1≤200∧y.2≤20000∧∀(i:Nat) (s:EV),i<y.1→l[i]?=some s→AP s) (fun y=>l.length-y.1)
    (fun y=>[(0,.slice a l.length c),(3,.int .i64 (y.2:Int)),(4,.int .i64 (y.1:Int))]) (fun _=>X::F) (0,0) ⟨aj,aj,aj,fun i s h=>by simp at h⟩ rfl bO ah ?_
  rintro⟨i,n⟩⟨hi,Kw,hn,nu⟩ ih
  simp only at hi Kw hn nu
  by_cases fR:i<l.length∧i<200
  case neg =>
    have jW:∀(j:Nat) (s:EV),j<200→l[j]?=some s→AP s:=fun j s hj hs=>nu j s (by
      rcases Nat.lt_or_ge j l.length with h|h
      · omega
      · rw[List.getElem?_eq_none h]at hs;cases hs) hs
    refine go ?_
    by_cases h1:i<l.length
    · refine aC 10 ((.bool true)) rfl ((congrArg Value.bool (decide_eq_true aj))) (go ?_)
      ((refine aQ 13 ((.bool false)) rfl ((congrArg Value.bool (decide_eq_false (by simp only;omega)))) ?_))
      refine go ?_
      refine ad hE Tryz.func5 zr zr ⟨false,rfl,rfl,fun _=>jW⟩
    · refine aC 10 ((.bool false)) rfl ((congrArg Value.bool (decide_eq_false aj))) (go ?_)
      refine ad hE Tryz.func5 zr zr ⟨false,rfl,rfl,fun _=>jW⟩
  obtain⟨xE,afQ⟩:=fR
  obtain⟨s,hx⟩:∃s,l[i]?=some s:=⟨l[i],by simp⟩
  have mL:=hs _ (List.mem_of_getElem? hx)
  have s37:(l.flatMap lZ)[i*40+37]?=some (.slice s.la s.l.length s.lc):=AA hx 37 aj
  have s38:(l.flatMap lZ)[i*40+38]?=some (.slice s.ba s.b.length s.bc):=AA hx 38 aj
  have hol:=mL.l
  obtain⟨bb,oo,cc,eR⟩:=hv.some (by rw[← List.length_pos_iff,bt rj];omega)
  simp only[Value.slice.injEq,true_and]at eR
  obtain⟨rfl,rfl⟩:=eR
  refine go ?_
  refine aC 10 ((.bool true)) rfl ((congrArg Value.bool (decide_eq_true aj))) (go ?_)
  ((refine aQ 13 ((.bool true)) rfl ((congrArg Value.bool (decide_eq_true (by simp only;omega)))) ?_))
  (repeat(first|refine eK ?_|refine bM i 40 zr zr zr zr zr zr zr zr xE ?_|(refine aS ?_;(refine aP 0 (i*40+38) zr zr zr hv (Nat.add_assoc _ _ _) s38 zr zr ?_))))
  by_cases pR:2000<s.b.length
  · refine aC 23 ((.bool true)) rfl ((congrArg Value.bool (decide_eq_true aj))) (go ?_)
    (refine ad hE Tryz.func5 zr zr ⟨true,rfl,rfl,fun h=>by cases h⟩)
  refine aC 23 ((.bool false)) rfl ((congrArg Value.bool (decide_eq_false aj))) ?_
  (repeat(first|refine eK ?_|refine bM i 40 zr zr zr zr zr zr zr zr xE ?_|(refine aS ?_;(refine aP 0 (i*40+37) zr zr zr hv (Nat.add_assoc _ _ _) s37 zr zr ?_))))
  by_cases hl5:5<s.l.length
  · refine aQ 31 ((.bool true)) rfl ((congrArg Value.bool (decide_eq_true aj))) (go ?_)
    (refine ad hE Tryz.func5 zr zr ⟨true,rfl,rfl,fun h=>by cases h⟩)
  refine aQ 31 ((.bool false)) rfl ((congrArg Value.bool (decide_eq_false aj))) ?_
  (repeat(first|refine eK ?_|refine bM i 40 zr zr zr zr zr zr zr zr xE ?_|(refine aS ?_;(refine aP 0 (i*40+38) zr zr zr hv (Nat.add_assoc _ _ _) s38 zr zr ?_))))
  obtain⟨csl,Od,jF,⟨al,cl',hal,agp⟩,rU⟩:=hol
  clear hal
  refine bj (fun y:Nat × Nat=>y.1≤s.l.length∧y.2≤22000+500*y.1∧∀(j:Nat) (x:List UInt8),j<y.1→s.l[j]?=some x→x.length≤500) (fun y=>s.l.length-y.1)
    (fun y=>[(0,.slice (some ⟨bb,oo,none⟩) l.length c),(3,.int .i64 (y.2:Int)),(4,.int .i64 (i:Int)),(5,.int .i64 (y.1:Int))]) (fun _=>X::F) (0,n+s.b.length) ⟨aj,by simp only;omega,fun j x h=>by simp at h⟩ rfl bO ah ?_
  rintro⟨j,n2⟩⟨hj,hn2,hjs⟩ O2
  simp only at hj hn2 hjs
  (repeat(first|refine eK ?_|refine bM i 40 zr zr zr zr zr zr zr zr xE ?_|(refine aS ?_;(refine aP 0 (i*40+37) zr zr zr hv (Nat.add_assoc _ _ _) s37 zr zr ?_))))
  refine aD zr zr ?_ ?_
  · intro cB
    simp only at cB
    have hj1:j<s.l.length:=by omega
    obtain⟨x,hxj⟩:∃x,s.l[j]?=some x:=⟨s.l[j],by simp⟩
    obtain⟨cv,n5,tM⟩:=rU j x hxj
    obtain⟨b1,o1,k1,pF⟩:=Od.some (by intro e;rw[e]at n5;simp at n5)
    simp only[Value.slice.injEq,true_and]at pF
    obtain⟨hla,hlc⟩:=pF
    rw[hla,hlc]at Od s37
    obtain⟨ax,kx,rfl,hkx⟩:=tM.2
    (repeat(first|refine eK ?_|refine bM i 40 zr zr zr zr zr zr zr zr xE ?_|(refine aS ?_;(refine aP 0 (i*40+37) zr zr zr hv (Nat.add_assoc _ _ _) s37 zr zr ?_))|refine bD j zr zr zr zr zr zr zr zr hj1 ?_|(refine aS ?_;refine aP 0 j zr zr zr Od rfl n5 zr zr ?_)))
    by_cases hx5:500<x.length
    · refine aQ 59 ((.bool true)) rfl ((congrArg Value.bool (decide_eq_true aj))) (go ?_)
      (refine ad hE Tryz.func5 zr zr ⟨true,rfl,rfl,fun h=>by cases h⟩)
    refine aQ 59 ((.bool false)) rfl ((congrArg Value.bool (decide_eq_false aj))) ?_
    (repeat(first|refine eK ?_|refine bM i 40 zr zr zr zr zr zr zr zr xE ?_|(refine aS ?_;(refine aP 0 (i*40+37) zr zr zr hv (Nat.add_assoc _ _ _) s37 zr zr ?_))|refine bD j zr zr zr zr zr zr zr zr hj1 ?_|(refine aS ?_;refine aP 0 j zr zr zr Od rfl n5 zr zr ?_)))
    refine aK O2 (j+1,n2+x.length) rfl ⟨by simp only;omega,by simp only;omega,fun q z hq hz=>?_⟩ (by simp only;omega) bO ah
    rcases Nat.lt_or_ge q j with h|h
    · exact hjs q z h hz
    · have:q=j:=by simp only at hq;omega
      subst this
      rw[hxj]at hz;cases hz;omega
  · intro eN
    simp only at eN
    have Al:AP s:=⟨aj,aj,fun x hxm=>by
      obtain⟨q,hq,rfl⟩:=List.getElem_of_mem hxm
      exact hjs q _ aj (List.getElem?_eq_getElem hq)⟩
    refine go ?_
    refine aD zr zr ?_ ?_
    · intro Au
      refine go ?_
      (refine ad hE Tryz.func5 zr zr ⟨true,rfl,rfl,fun h=>by cases h⟩)
    intro aeX
    simp only at aeX
    refine go ?_
    refine aK ih (i+1,n2) rfl ⟨by simp only;omega,by simp only;omega,by simp only;omega,fun q z hq hz=>?_⟩ (by simp only;omega) bO ah
    rcases Nat.lt_or_ge q i with h|h
    · exact nu q z h hz
    · have:q=i:=by simp only at hq;omega
      subst this
      rw[hx]at hz;cases hz;exact Al
end Go.Proofs.YtjpboghdolfekaaGreatDoor
namespace Go.Proofs.YtjpboghdolfekaaGreatDoor
open Go Go.SL
def NH(X:HP):qx X (.slice none 0 0) []:=⟨[],Vw.nil X none 0,rfl,⟨none,0,rfl,Nat.le_refl _⟩,fun i x h=>by simp at h⟩
def DS(X:HP):fb X (.slice none 0 0) []:=⟨Vw.nil X none 0,none,0,rfl,Nat.le_refl _⟩
def Qp:EV:=⟨1,0,0,0,0,Dg.zero,none,0,[],none,0,[],0⟩
def KT(X:HP):yg X Qp:=⟨by decide,by decide,by decide,by decide,by decide,NH X,by decide,(fun x h=>by cases h),DS X,by decide⟩
def acJ(r:Nat):EV:=⟨4,0,0,16,0,Dg.zero,some ⟨r,0,none⟩,1,[[7]],none,0,[],0⟩
attribute [local irreducible] J K aw Ends ag aH au bE aW aJ a6 aZ bI aG bN dD
def Dc(X:HP)(hK:lL X):aw Tryz.prog 4 [] [X] (fun r H=>r = .bool true∧H=[X]):=by
  obtain⟨x,hx⟩:=M7
  obtain⟨hr,js,QG,hwh⟩:=P4 hx
  have Ha:df [x]=0:=by
    unfold df
    rw[if_neg (by simp[hr])]
    rfl
  refine aw.ao Tryz.func4 Tryz.ntmps4 fun G F R hE=>?_
  refine go ?_
  refine aF (yo 1) ?_
  refine go ?_
  refine az (Hz X hK 1 aj) ?_
  rintro _ _⟨mb,rfl,rfl⟩
  refine go ?_
  refine aq (cs:=[.int .u8 7]) zr zr zr zr zr zr zr zr zr bq ?_
  intro r1
  refine go ?_
  refine aq (cs:=[.slice (some ⟨r1,0,none⟩) 1 1]) zr zr zr zr zr zr zr zr zr bq ?_
  intro r2
  refine go ?_
  refine aR (H':=ag r2 (cl [.slice (some ⟨r1,0,none⟩) 1 1] 37)::ag r1 (cl [.int .u8 7] 5)::X::bN mb 1 0 0 0::F) ah ?_
  have hK1:lL (Sep [ag r2 (cl [.slice (some ⟨r1,0,none⟩) 1 1] 37),ag r1 (cl [.int .u8 7] 5),X]):=hK.mono (bz (i:=2) rfl)
  have pF:yg (Sep [ag r2 (cl [.slice (some ⟨r1,0,none⟩) 1 1] 37),ag r1 (cl [.int .u8 7] 5),X]) (acJ r2):=⟨(show SL.i64 4 by decide),(show SL.i64 0 by decide),(show SL.i64 0 by decide),(show SL.i64 16 by decide),(show(0:Int)≤0∧(0:Int)≤255 by decide),
    ⟨[.slice (some ⟨r1,0,none⟩) 1 1],(Vw.ag rfl).mono (bz (i:=0) rfl),rfl,⟨_,_,rfl,Nat.le_refl _⟩,fun i z hz=>by
      have hz:([[7]]:List (List UInt8))[i]?=some z:=hz
      cases i with
      | zero =>
        simp only[List.getElem?_cons_zero,Option.some.injEq]at hz
        subst hz
        exact⟨_,rfl,(Vw.ag rfl).mono (bz (i:=1) rfl),_,_,rfl,Nat.le_refl _⟩
      | succ i=>simp at hz⟩,(show 1≤9223372036854775807 by decide),(fun z hz=>by rw[List.mem_singleton.1 hz];decide),DS _,(show 0≤9223372036854775807 by decide)⟩
  refine aR (ak.bT [_,_,_] _) ?_
  ((refine az (Gg _ hK1 (acJ r2) pF (show 1≤100 by decide) (by intro z hz;rw[List.mem_singleton.1 hz];decide) (show 0≤1000000 by decide) (show(4:Int)≠2 by decide) (show(4:Int)≠11 by decide) mb 1 aj 0 0 aj aj 0 aj) ?_))
  rintro _ _⟨e,vy,R',k',rfl,hd,rfl⟩
  obtain⟨rfl,h4⟩:=hd.d4 rfl
  obtain⟨rfl,rfl⟩:=h4 [x] (by show [gl [7] 16]=[some x];rw[hx]) Ha rfl
  have hrr:=hd.rr
  refine aR (ak.trans (H2:=Sep [ag r2 (cl [.slice (some ⟨r1,0,none⟩) 1 1] 37),ag r1 (cl [.int .u8 7] 5),X]::bN mb 1 0 R' 1::F) ah (ak.cL _ _)) (go ?_)
  refine az (Cj mb 1 0 R' 1 aj) ?_
  rintro _ _⟨na,nc,rfl,rfl⟩
  refine go ?_
  refine az (Gg X hK Qp (KT X) (show 0≤100 by decide) (fun z hz=>by cases hz) (show 0≤1000000 by decide) (show(1:Int)≠2 by decide) (show(1:Int)≠11 by decide) mb 1 aj 0 R' aj aj 1 aj) ?_
  rintro _ _⟨e2,af3,R2,k2,rfl,CL,rfl⟩
  obtain⟨rfl,hn2,rfl⟩:=CL.d1 rfl
  subst hn2
  refine go ?_
  refine aF (IK mb 1 _ R2 1) ?_
  refine go ?_
  refine aF (AN mb 1 _ R2 1 1) ?_
  refine go ?_
  refine ad hE Tryz.func4 zr zr ⟨rfl,rfl⟩
end Go.Proofs.YtjpboghdolfekaaGreatDoor
namespace Go.Proofs.YtjpboghdolfekaaGreatDoor
open Go Go.SL
structure MqS where
 i:Nat
 now:Int
 R:Int
 k:Nat
def evE{l:List EV}{i:Nat}{x:EV}(hx:l[i]?=some x)(q:Nat)(v:Value)(hq:(lZ x)[q]?=some v):(l.flatMap lZ)[i*40+q]?=some v:=by
 rw[AA hx q (by rcases Nat.lt_or_ge q 40 with h|h;exact h;rw[List.getElem?_eq_none (by rw[rj];exact h)]at hq;cases hq)]
 exact hq
attribute [local irreducible] J K aw Ends ag aH au bE aW aJ a6 aZ bI aG bN dD
def yd(X:HP)(hK:lL X)(nodes:Int)(v:Value)(l:List EV)(hl:xu X v l) :
  aw Tryz.prog 3 [.int .i64 nodes,v] [X] (fun r H=>r = .bool true∧H=[X]):=by
 obtain⟨hv,hlen,mL⟩:=hl
 have hmu:=E0 X v l hv hlen mL
 obtain⟨a,c,rfl⟩:=hv.shape
 refine aw.enter Tryz.func3 ae rfl Tryz.ntmps3 zr zr ?_
 intro G F R' hE
 refine go ?_
 refine aF (Dc X hK) ?_
 refine go ?_
 refine az hmu ?_
 rintro _ _⟨b,rfl,rfl,nu⟩
 cases b with
 | true =>
  refine go ?_
  refine ad hE Tryz.func3 zr zr ⟨rfl,rfl⟩
 | false =>
 have nu:=nu rfl
 refine go ?_
 by_cases h1:nodes<1
 ·refine aC 23 ((.bool true)) rfl ((congrArg Value.bool (decide_eq_true h1))) (go ?_)
  refine ad hE Tryz.func3 zr zr ⟨rfl,rfl⟩
 refine aC 23 ((.bool false)) rfl ((congrArg Value.bool (decide_eq_false h1))) (go ?_)
 by_cases h3:3<nodes
 ·refine aQ 26 ((.bool true)) rfl ((congrArg Value.bool (decide_eq_true h3))) (go ?_)
  refine ad hE Tryz.func3 zr zr ⟨rfl,rfl⟩
 refine aQ 26 ((.bool false)) rfl ((congrArg Value.bool (decide_eq_false h3))) (go ?_)
 obtain⟨n,rfl⟩:∃n:Nat,nodes=(n:Int):=⟨nodes.toNat,aj⟩
 refine aF (yo n) ?_
 refine go ?_
 refine az (Hz X hK n aj) ?_
 rintro _ _⟨mb,rfl,rfl⟩
 refine go ?_
 refine bj (fun y:MqS=>y.i≤l.length∧y.i≤100∧(0≤y.now∧y.now≤y.i)∧(0≤y.R∧y.R≤17*y.i)∧y.k≤y.i) (fun y=>l.length-y.i)
  (fun y=>[(0,.int .i64 (n:Int)),(1,.slice a l.length c),(7,ptr mb),(9,.int .i64 (y.i:Int))]) (fun y=>bN mb n y.now y.R y.k::X::F) ⟨0,0,0,0⟩ ⟨by simp only;omega,by simp only;omega,by simp only;omega,by simp only;omega,by simp only;omega⟩ rfl bO ah ?_
 rintro⟨i,now,R,k⟩⟨hi,Kw,Mv,hR,hk⟩ ih
 simp only at hi Kw Mv hR hk
 by_cases fR:i<l.length∧i<100
 case neg =>
  refine go ?_
  by_cases h1:i<l.length
  ·((refine aC 44 ((.bool true)) rfl ((congrArg Value.bool (decide_eq_true (by simp only;omega)))) ?_))
   refine go ?_
   ((refine aQ 47 ((.bool false)) rfl ((congrArg Value.bool (decide_eq_false (by simp only;omega)))) ?_))
   refine go ?_
   refine bj (fun j:Nat=>1≤j∧j≤n+1) (fun j=>n+1-j) (fun j=>[(0,.int .i64 (n:Int)),(7,ptr mb),(10,.int .i64 (j:Int))]) (fun _=>bN mb n now R k::X::F) 1 ⟨Nat.le_refl _,aj⟩ rfl bO ah ?_
   rintro j⟨hj1,QO⟩ ih
   refine go ?_
   by_cases hj:j≤n
   ·refine aQ 75 ((.bool true)) rfl ((congrArg Value.bool (decide_eq_true aj))) (go ?_)
    refine az (tB mb n now R k j aj) ?_
    rintro _ _⟨_,_,rfl,rfl⟩
    refine go ?_
    refine az (vH mb n now R k j aj) ?_
    rintro _ _⟨_,_,rfl,rfl⟩
    refine go ?_
    refine az (qU mb n now R k j aj) ?_
    rintro _ _⟨_,_,rfl,rfl⟩
    refine go ?_
    refine aK ih (j+1) rfl (⟨aj,aj⟩) aj bO ah
   ·refine aQ 75 ((.bool false)) rfl ((congrArg Value.bool (decide_eq_false aj))) (go ?_)
    refine ad hE Tryz.func3 zr zr ⟨rfl,rfl⟩
  ·((refine aC 44 ((.bool false)) rfl ((congrArg Value.bool (decide_eq_false (by simp only;omega)))) ?_))
   refine go ?_
   refine bj (fun j:Nat=>1≤j∧j≤n+1) (fun j=>n+1-j) (fun j=>[(0,.int .i64 (n:Int)),(7,ptr mb),(10,.int .i64 (j:Int))]) (fun _=>bN mb n now R k::X::F) 1 ⟨Nat.le_refl _,aj⟩ rfl bO ah ?_
   rintro j⟨hj1,QO⟩ ih
   refine go ?_
   by_cases hj:j≤n
   ·refine aQ 75 ((.bool true)) rfl ((congrArg Value.bool (decide_eq_true aj))) (go ?_)
    refine az (tB mb n now R k j aj) ?_
    rintro _ _⟨_,_,rfl,rfl⟩
    refine go ?_
    refine az (vH mb n now R k j aj) ?_
    rintro _ _⟨_,_,rfl,rfl⟩
    refine go ?_
    refine az (qU mb n now R k j aj) ?_
    rintro _ _⟨_,_,rfl,rfl⟩
    refine go ?_
    refine aK ih (j+1) rfl (⟨aj,aj⟩) aj bO ah
   ·refine aQ 75 ((.bool false)) rfl ((congrArg Value.bool (decide_eq_false aj))) (go ?_)
    refine ad hE Tryz.func3 zr zr ⟨rfl,rfl⟩
 case pos =>
 obtain⟨xE,afR⟩:=fR
 obtain⟨s,hx⟩:∃s,l[i]?=some s:=⟨l[i],by simp⟩
 have hos:=mL _ (List.mem_of_getElem? hx)
 have Mp:=nu i s aj hx
 have s0:(l.flatMap lZ)[i*40+0]?=some (.int .i64 s.d):=AA hx 0 aj
 obtain⟨bb,oo,cc,eR⟩:=hv.some (by rw[← List.length_pos_iff,bt rj];omega)
 simp only[Value.slice.injEq,true_and]at eR
 obtain⟨rfl,rfl⟩:=eR
 refine go ?_
 ((refine aC 44 ((.bool true)) rfl ((congrArg Value.bool (decide_eq_true (by simp only;omega)))) ?_))
 refine go ?_
 ((refine aQ 47 ((.bool true)) rfl ((congrArg Value.bool (decide_eq_true (by simp only;omega)))) ?_))
 (repeat(first|refine eK ?_|refine bM i 40 zr zr zr zr zr zr zr zr xE ?_|(refine aS ?_;refine aP 1 (i*40+0) zr zr zr hv (Nat.add_assoc _ _ _) s0 zr zr ?_)))
 by_cases CL:s.d=2
 ·refine aC 56 ((.bool true)) rfl ((congrArg Value.bool (decide_eq_true CL))) (go ?_)
  refine aK ih (MqS.mk (i+1) now R k) rfl (⟨by simp only;omega,by simp only;omega,by simp only;omega,by simp only;omega,by simp only;omega⟩) (by simp only;omega) bO ah
 refine aC 56 ((.bool false)) rfl ((congrArg Value.bool (decide_eq_false CL))) ?_
 (repeat(first|refine eK ?_|refine bM i 40 zr zr zr zr zr zr zr zr xE ?_|(refine aS ?_;refine aP 1 (i*40+0) zr zr zr hv (Nat.add_assoc _ _ _) s0 zr zr ?_)))
 by_cases aay:s.d=11
 ·refine aQ 63 ((.bool true)) rfl ((congrArg Value.bool (decide_eq_true aay))) (go ?_)
  refine aK ih (MqS.mk (i+1) now R k) rfl (⟨by simp only;omega,by simp only;omega,by simp only;omega,by simp only;omega,by simp only;omega⟩) (by simp only;omega) bO ah
 refine aQ 63 ((.bool false)) rfl ((congrArg Value.bool (decide_eq_false aay))) ?_
 (repeat(first|refine eK ?_|refine bM i 40 zr zr zr zr zr zr zr zr xE ?_|refine bZ (U:=aY) (es:=lZ s) 1 (i*40) zr zr zr hv rfl (evE hx) zr zr zr ?_))
 ((refine az (Gg X hK s hos (by have:=Mp.l;omega) (fun z hz=>by have:=Mp.x z hz;omega) (by have:=Mp.b;omega) CL aay mb n aj now R aj aj k aj) ?_))
 rintro _ _⟨e,vy,R1,k',rfl,hd,rfl⟩
 have ht:=hd.tt
 have hr:=hd.rr
 have hkk:=hd.kk
 refine go ?_
 refine aF (IJ mb n vy R1 k') ?_
 refine go ?_
 refine aK ih (MqS.mk (i+1) vy R1 k') rfl (⟨by simp only;omega,by simp only;omega,by simp only;omega,by simp only;omega,by simp only;omega⟩) (by simp only;omega) bO ah
end Go.Proofs.YtjpboghdolfekaaGreatDoor
namespace Go.Proofs.YtjpboghdolfekaaGreatDoor
open Go Go.SL
def Ma:List (String × DataW Unit):=[("math/bits.deBruijn64tab", Rows.laid_math_bits_deBruijn64tab),("starling/digest.constants", Rows.laid_starling_digest_constants)]
theorem JF{P:Program}{H:Type}{enc:TypeId × Value→H}{W:World}{base:Nat}{spare:Nat→Bool}{held:Bool}{fuel n:Nat}{t e:TypeId}{k:IntKind}{l:List Value}{x:DataW H × List MemPlace}(ht:P.underlying t=some (.array n e))(he:P.underlying e=some (.int k))(hc:P.cellsOf e=1)(xV:P.cellsOf t=n)(h:DataW.trod enc P W base spare held fuel t l=some x)(ns:List Int)(hx:x.1 = .agg (ns.map fun z => .lit (.int k z))):l=ns.map (Value.int k):=by
 obtain⟨xs,m,_,Kr,hlen,Cu,hf⟩:=DataW.trod_array ht h
 rw[xV]at hlen
 rw[Kr]at hx
 simp only[DataW.agg.injEq]at hx
 apply List.ext_getElem?
 intro i
 rcases Nat.lt_or_ge i n with hi|hi
 ·have h1:=hf i hi
  obtain⟨y,hy⟩:∃y,xs[i]?=some y:=⟨xs[i]' (by rw[Cu];exact hi),by simp⟩
  rw[hy,hc,Nat.mul_one]at h1
  obtain⟨z,r,hz,w⟩:=DataW.trod_int he h1
  have h2:=congrArg (fun l:List Value=>l[0]?) r
  have h3:l[i]?=some (.int k z):=by simpa using h2
  have h4:=congrArg (fun l=>l[i]?) hx
  grind
 ·have G9:ns.length=n:=by have:=congrArg List.length hx;simpa[Cu]using this.symm
  grind
def Qs:List Int:=Sha.ks.map fun w=>(w.toNat:Int)
def aba:wV Sha.ks=Qs.map (Value.int .u32):=by unfold wV Qs;rw[List.map_map];rfl
def Z4:Rows.laid_starling_digest_constants (H:=Unit) = .agg (Qs.map fun z => .lit (.int .u32 z)):=by
 unfold Rows.laid_starling_digest_constants Qs Sha.ks
 simp_all
theorem po:Tryz.prog.globalNamed "starling/digest.constants" = some 0:=by kernel_rfl
def GU:(Tryz.prog.globals[0]?).map (·.type)=some 508:=by kernel_rfl
def Mb:Tryz.prog.cellsOf 508=64:=by kernel_rfl
def HU:Tryz.prog.cellsOf 413=1:=by kernel_rfl
theorem zi:Tryz.prog.globalNamed "math/bits.deBruijn64tab" = some 2:=by kernel_rfl
def PW:(Tryz.prog.globals[2]?).map (·.type)=some 633:=by kernel_rfl
theorem x8{W:World}(h:laidMet Tryz.prog Ma W):W.var? Tryz.prog "starling/digest.constants" = some (wV Sha.ks).toArray:=by
 obtain⟨ps,⟨g0,t0,cs0,afV,p0,q0,_,_,_,_,⟨g,t,cs,fuel,p,q,hg,ht,aeD,hd,_,_⟩,_⟩,_⟩:=h
 obtain rfl:=Option.some.inj (po.symm.trans hg)
 obtain rfl:=Option.some.inj (GU.symm.trans ht)
 rw[aeD,aba]
 congr 1
 have:=JF Tryz.underlying508 Tryz.underlying413 HU Mb hd Qs Z4
 grind
theorem Ds{W:World}(h:laidMet Tryz.prog Ma W):lL (old W):=by
 have hv:=x8 h
 refine⟨some ⟨0,0,none⟩,64,rfl,.inr ⟨_,0,rfl,fun hp ho j c hj=>?_⟩⟩
 rw[Nat.zero_add]
 refine lY ho ?_
 rw[World.var?_cell po hv j]
 grind
def dbI:List Int:=match Rows.laid_math_bits_deBruijn64tab (H:=Unit)with
 | .agg l=>l.map fun d=>match d with
  | .lit (.int _ z)=>z
  | _=>0
 | _=>[]
def setRow(cs:List Value):Obj→Obj
 | .cells _ t frozen => .cells cs.toArray t frozen
 | o=>o
noncomputable def pk(os:Os):World :=
 { World.holding Tryz.prog os ⟨#[],#[],[]⟩with heap:=((World.holding Tryz.prog os ⟨#[],#[],[]⟩).heap.modify 0 (setRow (Qs.map (Value.int .u32)))).modify 2 (setRow (dbI.map (Value.int .u8))) }
def xN(os:Os)(args:Array Value):((pk os).forCall (fun _ _=>0) ⟨#[],args,[]⟩).memory.heap[0]?=some (.cells (Qs.map (Value.int .u32)).toArray 508 (0,0)):=by kernel_rfl
def vN(os:Os)(args:Array Value):((pk os).forCall (fun _ _=>0) ⟨#[],args,[]⟩).memory.heap[2]?=some (.cells (dbI.map (Value.int .u8)).toArray 633 (0,0)):=by kernel_rfl
theorem yF(g n:Nat):(MemPlace.row ⟨g,0,none⟩ n).Nodup:=by
 unfold MemPlace.row
 refine List.Pairwise.map (R:=fun a b=>a≠b) _ (fun i j I' e=>I' ?_) List.nodup_range
 grind
theorem yG{g n b off:Nat}(h:MemPlace.cell b off∈MemPlace.row ⟨g,0,none⟩ n):b=g:=by
 simp only[MemPlace.row,List.mem_map]at h
 grind
theorem BO{g n:Nat}{x:MemPlace}(h:x∈MemPlace.row ⟨g,0,none⟩ n):∃off,x = .cell g off:=by
 simp only[MemPlace.row,List.mem_map]at h
 grind
theorem xO(os:Os)(args:Array Value):laidMet Tryz.prog Ma ((pk os).forCall (fun _ _=>0) ⟨#[],args,[]⟩).memory:=by
 have Am:=xN os args
 have QA:=vN os args
 refine⟨_,⟨2,633,(dbI.map (Value.int .u8)).toArray,8,[],_,zi,PW,?_,?_,⟨0,508,(Qs.map (Value.int .u32)).toArray,8,[],[],po,GU,?_,?_,rfl,rfl⟩,rfl⟩,?_,?_⟩
 ·unfold World.var?
  grind [zi]
 ·kernel_rfl
 ·unfold World.var?
  grind [po]
 ·kernel_rfl
 ·rw[List.append_nil,List.append_nil,List.append_nil]
  refine List.nodup_append.2 ⟨yF _ _,yF _ _,fun a ha b hb e=>?_⟩
  obtain⟨o1,rfl⟩:=BO ha
  obtain⟨o2,rfl⟩:=BO hb
  simp at e
 ·intro b off h
  simp only[List.append_nil,List.mem_append]at h
  rcases h with h|h
  ·have hb:=yG h
   subst hb
   refine⟨⟨_,_,QA⟩,fun u v hc=>?_⟩
   simp only[World.cell?,QA]at hc
   grind
  ·have hb:=yG h
   subst hb
   refine⟨⟨_,_,Am⟩,fun u v hc=>?_⟩
   simp only[World.cell?,Am]at hc
   grind
end Go.Proofs.YtjpboghdolfekaaGreatDoor
namespace Go.Proofs.YtjpboghdolfekaaGreatDoor.meshQuiet
open Go Go.SL
open Go.ChangeShapes Go.WideShapes Go.ChangeAt Go.RowKit
open Go.ChangeMaps (open_string shut_string)
def own:ownKnob Tryz.prog.godebug=none:=by kernel_rfl
def laidOut:laidOutB Tryz.prog=true:=by kernel_rfl
def lifted(os:Os)(started:os.Started)(H:Type)(enc:TypeId × Value→H) :
  ReturnsInHanded {} Tryz.checked os 3 .any (fun w args=>(Rows.meshQuietSpec.pre enc Tryz.prog Tryz.f3 Rows.meshQuietRow.domain false w args∧laidMet Tryz.prog [("math/bits.deBruijn64tab", Rows.laid_math_bits_deBruijn64tab),("starling/digest.constants", Rows.laid_starling_digest_constants)] w)∧sizedMet enc Tryz.prog Tryz.f3 (OpenSpec.ofChange Rows.meshQuietSpec) false w args) (Rows.meshQuietSpec.post enc Tryz.prog Tryz.f3 false true false false):=by
 refine returnsInHanded_of_change_and (C:=Tryz.checked) (X:=fun w _=>laidMet Tryz.prog [("math/bits.deBruijn64tab", Rows.laid_math_bits_deBruijn64tab),("starling/digest.constants", Rows.laid_starling_digest_constants)] w) (fun _ _ _ hh h=>h.of_heap hh) own started ae Tryz.func3
  (ChangeSpec.witness_at (enc:=enc) (C:=Tryz.checked) (os:=os) (X:=fun w _=>laidMet Tryz.prog [("math/bits.deBruijn64tab", Rows.laid_math_bits_deBruijn64tab),("starling/digest.constants", Rows.laid_starling_digest_constants)] w) false (pk os) #[.int .i64 0,.slice none 0 0] 8 rfl ae ae ae ae ae (xO os #[.int .i64 0,.slice none 0 0])) ?_
 intro W base args ds gs before Qv hW ago _ hL _
 have aaa:∀(j:Nat) t v,Tryz.f3.params[j]?=some t→args[j]?=some v→Value.okWide Tryz.prog W .any base t v:=Qv
 have hW':=hW
 obtain⟨p,q,hA0,hV,rfl,hfz,iJ⟩:=hW
 have hA:DataW.TrodAll enc Tryz.prog W 0 (fun _=>true) true Tryz.f3.params.toList args.toList ds p:=hA0
 rw[Tryz.params3]at hA aaa
 obtain⟨v0,vs0,d0,ds0,p0,q0,fK,rfl,rfl,h0,r0⟩:=trodAll_cons hA
 obtain⟨v1,vs1,d1,ds1,p1,q1,rfl,rfl,rfl,h1,r1⟩:=trodAll_cons r0
 obtain⟨rfl,rfl,rfl⟩:=trodAll_nil r1
 obtain rfl:args = #[v0,v1]:=by cases args;simp_all
 obtain⟨rfl,rfl⟩:=trodVars_none hV
 obtain⟨a0,rfl,rfl,rfl,w0⟩:=open_int Tryz.underlying3 (aaa 0 3 v0 rfl rfl) h0
 obtain⟨a1,aes,afE,rfl⟩:=okWide_slice Tryz.underlying22 (aaa 1 22 v1 rfl rfl)
 have k1:=h1
 have lt1:∀x∈p1,x.block<W.heap.size:=by obtain⟨m,hm⟩:=k1;exact DataW.trod_lt m _ _ _ hm
 obtain⟨bs1,k6⟩:∃l:List EV,xu (old W) (.slice a1 aes afE) l:=by
  obtain⟨fuel,hf⟩:=h1
  exact B8 (by simpa[Value.cells]using hf)
 clear hA0 Qv
 refine(Lb (yd (old W) (Ds hL) a0 _ bs1 k6)).mono fun e W' ⟨he,bel⟩=>?_
 subst he
 exact⟨_,rfl,_,_,_,[],_,[],hW',trodAll_mk1 (shut_bool Tryz.underlying4 _),(trodAll_cons_mk (shut_int Tryz.underlying3 w0) (trodAll_cons_mk (Below.trod laidOut ae (of_decide_eq_true ae) k1 bel lt1) trodAll_mk0)),rfl,bel.frame _,fun h=>by cases h⟩
def proved:Rows.MeshQuietSaid :=
 OpenClaim.holds_of_wide 3 Tryz.f3 zr zr zr zr zr zr zr ⟨rfl,rfl,rfl,rfl,rfl⟩ zr zr zr zr zr ae Tryz.func3 closed
  (of_decide_eq_true ae) (by unfold Func.isWrapper;first|(rw[if_pos (by decide +kernel)];kernel_rfl)|(rw[if_neg (by decide +kernel)];exact⟨rfl,rfl⟩))
  (fun os started H enc _=>lifted os started H enc)
#print axioms proved
end Go.Proofs.YtjpboghdolfekaaGreatDoor.meshQuiet
namespace Go.Proofs.YtjpboghdolfekaaGreatDoor
open Go
def Jo{P:Program}{c:OpenClaim}(hs:c.start = .entering)(h:P.funcs.any Func.goes=false):false=c.goesBy P:=by
 have eY:∀g:FuncId,((P.funcs[g]?).any Func.goes)=false:=fun g=>by
  cases hg:P.funcs[g]? with
  | none=>rfl
  | some fn =>
   show Func.goes fn=false
   cases hx:Func.goes fn with
   | false=>rfl
   | true =>
    have:P.funcs.any Func.goes=true:=Array.any_eq_true.2 (by
     obtain⟨cB,he⟩:=Array.getElem?_eq_some_iff.1 hg
     exact⟨g,cB,by rw[he];exact hx⟩)
    rw[h]at this;cases this
 unfold OpenClaim.goesBy Program.goesAt Program.goesFrom
 rw[hs]
 cases hf:P.funcNamed c.func with
 | none=>rfl
 | some f =>
  show false=(P.goes f || false)
  unfold Program.goes
  rw[h,Bool.and_false,Bool.or_false,Bool.or_false]
  symm
  rw[List.any_eq_false]
  intro g _
  rw[eY g]
  simp
end Go.Proofs.YtjpboghdolfekaaGreatDoor
namespace Go.Proofs.YtjpboghdolfekaaGreatDoor.meshQuiet
open Go
def kh:(Tryz.pinned.checked.prog).funcs.any Func.goes=false:=by kernel_rfl
def kg:false=Rows.meshQuietRow.goesBy Tryz.pinned.checked.prog:=Jo rfl kh
end Go.Proofs.YtjpboghdolfekaaGreatDoor.meshQuiet
