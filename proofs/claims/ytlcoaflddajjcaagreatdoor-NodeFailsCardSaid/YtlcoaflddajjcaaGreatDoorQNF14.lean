import Derived.Test.YtlcoaflddajjcaaGreatDoorQNF2
import Derived.Test.YtlcoaflddajjcaaGreatDoorQNF3
import Derived.Test.YtlcoaflddajjcaaGreatDoorQNF4
import Derived.Test.YtlcoaflddajjcaaGreatDoorQNF5
import Derived.Test.YtlcoaflddajjcaaGreatDoorQNF6
import Derived.Test.YtlcoaflddajjcaaGreatDoorQNF7
import Derived.Test.YtlcoaflddajjcaaGreatDoorQNF12
import Derived.Test.YtlcoaflddajjcaaGreatDoorQNF13
import Derived.Test.YtlcoaflddajjcaaGreatDoorRows
import Derived.OpenShut
import Derived.ChangeArms
import Derived.ProofKit
import Derived.Handed
import Derived.JoinedOf
import Derived.RowKit
import Derived.WalkKit
import Derived.ShutString
import Derived.ChangeOld
import Derived.Below
import Derived.SizedLaws
import Derived.ChangeSame
import Derived.ChangeVars
import Derived.Test.YtlcoaflddajjcaaGreatDoorProg
import GoSem.ClaimSeven
import Derived.KernelRfl
import Derived.Test.YtlcoaflddajjcaaGreatDoorTie
import Derived.Test.YtlcoaflddajjcaaGreatDoorCards
import Derived.SevenTiedAt
set_option linter.unnecessarySimpa false
set_option linter.unusedSectionVars false
set_option linter.unusedSimpArgs false
set_option linter.unusedVariables false
set_option maxHeartbeats 4000000
set_option maxRecDepth 100000
set_option linter.defProp false
namespace Go.Proofs.YtlcoaflddajjcaaGreatDoor
open Go Go.SL
def whM(mo:Option Nat)(may:List Int):HP:=match mo with
 | none=>emp
 | some bm=>aI (Value.int .i64) bm (BV may)
def wh(b:Nat)(s e r t:Int)(mo:Option Nat)(may:List Int):HP:=star (ae b (cl [.int .i64 s,.int .i64 e,.int .i64 r,.int .i64 t,.map mo] 174)) (whM mo may)
def AN(s e:Int):Int:=if s<1∨16<s∨e<1∨1000<e then 1 else 0
def Iz{l:List Rt}(h:gh l=0):l.length≤64:=by
 unfold gh at h
 split at h
 ·cases h
 ·rename_i h1
  omega
def JQ{l:List Rt}{bG fL:Int}{turn:Bool}{seed:Int}(h:(c7 l bG fL turn seed).2.2=0):gh l=0:=by
 unfold c7 at h
 split at h
 ·cases h
 ·rename_i h1
  split at h
  ·rename_i h2;exact absurd h h2
  ·rename_i h2;exact Decidable.not_not.1 h2
def FH(l:List Rt)(bG:Int):(oW l bG).length≤l.length:=by
 have h:=v7 l
 have h2:=yO l
 unfold oW
 rw[fD,List.length_map,List.length_take]
 omega
def C'(l:List Rt)(bG fL:Int)(turn:Bool)(seed:Int):(c7 l bG fL turn seed).1.length≤l.length+1:=by
 have h:=FH l bG
 unfold c7
 split
 ·simp
 ·split
  ·simp
  ·split
   ·simp only;omega
   ·simp only[fD,List.length_append,List.length_singleton];omega
attribute [local irreducible] J K au Ends ae aB aI bB aW aS a7 aX bF gW oG gz c7 fF
def Nn(s e:Int):au Tryz.prog 31 [.int .i64 s,.int .i64 e] [] (fun r H=>(AN s e=1∧r = .tuple #[.pointer none,.int .i64 1]∧H=[])∨(AN s e=0∧∃b,r = .tuple #[ptr b,.int .i64 0]∧H=[wh b s e 0 0 none []])):=by
 refine au.ak Tryz.func31 Tryz.ntmps31 fun G F R hE=>?_
 repeat'(first|(with_reducible intro jg)|refine er ?_|refine dP zr zr zr zr ?_ ?_|refine aq zr zr ?_ ?_)
 ·((refine ad hE Tryz.func31 zr zr (.inl ⟨by unfold AN;rw[if_pos ai],rfl,rfl⟩)))
 ·((refine ad hE Tryz.func31 zr zr (.inl ⟨by unfold AN;rw[if_pos ai],rfl,rfl⟩)))
 ·((refine ad hE Tryz.func31 zr zr (.inl ⟨by unfold AN;rw[if_pos ai],rfl,rfl⟩)))
 ·((refine ad hE Tryz.func31 zr zr (.inl ⟨by unfold AN;rw[if_pos ai],rfl,rfl⟩)))
 refine bu zr zr bh ?_
 intro b
 refine go ?_
 refine al (ao.lj _) ?_
 refine al (ao.pick [1,0] rfl) ?_
 refine al (ao.join _ _ _) ?_
 ((refine ad hE Tryz.func31 zr zr (.inr ⟨by unfold AN;rw[if_neg ai],b,rfl,rfl⟩)))
def J'(A:HP)(v:Value)(l:List Rt)(b:Nat)(s e r t seed:Int)(mo:Option Nat)(may:List Int)(hv:Vw A v l.length (rV l))(hl:l.length≤9223372036854775807)(hs:i64 s)(ht:i64 t)(he:1≤e)(hr:0≤r∧r≤1000000000) :
  au Tryz.prog 78 [ptr b,v,.int .u64 seed] [wh b s e r t mo may,A]
   (fun u H=>((c7 l s t (decide (r%e=0)) seed).2.2≠0∧u = .tuple #[.slice none 0 0,.int .i64 (c7 l s t (decide (r%e=0)) seed).2.2]∧H=[wh b s e r t mo may,A]) ∨
    ((c7 l s t (decide (r%e=0)) seed).2.2=0∧∃w bm,u = .tuple #[w,.int .i64 0]∧H=[wh b s e (r+1) (c7 l s t (decide (r%e=0)) seed).2.1 (some bm) (c7 l s t (decide (r%e=0)) seed).1,aB 3 1 w (c7 l s t (decide (r%e=0)) seed).1.length (iV (c7 l s t (decide (r%e=0)) seed).1),A])):=by
 have hki:jv Tryz.prog 3 (Value.int .i64):=qy Tryz.underlying3
 obtain⟨a,c0,rfl⟩:=hv.shape
 have h1:=Gx A (.slice a l.length c0) l s t (decide (r%e=0)) seed hv hl hs ht
 have h65:(c7 l s t (decide (r%e=0)) seed).2.2=0→(c7 l s t (decide (r%e=0)) seed).1.length≤65:=fun h=>by
  have h3:=Iz (JQ h)
  have h4:=C' l s t (decide (r%e=0)) seed
  omega
 generalize c7 l s t (decide (r%e=0)) seed=res at h1 h65 ⊢
 obtain⟨rl,rt,re⟩:=res
 simp only at h1 h65 ⊢
 refine au.ak Tryz.func78 Tryz.ntmps78 fun G F R hE=>?_
 refine al (ao.part _ _ _) (go ?_)
 refine aL (fun w=>Sat G w ([ae b (cl [.int .i64 s,.int .i64 e,.int .i64 r,.int .i64 t,.map mo] 174)])) (cJ 0 20 (.act 20 (cJ 21 7 .nil))) rfl ah ah ah dv ?_
 (repeat(first|refine er ?_|refine lT zr zr zr ai ai ?_))
 ((refine de zr zr zr zr (h1) ag ?_ (fun _ _ w hp hw=>by obtain⟨_,rfl,rfl⟩:=hp;exact hw.cu ag)))
 rintro _ _⟨w,rfl,rfl⟩
 refine go ?_
 by_cases hz:re=0
 case neg =>
  refine bq 39 ((.bool true)) rfl ((congrArg Value.bool (decide_eq_true hz))) (go ?_)
  refine al (ao.pick [2,3] rfl) ?_
  refine al (ao.join _ _ _) ?_
  refine ad hE Tryz.func78 zr zr (.inl ⟨hz,rfl,rfl⟩)
 subst hz
 have ae3:=h65 rfl
 refine db 0 rfl ?_
 rintro wa wc rfl
 refine go ?_
 refine eG rfl bh ?_
 intro bm
 refine aN (ao.fold (B:=[_]) (A:=aI (Value.int .i64) bm (BV [])) (fun h hs=>⟨h,sub.refl h,gA (Value.int .i64) bm h (dp hs)⟩)) ?_
 refine aN (ao.pick [3,0,1,2] rfl) (go ?_)
 refine bj (fun i:Nat=>i≤rl.length) (fun i=>rl.length-i) (fun i=>[(0,ptr b),(8,.slice wa rl.length wc),(56,.slice wa rl.length wc),(57,.int .i64 rl.length),(58,.int .i64 (i:Int))]) (fun i=>ae b (cl [.int .i64 s,.int .i64 e,.int .i64 (r+1),.int .i64 rt,.map (some bm)] 174)::aI (Value.int .i64) bm (BV (rl.take i))::aB 3 1 (.slice wa rl.length wc) rl.length (iV rl)::A::F) 0 (Nat.zero_le _) rfl bS ag ?_
 rintro i hi ih
 refine go ?_
 refine aq zr zr ?_ ?_
 ·intro cL
  have dA:i<rl.length:=by omega
  obtain⟨x,hx⟩:∃x,rl[i]?=some x:=⟨rl[i],by simp[dA]⟩
  refine jJ 2 rfl ai ?_
  intro ob oo EW he yn rQ mG
  simp only[Value.slice.injEq,true_and]at he
  obtain⟨rfl,rfl⟩:=he
  refine go ?_
  refine bp i zr zr zr zr zr zr zr zr dA ?_
  refine aQ 2 i zr zr zr mG rfl (jE hx) zr zr (go ?_)
  refine eB (key:=x) 1 hki e8 zr zr zr zr zr zr zr zr ?_
  rw[← uX,show rl.take i++[x]=rl.take (i+1)from by rw[List.take_add_one,hx];rfl]
  refine go ?_
  refine aM ih (i+1) rfl ai ai bS ag
 intro ep
 have jL:i=rl.length:=by omega
 subst jL
 rw[List.take_length]
 refine go ?_
 refine al (ao.join _ _ _) ?_
 refine ad hE Tryz.func78 zr zr (.inr ⟨rfl,_,bm,rfl,rfl⟩)
end Go.Proofs.YtlcoaflddajjcaaGreatDoor
namespace Go.Proofs.YtlcoaflddajjcaaGreatDoor
open Go Go.SL
structure Wl where
 t:Int
 mo:Option Nat
 may:List Int
def n5(hb:Nat)(s r:Int):HP:=fun h=>∃y:Wl,(i64 y.t∧(y.mo=none→y.may=[]))∧Sep [wh hb s 3 r y.t y.mo y.may] h
def KZ(hb:Nat)(s r:Int):∀h,n5 hb s r h→∃y:Wl,(i64 y.t∧(y.mo=none→y.may=[]))∧Sep [wh hb s 3 r y.t y.mo y.may] h:=fun h hs=>hs
def pB(hb:Nat)(s r t:Int)(mo:Option Nat)(may:List Int)(ht:i64 t)(hm:mo=none→may=[])(H:List HP):ao (wh hb s 3 r t mo may::H) (n5 hb s r::H) :=
 ao.fold (A:=n5 hb s r) (B:=[_]) fun h hs=>⟨h,sub.refl h,⟨t,mo,may⟩,⟨ht,hm⟩,hs⟩
def OR{l:List Rt}{u:Wt}(h:u∈fF l):∃x∈l,x.id=u.id:=by
 unfold fF og at h
 rw[List.mem_mergeSort]at h
 obtain⟨x,hx,rfl⟩:=List.mem_map.1 h
 exact⟨x,(List.mem_filter.1 hx).1,rfl⟩
def Da{l:List Rt}{s t:Int}{turn:Bool}{seed:Int}(ht:i64 t)(hl:∀x∈l,i64 x.id):i64 (c7 l s t turn seed).2.1:=by
 have hz:i64 0:=by decide
 have ho:∀z∈iq l s,i64 z:=fun z h=>by
  unfold iq at h
  obtain⟨u,hu,rfl⟩:=List.mem_map.1 ((show(hJ _).Perm _ from List.mergeSort_perm _ _).mem_iff.1 h)
  obtain⟨x,hx,he⟩:=OR (List.mem_of_mem_drop hu)
  exact he ▸ hl x hx
 unfold c7
 split
 ·exact hz
 split
 ·exact hz
 split
 ·exact hz
 show i64 (lY (iq l s) t turn seed)
 unfold lY
 split
 ·rw[List.getD_eq_getElem?_getD]
  cases hx:(iq l s)[HE seed (iq l s).length]? with
  | none=>exact hz
  | some z=>exact ho z (List.mem_of_getElem? hx)
 ·exact ht
def EE(l:List Int):List Rt:=l.map fun k=>⟨k,0,true⟩
def Lv{l:List Int}{i:Nat}{x:Int}(h:l[i]?=some x):rV (EE (l.take i))++rC ⟨x,0,true⟩=rV (EE (l.take (i+1))):=by
 rw[List.take_add_one,h]
 simp[rV,EE]
def OJ(l:List Int):(EE l).length=l.length:=List.length_map _
attribute [local irreducible] J K au Ends ae aB aI bB aW aS a7 aX bF aC da bQ fU n5 c7 fF wh
section
variable(nb:Nat)(id:Int)(S:sP)(st tb bv kb hb ms mg:Nat)(pv:Value)(br:Bool)
def wk(g:List Int)(hgn:g.Nodup)(hgl:g.length≤64)(M0:∀k∈g,i64 k)(r seed:Int)(hr:0≤r∧r≤1000000)(hs:i64 S.bG) :
  au Tryz.prog 39 [ptr nb,.int .u64 seed] [ae nb (cl (cy id S st tb bv kb hb pv ms mg br) 98),aI (Value.int .i64) mg (gE g),n5 hb S.bG r]
  (fun u H=>∃r':Int,u = .tuple #[]∧r≤r'∧r'≤r+1∧H=[ae nb (cl (cy id S st tb bv kb hb pv ms mg br) 98),aI (Value.int .i64) mg (gE []),n5 hb S.bG r']):=by
 have hgk:=PT g
 have aeX:=ZF g
 refine au.ak Tryz.func39 Tryz.ntmps39 fun G F R hE=>?_
 refine go ?_
 refine aF (JE mg) ?_
 rintro _ _⟨bx,rfl,rfl⟩
 refine go ?_
 ((refine aF (lS 155 [ptr bx] (gE g).length [ae bx (cl [.map (some mg)] 90),aI (Value.int .i64) mg (gE g)] [aI (Value.int .i64) mg (gE g)] (fun xs=>xs.Perm ((gE g).map (·.1))) ai (FF bx mg (gE g) (by rw[hgk];exact hgn)) (fun xs hx=>by rw[hx.length_eq,List.length_map];omega)) ?_))
 rintro w _⟨xs,I9,rfl⟩
 rw[hgk]at I9
 obtain⟨L,hL⟩:∃L,L=hJ xs:=⟨_,rfl⟩
 have hLl:xs.length=L.length:=by rw[hL,fD]
 have MB:=I9.length_eq
 have hLg:∀x∈L,x∈g:=fun x hx=>I9.mem_iff.1 ((show(hJ xs).Perm xs from List.mergeSort_perm _ _).mem_iff.1 (hL ▸ hx))
 rw[← hL,hLl]
 refine aH 0 rfl ?_
 rintro wa wc rfl
 refine go ?_
 refine bj (fun y:Nat × Option Addr × Nat=>y.1≤L.length) (fun y=>L.length-y.1)
  (fun y=>[(0,ptr nb),(1,.int .u64 seed),(4,.slice y.2.1 y.1 y.2.2),(13,.slice wa L.length wc),(14,.int .i64 (L.length:Int)),(15,.int .i64 (y.1:Int))])
  (fun y=>aB 191 3 (.slice y.2.1 y.1 y.2.2) y.1 (rV (EE (L.take y.1)))::ae nb (cl (cy id S st tb bv kb hb pv ms mg br) 98)::aI (Value.int .i64) mg (gE g)::aB 3 1 (.slice wa L.length wc) L.length (iV L)::n5 hb S.bG r::F) (0,none,0) (Nat.zero_le _) rfl bS (ao.trans (bg 191 3 none _) ag) ?_
 rintro⟨i,ra,rc⟩ hi ih
 simp only at hi
 refine go ?_
 refine aq zr zr ?_ ?_
 case' refine_2 =>
  intro ep
  simp only at ep
  have hiL:i=L.length:=by omega
  subst hiL
  simp only[List.take_length]
  refine al (H':=n5 hb S.bG r::aB 191 3 (.slice ra L.length rc) L.length (rV (EE L))::ae nb (cl (cy id S st tb bv kb hb pv ms mg br) 98)::aI (Value.int .i64) mg (gE g)::F) ag ?_
  refine cX (KZ hb S.bG r) ?_
  rintro⟨t,mo,may⟩⟨ht,hm⟩
  simp only at ht hm ⊢
  refine eh 1 rfl ?_
  intro hv
  have Jd:(EE L).length=L.length:=OJ L
  have hci:=Da (l:=EE L) (s:=S.bG) (t:=t) (turn:=decide (r%3=0)) (seed:=seed) ht (fun x hx=>by
   obtain⟨k,hk,rfl⟩:=List.mem_map.1 hx
   exact M0 k (hLg k hk))
  have pN:Vw (aB 191 3 (.slice ra L.length rc) L.length (rV (EE L))) (.slice ra L.length rc) (EE L).length (rV (EE L)):=by rw[Jd];exact hv
  have Jc:=J' _ (.slice ra L.length rc) (EE L) hb S.bG 3 r t seed mo may pN ai hs ht ai ai
  refine go ?_
  refine aF Jc ?_
  rintro _ _ (⟨fu,rfl,rfl⟩|⟨h0,w',bm,rfl,rfl⟩)
  ·refine aN (H':=n5 hb S.bG r::aI (Value.int .i64) mg (gE g)::ae nb (cl (cy id S st tb bv kb hb pv ms mg br) 98)::F) (ao.trans (H2:=wh hb S.bG 3 r t mo may::aI (Value.int .i64) mg (gE g)::ae nb (cl (cy id S st tb bv kb hb pv ms mg br) 98)::F) ag (pB hb S.bG r t mo may ht hm _)) (go ?_)
   refine xP (U:=aU) (kv:=Value.int .i64) (es:=gE g) 1 e8 zr zr zr zr zr (go ?_)
   refine bL hE Tryz.func39 rfl _ rfl ⟨r,rfl,ai,ai,rfl⟩ ag
  ·refine aN (H':=n5 hb S.bG (r+1)::aI (Value.int .i64) mg (gE g)::ae nb (cl (cy id S st tb bv kb hb pv ms mg br) 98)::F) (ao.trans (H2:=wh hb S.bG 3 (r+1) (c7 (EE L) S.bG t (decide (r%3=0)) seed).2.1 (some bm) (c7 (EE L) S.bG t (decide (r%3=0)) seed).1::aI (Value.int .i64) mg (gE g)::ae nb (cl (cy id S st tb bv kb hb pv ms mg br) 98)::F) ag (pB hb S.bG (r+1) _ (some bm) _ hci (fun h=>by cases h) _)) ?_
   refine go ?_
   refine xP (U:=aU) (kv:=Value.int .i64) (es:=gE g) 1 e8 zr zr zr zr zr (go ?_)
   refine bL hE Tryz.func39 rfl _ rfl ⟨r+1,rfl,ai,ai,rfl⟩ ag
 intro cL
 simp only at cL
 have dA:i<L.length:=by omega
 obtain⟨x,hx⟩:∃x,L[i]?=some x:=⟨L[i],by simp⟩
 have hxg:=hLg x (List.mem_of_getElem? hx)
 have jl:=Lv hx
 have Hl:=PR g x
 rw[if_pos hxg]at Hl
 refine jJ 3 rfl ai ?_
 intro ob oo EW he yn rQ mG
 simp only[Value.slice.injEq,true_and]at he
 obtain⟨rfl,rfl⟩:=he
 refine go ?_
 refine bp i zr zr zr zr zr zr zr zr dA ?_
 refine aQ 3 i zr zr zr mG rfl (jE hx) zr zr (go ?_)
 refine jK (es:=gE g) (key:=x) 2 rfl k6 zr zr zr zr zr zr zr zr ?_
 rw[Hl]
 simp only[Option.getD_some]
 refine go ?_
 refine az zr zr zr bh ?_
 intro b7
 refine go ?_
 refine aj (cs:=rC ⟨x,0,true⟩) zr zr zr zr zr zr zr zr zr bh ?_
 intro row
 refine go ?_
 refine aN (H':=ae row (cl (rC ⟨x,0,true⟩) 191)::aB 191 3 (.slice ra i rc) i (rV (EE (L.take i)))::ae nb (cl (cy id S st tb bv kb hb pv ms mg br) 98)::aI (Value.int .i64) mg (gE g)::aB 3 1 (.slice (some ⟨ob,oo,none⟩) L.length wc) L.length (iV L)::n5 hb S.bG r::F) ag ?_
 refine aJ (mm:=1) (news:=rC ⟨x,0,true⟩) 1 0 rfl rfl rfl rfl rfl rfl rfl rfl rfl rfl rfl rfl (Vw.ae rfl) rfl (by intro v hv;simp[rC]at hv;rcases hv with rfl|rfl|rfl <;> rfl) ai (by show(_+_)*24≤_;omega) (fun _=>rfl) bh ?_
 intro v1
 rw[jl]
 refine aH 1 rfl ?_
 rintro ja jc rfl
 refine go ?_
 refine aM ih (i+1,ja,jc) rfl (by simp only;omega) (by simp only;omega) bS ag
end
end Go.Proofs.YtlcoaflddajjcaaGreatDoor
namespace Go.Proofs.YtlcoaflddajjcaaGreatDoor
open Go Go.SL
structure TkM where
 n:Nat
 a:Option Addr
 c:Nat
 co:List Value
 la:Option Addr
 ln:Nat
 lc:Nat
def aer(op:Option Qg)(y:TkM):Prop:=y.n=Z8 op∧y.co=plO op∧(op=none→y.la=none∧y.ln=0∧y.lc=0)
attribute [local irreducible] J K au Ends ae aB aI bB aW aS a7 aX bF aC da bQ fU n5
section
variable(nb:Nat)(id:Int)(S:sP)(st tb bv kb hb ms mg:Nat)
def J7(op:Option Qg)(bd:Nat)(q:Int)(mb:Nat)(bk:Bool)(A:Ab)(ML:∀p,op=some p→gf A p.d=none)(V:VM)(hV:yA V)(g:List Int)(hgn:g.Nodup)(hgl:g.length≤64)(M0:∀k∈g,i64 k)(r now seed:Int)(hr:0≤r∧r≤1000000)(hs:i64 S.bG)(u5:0≤S.pat∧S.pat≤1048576) :
  au Tryz.prog 11 [ptr nb,.int .i64 now,.int .u64 seed] [ae nb (cl (cy id S st tb bv kb hb (IH op) ms mg false) 98),bQ bv V,fU kb S.lim S.fC S.bR,n5 hb S.bG r,aI (Value.int .i64) mg (gE g),ae st (cl (dg bd q mb bk) 146),aC bd A,Qx op]
  (fun u H=>∃(y:TkM) (e:Int) (V':VM) (r':Int) (g':List Int) (pv':Value),u = .tuple #[.slice y.a y.n y.c,.int .i64 e]∧(j7 now 0 1099511627776=true→e=0)∧(V'.ks=[]→e=0→y.n=Z8 op∧y.co=plO op)∧yA V'∧V'.cj=V.cj∧V'.ks.length≤V.ks.length∧(r≤r'∧r'≤r+1)∧(g'=g∨g'=[])∧(op=none→pv' = .slice none 0 0) ∧
   H=[aB 58 40 (.slice y.a y.n y.c) y.n y.co,ae nb (cl (cy id S st tb bv kb hb pv' ms mg false) 98),bQ bv V',fU kb S.lim S.fC S.bR,n5 hb S.bG r',aI (Value.int .i64) mg (gE g'),ae st (cl (dg bd q mb bk) 146),aC bd A]):=by
 refine au.ak Tryz.func11 Tryz.ntmps11 fun G F R hE=>?_
 refine go ?_
 refine aw (jP now 0 1099511627776) ?_
 cases hw:j7 now 0 1099511627776 with
 | false =>
  refine go ?_
  refine al (bg 58 40 none _) ?_
  ((refine ad hE Tryz.func11 zr zr ⟨⟨0,none,0,[],none,0,0⟩,1,V,r,g,IH op,rfl,fun h=>absurd (hw.symm.trans h) (by decide),fun _ h=>absurd h (by decide),hV,rfl,Nat.le_refl _,ai,.inl rfl,fun h=>by subst h;rfl,rfl⟩))
 | true =>
 have qD:0≤now∧now≤1099511627776:=by
  unfold j7 at hw
  rw[Bool.and_eq_true]at hw
  exact⟨of_decide_eq_true hw.1,of_decide_eq_true hw.2⟩
 refine go ?_
 refine aF (uK kb S.lim S.fC S.bR now) ?_
 rintro _ _⟨rv,e0,rfl,rfl⟩
 refine aN (H':=ae nb (cl (cy id S st tb bv kb hb (IH op) ms mg false) 98)::bQ bv V::fU kb S.lim S.fC S.bR::n5 hb S.bG r::aI (Value.int .i64) mg (gE g)::ae st (cl (dg bd q mb bk) 146)::aC bd A::Qx op::F) ag (go ?_)
 refine aL (fun w=>Sat G w ([ae nb (cl (cy id S st tb bv kb hb (IH op) ms mg false) 98)])) (cJ 0 12 (.act 12 .nil)) rfl ah ah ah dv ?_
 (repeat(first|refine er ?_|refine eN zr zr zr (by simp only[fz];omega) ?_))
 refine aF (z8 bv V hV now (min (4*S.pat) 1048576)) ?_
 rintro _ _⟨rv1,e1,V1,rfl,rfl,KP,On,wH⟩
 (repeat(first|refine er ?_|refine lT zr zr zr ai ai ?_))
 refine gG rfl ?_
 refine sl 1 (fun y:Int × List Int=>(r≤y.1∧y.1≤r+1)∧(y.2=g∨y.2=[])) (fun y=>[(0,ptr nb),(1,.int .i64 now),(2,.int .u64 seed)]) (fun y=>ae nb (cl (cy id S st tb bv kb hb (IH op) ms mg false) 98)::bQ bv V1::fU kb S.lim S.fC S.bR::n5 hb S.bG y.1::aI (Value.int .i64) mg (gE y.2)::ae st (cl (dg bd q mb bk) 146)::aC bd A::Qx op::F) rfl ?_ ?_
 case refine_2 =>
  intro tail
  refine aq zr zr ?_ ?_
  ·intro _
   refine go ?_
   refine aF (wk nb id S st tb bv kb hb ms mg (IH op) false g hgn hgl M0 r seed hr hs) ?_
   rintro _ _⟨r1,rfl,h1,h2,rfl⟩
   refine oe ?_
   refine mi tail (r1,[]) rfl ⟨⟨h1,h2⟩,.inr rfl⟩ bS ag
  ·intro _
   refine mi tail (r,g) rfl ⟨⟨ai,ai⟩,.inl rfl⟩ bS ag
 rintro⟨r1,g1⟩⟨uA,Jr⟩
 simp only at uA Jr ⊢
 refine go ?_
 refine gG rfl ?_
 refine sl 1 (aer op) (fun y=>[(0,ptr nb),(1,.int .i64 now),(2,.int .u64 seed),(8,.slice y.a y.n y.c),(9,.slice y.la y.ln y.lc)]) (fun y=>aB 58 40 (.slice y.a y.n y.c) y.n y.co::ae nb (cl (cy id S st tb bv kb hb (IH op) ms mg false) 98)::bQ bv V1::fU kb S.lim S.fC S.bR::n5 hb S.bG r1::aI (Value.int .i64) mg (gE g1)::ae st (cl (dg bd q mb bk) 146)::aC bd A::F) rfl ?_ ?_
 case refine_2 =>
  intro tail
  cases op with
  | none =>
   refine eQ rfl ?_
   simp only[IH,plA,Z8,plK]
   (refine aD rfl ?_;refine oe ?_)
   refine kD zr zr ?_
   refine al (bg 58 40 none _) ?_
   refine mi tail ⟨0,none,0,[],none,0,0⟩ rfl ⟨rfl,rfl,fun _=>⟨rfl,rfl,rfl⟩⟩ bS ag
  | some p =>
   obtain⟨ra,rc,pb,d⟩:=p
   have tz:=ML _ rfl
   refine al (H':=Qx (some ⟨ra,rc,pb,d⟩)::ae nb (cl (cy id S st tb bv kb hb (IH (some ⟨ra,rc,pb,d⟩)) ms mg false) 98)::bQ bv V1::fU kb S.lim S.fC S.bR::n5 hb S.bG r1::aI (Value.int .i64) mg (gE g1)::ae st (cl (dg bd q mb bk) 146)::aC bd A::F) ag ?_
   refine al (ao.part (aB 118 1 (.slice ra 1 rc) 1 [ptr pb]) (ae pb (cl (G0 d (-1)) 117)) _) ?_
   unfold IH
   refine jJ 0 rfl ai ?_
   intro ob oo EW he yn rQ mG
   simp only[Value.slice.injEq,true_and]at he
   obtain⟨rfl,rfl⟩:=he
   refine eQ rfl (go ?_)
   refine bp 0 zr zr zr zr zr zr zr zr (by show 0<1;omega) ?_
   refine aQ 0 0 zr zr zr mG zr zr zr zr (go ?_)
   refine aF (yM nb id S st tb bv kb hb ms mg (.slice (some ⟨ob,oo,none⟩) 1 rc) false pb d now seed bd q mb bk A tz) ?_
   rintro _ _⟨rb,rfl,rfl⟩
   refine go ?_
   refine aN (bg 58 40 none _) ?_
   refine aJ (mm:=1) (news:=uR d) 0 1 zr zr zr zr zr zr zr zr zr zr zr zr (Vw.ae rfl) rfl (AI 0 BB _ zr zr zr zr) ai (by decide) (fun _=>rfl) bh ?_
   intro v1
   refine aH 0 rfl ?_
   rintro oa oc rfl
   refine go ?_
   refine aj (cs:=[ptr pb]) zr zr zr zr zr zr zr zr zr bh ?_
   intro row
   refine go ?_
   refine aN (bg 118 1 none _) ?_
   refine aJ (mm:=1) (news:=[ptr pb]) 0 1 rfl rfl rfl rfl rfl rfl rfl rfl rfl rfl rfl rfl (Vw.ae rfl) rfl (by intro v hv;simp at hv;subst hv;rfl) ai (by decide) (fun _=>rfl) bh ?_
   intro v2
   refine aH 0 rfl ?_
   rintro la lc rfl
   refine go ?_
   refine cV rfl ?_
   (refine aD rfl ?_;refine oe ?_)
   refine kD zr zr ?_
   refine mi tail ⟨1,oa,oc,uR d,la,1,lc⟩ rfl ⟨rfl,rfl,fun h=>by cases h⟩ bS ag
 rintro⟨n,oa,oc,co,la,ln,lc⟩⟨hn,hco,Jh⟩
 simp only at hn hco Jh ⊢
 have hn1:n≤1:=by rw[hn];cases op <;> simp[Z8]
 have hpv:op=none→Value.slice la ln lc = .slice none 0 0:=fun h=>by obtain⟨h1,h2,h3⟩:=Jh h;rw[h1,h2,h3]
 have Hu:g1=g∨g1=[]:=Jr
 refine go ?_
 refine aF (z6 bv V1 KP seed) ?_
 rintro _ _⟨pid,pb,rfl,rfl,Fs⟩
 refine aN (H':=ae nb (cl (cy id S st tb bv kb hb (.slice la ln lc) ms mg false) 98)::bQ bv V1::aB 58 40 (.slice oa n oc) n co::fU kb S.lim S.fC S.bR::n5 hb S.bG r1::aI (Value.int .i64) mg (gE g1)::ae st (cl (dg bd q mb bk) 146)::aC bd A::F) ag ?_
 cases pb with
 | false =>
  refine go ?_
  refine ad hE Tryz.func11 zr zr ⟨⟨n,oa,oc,co,none,0,0⟩,0,V1,r1,g1,.slice la ln lc,rfl,fun _=>rfl,fun _ _=>⟨hn,hco⟩,KP,On,wH,uA,Hu,hpv,rfl⟩
 | true =>
 have fu:V1.ks≠[]:=fun h=>by cases Fs h
 refine go ?_
 ((refine aF (Gossip_any bv V1 KP.nd (by have:=KP.small;omega) 3 seed) ?_))
 rintro rg _ rfl
 obtain⟨gs,hgs⟩:∃gs,gs=pS V1 3 seed:=⟨_,rfl⟩
 have aeW:gs.length≤100:=by
  have:=KP.small
  rw[hgs]
  unfold pS
  rw[List.length_append,List.length_map,tj,fD,List.length_map]
  unfold C6
  simp only[List.length_cons,List.length_nil]
  omega
 rw[← hgs]
 refine aH 0 rfl ?_
 rintro ga gc rfl
 refine go ?_
 refine az zr zr zr bh ?_
 intro b17
 refine go ?_
 refine bj (fun y:Nat × List Value=>y.1≤gs.length∧y.2.length=gs.length*4) (fun y=>gs.length-y.1)
  (fun y=>[(0,ptr nb),(8,.slice oa n oc),(15,.int .i64 pid),(17,ptr b17),(109,.int .i64 (gs.length:Int)),(110,.int .i64 (y.1:Int))])
  (fun y=>ae b17 (cl (mC ⟨.slice none 0 0,.slice none 0 0,.slice none 0 0,.slice ga gs.length gc⟩ { mY.zero with kind:=8 }) 56)::aB 131 4 (.slice ga gs.length gc) gs.length y.2::aB 58 40 (.slice oa n oc) n co::ae nb (cl (cy id S st tb bv kb hb (.slice la ln lc) ms mg false) 98)::bQ bv V1::fU kb S.lim S.fC S.bR::n5 hb S.bG r1::aI (Value.int .i64) mg (gE g1)::ae st (cl (dg bd q mb bk) 146)::aC bd A::F) (0,mV gs) ⟨Nat.zero_le _,bT nu gs⟩ rfl bS ag ?_
 rintro⟨i,cs⟩⟨hi,qh⟩ ih
 simp only at hi qh
 refine go ?_
 refine aq zr zr ?_ ?_
 ·intro cL
  simp only at cL
  have dA:i<gs.length:=by omega
  refine jJ 1 rfl ai ?_
  intro ob oo EW he yn rQ mG
  simp only[Value.slice.injEq,true_and]at he
  obtain⟨rfl,rfl⟩:=he
  refine go ?_
  refine bW i 4 zr zr zr zr zr zr zr zr dA (go ?_)
  refine DG (U:=aU) (q:=i*4+3) 1 e8 rfl (Nat.add_assoc _ _ _) zr zr zr zr zr zr ai ai rfl (go ?_)
  refine aM ih (i+1,cs.set (i*4+3) (.int .i64 0)) rfl ⟨by simp only;omega,by simp only[List.length_set];exact qh⟩ (by simp only;omega) bS ag
 ·intro ep
  refine go ?_
  refine aO (U:=aU) (l:=mC ⟨.slice none 0 0,.slice none 0 0,.slice none 0 0,.slice ga gs.length gc⟩ { mY.zero with kind:=8 }) 0 rfl rfl rfl rfl rfl rfl (go ?_)
  refine aj (cs := .int .i64 pid::mC ⟨.slice none 0 0,.slice none 0 0,.slice none 0 0,.slice ga gs.length gc⟩ { mY.zero with kind:=8 }) rfl rfl rfl rfl rfl rfl rfl rfl rfl bh ?_
  intro row
  refine go ?_
  refine aN (H':=ae row (cl (.int .i64 pid::mC ⟨.slice none 0 0,.slice none 0 0,.slice none 0 0,.slice ga gs.length gc⟩ { mY.zero with kind:=8 }) 58)::aB 58 40 (.slice oa n oc) n co::ae nb (cl (cy id S st tb bv kb hb (.slice la ln lc) ms mg false) 98)::bQ bv V1::fU kb S.lim S.fC S.bR::n5 hb S.bG r1::aI (Value.int .i64) mg (gE g1)::ae st (cl (dg bd q mb bk) 146)::aC bd A::F) ag ?_
  refine aJ (mm:=1) (news := .int .i64 pid::mC ⟨.slice none 0 0,.slice none 0 0,.slice none 0 0,.slice ga gs.length gc⟩ { mY.zero with kind:=8 }) 1 0 rfl rfl rfl rfl rfl rfl rfl rfl rfl rfl rfl rfl (Vw.ae rfl) rfl (AI pid _ _ rfl rfl rfl rfl) ai (by show(_+1)*160≤_;omega) (fun _=>rfl) bh ?_
  intro v1
  refine aH 1 rfl ?_
  rintro ja jc rfl
  refine go ?_
  refine ad hE Tryz.func11 zr zr ⟨⟨n+1,ja,jc,_,none,0,0⟩,0,V1,r1,g1,.slice la ln lc,rfl,fun _=>rfl,fun h=>absurd h fu,KP,On,wH,uA,Hu,hpv,rfl⟩
end
end Go.Proofs.YtlcoaflddajjcaaGreatDoor
namespace Go.Proofs.YtlcoaflddajjcaaGreatDoor
open Go Go.SL
attribute [local irreducible] J K au Ends ae aB aI bB aW aS a7 aX bF aC da bQ fU n5 bC kx
section
variable(nb:Nat)(id:Int)(S:sP)(st tb bv kb hb ms mg:Nat)
def jI(a:Option Addr)(c pb:Nat)(now seed:Int)(Q:HP)(m:Nat)(co:List Value)(Q':Value→HP)(hwk:Dt nb id S st tb bv kb hb ms mg (.slice a 1 c) false pb now seed Q m co Q')(hm:m≤1)(aed:co.length=m*40)(eM:∀u∈co,u.oneCell'=true)(V:VM)(hV:yA V)(Hn:V.ks=[])(r:Int)(hr:0≤r∧r≤1000000)(hs:i64 S.bG)(u5:0≤S.pat∧S.pat≤1048576)(qD:0≤now∧now≤1099511627776) :
  au Tryz.prog 11 [ptr nb,.int .i64 now,.int .u64 seed] [ae nb (cl (cy id S st tb bv kb hb (.slice a 1 c) ms mg false) 98),bQ bv V,fU kb S.lim S.fC S.bR,n5 hb S.bG r,aI (Value.int .i64) mg (gE []),aB 118 1 (.slice a 1 c) 1 [ptr pb],Q]
  (fun u H=>∃(oa:Option Addr) (oc:Nat) (la:Option Addr) (lc:Nat) (V':VM) (r':Int) (z:Value),u = .tuple #[.slice oa m oc,.int .i64 0]∧yA V'∧V'.cj=V.cj∧V'.ks=[]∧(r≤r'∧r'≤r+1) ∧
   H=[aB 58 40 (.slice oa m oc) m co,ae nb (cl (cy id S st tb bv kb hb (.slice la 1 lc) ms mg false) 98),bQ bv V',fU kb S.lim S.fC S.bR,n5 hb S.bG r',aI (Value.int .i64) mg (gE []),aB 118 1 (.slice la 1 lc) 1 [ptr pb],Q' z]):=by
 have adn:au _ _ _ _ _:=hwk
 refine au.ak Tryz.func11 Tryz.ntmps11 fun G F R hE=>?_
 refine go ?_
 refine aw (jP now 0 1099511627776) ?_
 rw[j6 qD]
 refine go ?_
 refine aF (uK kb S.lim S.fC S.bR now) ?_
 rintro _ _⟨rv,e0,rfl,rfl⟩
 refine aN (H':=ae nb (cl (cy id S st tb bv kb hb (.slice a 1 c) ms mg false) 98)::bQ bv V::fU kb S.lim S.fC S.bR::n5 hb S.bG r::aI (Value.int .i64) mg (gE [])::aB 118 1 (.slice a 1 c) 1 [ptr pb]::Q::F) ag (go ?_)
 refine aL (fun w=>Sat G w ([ae nb (cl (cy id S st tb bv kb hb (.slice a 1 c) ms mg false) 98)])) (cJ 0 12 (.act 12 .nil)) rfl ah ah ah dv ?_
 (repeat(first|refine er ?_|refine eN zr zr zr (by simp only[fz];omega) ?_))
 refine aF (z8 bv V hV now (min (4*S.pat) 1048576)) ?_
 rintro _ _⟨rv1,e1,V1,rfl,rfl,KP,On,wH⟩
 have BD:V1.ks=[]:=List.eq_nil_of_length_eq_zero (by rw[Hn]at wH;exact Nat.le_zero.1 wH)
 (repeat(first|refine er ?_|refine lT zr zr zr ai ai ?_))
 refine gG rfl ?_
 refine sl 1 (fun y:Int=>r≤y∧y≤r+1) (fun y=>[(0,ptr nb),(1,.int .i64 now),(2,.int .u64 seed)]) (fun y=>ae nb (cl (cy id S st tb bv kb hb (.slice a 1 c) ms mg false) 98)::bQ bv V1::fU kb S.lim S.fC S.bR::n5 hb S.bG y::aI (Value.int .i64) mg (gE [])::aB 118 1 (.slice a 1 c) 1 [ptr pb]::Q::F) rfl ?_ ?_
 case refine_2 =>
  intro tail
  refine aq zr zr ?_ ?_
  ·intro _
   refine go ?_
   refine aF (wk nb id S st tb bv kb hb ms mg (.slice a 1 c) false [] (by simp) (by simp) (fun k hk=>by simp at hk) r seed hr hs) ?_
   rintro _ _⟨r1,rfl,h1,h2,rfl⟩
   refine oe ?_
   refine mi tail r1 rfl ⟨h1,h2⟩ bS ag
  ·intro _
   refine mi tail r rfl ⟨ai,ai⟩ bS ag
 intro r1 uA
 refine jJ 5 rfl ai ?_
 intro ob oo EW he yn rQ mG
 simp only[Value.slice.injEq,true_and]at he
 obtain⟨rfl,rfl⟩:=he
 refine go ?_
 refine eQ rfl (go ?_)
 refine bp 0 zr zr zr zr zr zr zr zr ai ?_
 refine aQ 5 0 zr zr zr mG zr zr zr zr (go ?_)
 refine aF adn ?_
 rintro _ _⟨oa,oc,z,rfl,rfl⟩
 refine dH 0 rfl ?_
 intro I'
 refine go ?_
 refine aN (bg 58 40 none _) ?_
 refine aJ (mm:=m) (news:=co) 0 1 zr zr zr zr zr zr zr zr zr zr zr zr I' aed eM ai (by show(0+m)*160≤_;omega) (fun _=>rfl) bh ?_
 intro v1
 rw[Nat.zero_add m,List.nil_append]
 refine aH 0 rfl ?_
 rintro oa1 oc1 rfl
 refine go ?_
 refine aj (cs:=[ptr pb]) zr zr zr zr zr zr zr zr zr bh ?_
 intro row
 refine go ?_
 refine aN (bg 118 1 none _) ?_
 refine aJ (mm:=1) (news:=[ptr pb]) 0 1 rfl rfl rfl rfl rfl rfl rfl rfl rfl rfl rfl rfl (Vw.ae rfl) rfl (by intro v hv;simp at hv;subst hv;rfl) ai (by decide) (fun _=>rfl) bh ?_
 intro v2
 refine aH 0 rfl ?_
 rintro la lc rfl
 refine aN (H':=ae nb (cl (cy id S st tb bv kb hb (.slice (some ⟨ob,oo,none⟩) 1 c) ms mg false) 98)::aB 118 1 (.slice la (0+1) lc) (0+1) ([]++[ptr pb])::aB 58 40 (.slice oa1 m oc1) m co::bQ bv V1::fU kb S.lim S.fC S.bR::n5 hb S.bG r1::aI (Value.int .i64) mg (gE [])::Q' z::F) ag (go ?_)
 refine cV rfl (go ?_)
 refine aF (z6 bv V1 KP seed) ?_
 rintro _ _⟨pid,pb1,rfl,rfl,Fs⟩
 obtain rfl:=Fs BD
 refine go ?_
 refine ad hE Tryz.func11 zr zr ⟨oa1,oc1,la,lc,V1,r1,z,rfl,KP,On,BD,uA,rfl⟩
end
end Go.Proofs.YtlcoaflddajjcaaGreatDoor
namespace Go.Proofs.YtlcoaflddajjcaaGreatDoor
open Go Go.SL
def L5(x:Bl)(v:Value):List Value:=ck x++[v]
def abC{x:Bl}{w:Value}(j:Nat)(v:Value)(h:(dC x.d)[j]?=some v):(L5 x w)[j]?=some v:=by
 have hj:=(List.getElem?_eq_some_iff.1 h).1
 have hl:(dC x.d).length=32:=rfl
 unfold L5 ck
 simp only[List.append_assoc]
 rw[List.getElem?_append_left hj]
 exact h
attribute [local irreducible] J K au Ends ae aB aI bB aW aS a7 aX bF
def AM(X:HP)(ob ot lb:Nat)(ba:Option Addr)(bc:Nat)(b:List UInt8)(hb:ew X (.slice ba b.length bc) b)(uC:1≤b.length∧b.length≤500)(x:Bl)(hx:o7 b 16=some x) :
  au Tryz.prog 7 [ptr ob,.slice (some ⟨lb,0,none⟩) 1 1,.int .i64 16] [ae ob (cl (fG ot (.slice none 0 0) (.slice none 0 0)) 66),ae lb (cl [.slice ba b.length bc] 22),X]
  (fun r H=>∃(ia:Option Addr) (ic:Nat) (ra:Option Addr) (rc:Nat) (bv:Value),r = .tuple #[dV (cw [x]),.int .i64 0]∧H=[ae ob (cl (fG ot (.slice ia 1 ic) bv) 66),aB 86 33 (.slice ia 1 ic) 1 (p6 (cw [x]) (.slice ra 1 rc)),aB 77 66 (.slice ra 1 rc) 1 (ck x),X]):=by
 obtain⟨hr,iJ,KI,hwh⟩:=HR hx
 have sK:=tr hr
 have zy:=N' X _ b hb ai 16
 rw[hx]at zy
 simp only at zy
 unfold jU at zy
 unfold dV
 refine au.ak Tryz.func7 Tryz.ntmps7 fun G F R hE=>?_
 refine aD rfl ?_
 refine az zr zr zr bh ?_
 intro b6
 refine go ?_
 refine az zr zr zr bh ?_
 intro b8
 refine go ?_
 refine eQ rfl (go ?_)
 refine bp 0 zr zr zr zr zr zr zr zr ai (go ?_)
 refine aw zy ?_
 refine go ?_
 refine az zr zr zr bh ?_
 intro b11
 refine go ?_
 refine aO (U:=aU) (l:=ck x) 0 zr zr zr zr zr zr (go ?_)
 refine aj (cs:=ck x) zr zr zr zr zr zr zr zr zr bh ?_
 intro row
 refine go ?_
 refine aN (bg 77 66 none _) ?_
 refine aJ (mm:=1) (news:=ck x) 0 1 zr zr zr zr zr zr zr zr zr zr zr zr (Vw.ae rfl) rfl (fun v hv=>vd [x] v (by simpa using hv)) ai (by decide) (fun _=>rfl) bh ?_
 intro v1
 refine aH 0 rfl ?_
 rintro ra rc rfl
 refine aN (H':=ae b8 (cl [.slice none 0 0] 75)::aB 77 66 (.slice ra 1 rc) 1 (ck x)::ae b11 (cl (ck x) 77)::ae ob (cl (fG ot (.slice none 0 0) (.slice none 0 0)) 66)::ae lb (cl [.slice ba b.length bc] 22)::ae b6 (cl (dC Dg.zero) 32)::X::F) ag (go ?_)
 -- region 10
 refine aL (fun w=>Sat G w ([ae b11 (cl (ck x) 77),ae lb (cl [.slice ba b.length bc] 22)])) (.st 0 (.st 1 (cJ 3 4 (.act 2 (.act 7 (.st 8 (.act 9 (.act 10 (.st 11 .nil))))))))) rfl ah ah ah dv ?_
 refine go ?_
 refine bX (U:=aU) (l:=ck x) 0 zr zr zr zr zr zr (go ?_)
 refine bp 0 zr zr zr zr zr zr zr zr ai (go ?_)
 refine aj (cs:=[]) zr zr zr zr zr zr zr zr zr (fun _ w hw=>hw.cu ag) ?_
 intro bz
 refine go ?_
 refine aN (H':=X::ae b11 (cl (ck x) 77)::ae lb (cl [.slice ba b.length bc] 22)::ae b8 (cl [.slice ra 1 rc] 75)::aB 77 66 (.slice ra 1 rc) 1 (ck x)::ae ob (cl (fG ot (.slice none 0 0) (.slice none 0 0)) 66)::ae b6 (cl (dC Dg.zero) 32)::F) ag ?_
 refine aN (bg 5 1 (some ⟨bz,0,none⟩) _) ?_
 refine aJ (mm:=b.length) (news:=bV b) 0 1 zr zr zr zr zr zr zr zr zr zr zr zr hb.1 (by show _=_*1;rw[bD];omega) (cB b) ai (by show(_+_)*1≤_;omega) (fun _=>rfl) (fun _ w hw=>hw.cu ag) ?_
 intro v2
 refine aH 0 rfl ?_
 rintro ca cc rfl
 refine go ?_
 refine aj (cs:=L5 x (.slice ca (0+b.length) cc)) zr zr zr zr zr zr zr zr zr (fun _ w hw=>hw.cu ag) ?_
 intro Iw
 refine go ?_
 refine aN (bg 81 67 none _) ?_
 refine aJ (mm:=1) (news:=L5 x (.slice ca (0+b.length) cc)) 0 1 zr zr zr zr zr zr zr zr zr zr zr zr (Vw.ae rfl) rfl (fun v hv=>by
  rcases List.mem_append.1 hv with h|h
  ·exact vd [x] v (by simpa using h)
  ·rw[List.mem_singleton.1 h];rfl) ai (by decide) (fun _=>rfl) (fun _ w hw=>hw.cu ag) ?_
 intro v3
 refine aH 0 rfl ?_
 rintro oa oc rfl
 refine aN (H':=aB 81 67 (.slice oa 1 oc) 1 (L5 x (.slice ca (0+b.length) cc))::ae b8 (cl [.slice ra 1 rc] 75)::aB 77 66 (.slice ra 1 rc) 1 (ck x)::ae ob (cl (fG ot (.slice none 0 0) (.slice none 0 0)) 66)::ae b6 (cl (dC Dg.zero) 32)::X::F) ag (go ?_)
 refine cV rfl (go ?_)
 refine aO (U:=aU) (l:=[.slice ra 1 rc]) 1 zr zr zr zr zr zr ?_
 refine dH 2 rfl ?_
 intro cW
 have tA:=Cd _ _ [x] (show Vw (aB 77 66 (.slice ra 1 rc) 1 (ck x)) (.slice ra 1 rc) [x].length ([x].flatMap ck)from by simpa using cW) (by simp)
 rw[if_pos sK]at tA
 unfold tt dV at tA
 refine aw tA ?_
 refine go ?_
 refine az zr zr zr bh ?_
 intro b13
 refine go ?_
 refine aO (U:=aU) (l:=dC (cw [x])) 0 zr zr zr zr zr zr (go ?_)
 have Ea:=Cq ob ot (.slice none 0 0) (cw [x])
 unfold dV tt at Ea
 refine aw Ea ?_
 refine go ?_
 refine az zr zr zr bh ?_
 intro b15
 refine aN (H':=ae b15 (cl [.slice none 0 0] 75)::ae b13 (cl (dC (cw [x])) 32)::ae ob (cl (fG ot (.slice none 0 0) (.slice none 0 0)) 66)::ae b6 (cl (dC Dg.zero) 32)::ae b8 (cl [.slice ra 1 rc] 75)::aB 77 66 (.slice ra 1 rc) 1 (ck x)::aB 81 67 (.slice oa 1 oc) 1 (L5 x (.slice ca (0+b.length) cc))::X::F) ag (go ?_)
 -- region 19
 refine aL (fun w=>Sat G w ([ae b13 (cl (dC (cw [x])) 32),ae ob (cl (fG ot (.slice none 0 0) (.slice none 0 0)) 66),ae b8 (cl [.slice ra 1 rc] 75)])) (cJ 0 8 (.act 8 (.act 9 (.st 10 (.st 11 (.act 12 .nil)))))) rfl ah ah ah dv ?_
 refine go ?_
 refine bX (U:=aU) (l:=dC (cw [x])) 0 zr zr zr zr zr zr (go ?_)
 refine bX (U:=aU) (l:=[.slice ra 1 rc]) 2 zr zr zr zr zr zr (go ?_)
 refine aj (cs:=p6 (cw [x]) (.slice ra 1 rc)) zr zr zr zr zr zr zr zr zr (fun _ w hw=>hw.cu ag) ?_
 intro aeG
 refine go ?_
 refine aN (bg 86 33 none _) ?_
 refine aJ (mm:=1) (news:=p6 (cw [x]) (.slice ra 1 rc)) 0 1 zr zr zr zr zr zr zr zr zr zr zr zr (Vw.ae rfl) rfl (fun v hv=>by
  rcases List.mem_append.1 hv with h|h
  ·exact FR [cw [x]] v (by simpa using h)
  ·rw[List.mem_singleton.1 h];rfl) ai (by decide) (fun _=>rfl) (fun _ w hw=>hw.cu ag) ?_
 intro v4
 refine aH 0 rfl ?_
 rintro ia ic rfl
 refine aN (H':=ae ob (cl (fG ot (.slice none 0 0) (.slice none 0 0)) 66)::aB 81 67 (.slice oa 1 oc) 1 (L5 x (.slice ca (0+b.length) cc))::ae b13 (cl (dC (cw [x])) 32)::ae b6 (cl (dC Dg.zero) 32)::aB 86 33 (.slice ia 1 ic) 1 (p6 (cw [x]) (.slice ra 1 rc))::aB 77 66 (.slice ra 1 rc) 1 (ck x)::ae b8 (cl [.slice ra 1 rc] 75)::X::F) ag (go ?_)
 refine jJ 1 rfl ai ?_
 intro xb oo EW he yn rQ mG
 simp only[Value.slice.injEq,true_and]at he
 obtain⟨rfl,rfl⟩:=he
 refine eQ rfl (go ?_)
 refine bW 0 67 zr zr zr zr zr zr zr zr ai (go ?_)
 refine cd (U:=aU) (es:=dC x.d) 1 (0*67+0) zr zr zr mG (Nat.add_assoc _ _ _) (fun j v hj=>by rw[show 0*67+0+j=j by omega];exact abC j v hj) zr zr zr ?_
 refine go ?_
 have zz:=EZ ob ot (.slice ia 1 ic) x.d
 unfold dV at zz
 refine aw zz ?_
 refine go ?_
 -- region 24
 refine aL (fun w=>Sat G w ([ae ob (cl (fG ot (.slice ia 1 ic) (.slice none 0 0)) 66),aB 81 67 (.slice (some ⟨xb,oo,none⟩) 1 oc) 1 (L5 x (.slice ca (0+b.length) cc))])) (cJ 0 9 (.act 9 (.act 10 (.st 11 (.st 12 (.act 13 .nil)))))) rfl ah ah ah dv ?_
 refine go ?_
 refine bW 0 67 zr zr zr zr zr zr zr zr ai (go ?_)
 refine eC (U:=aU) (es:=L5 x (.slice ca (0+b.length) cc)) 1 (0*67) zr zr zr mG rfl (fun j v hj=>by rw[show 0*67+j=j by omega];exact hj) zr zr zr ?_
 refine go ?_
 refine aj (cs:=L5 x (.slice ca (0+b.length) cc)) zr zr zr zr zr zr zr zr zr (fun _ w hw=>hw.cu ag) ?_
 intro aeF
 refine go ?_
 refine aN (bg 81 67 none _) ?_
 refine aJ (mm:=1) (news:=L5 x (.slice ca (0+b.length) cc)) 0 1 zr zr zr zr zr zr zr zr zr zr zr zr (Vw.ae rfl) rfl (fun v hv=>by
  rcases List.mem_append.1 hv with h|h
  ·exact vd [x] v (by simpa using h)
  ·rw[List.mem_singleton.1 h];rfl) ai (by decide) (fun _=>rfl) (fun _ w hw=>hw.cu ag) ?_
 intro v5
 refine aH 0 rfl ?_
 rintro fa fc rfl
 refine aN (H':=ae ob (cl (fG ot (.slice ia 1 ic) (.slice none 0 0)) 66)::ae b13 (cl (dC (cw [x])) 32)::ae b6 (cl (dC Dg.zero) 32)::aB 86 33 (.slice ia 1 ic) 1 (p6 (cw [x]) (.slice ra 1 rc))::aB 77 66 (.slice ra 1 rc) 1 (ck x)::X::F) ag (go ?_)
 refine cV rfl (go ?_)
 refine aO (U:=aU) (l:=dC (cw [x])) 1 zr zr zr zr zr zr (go ?_)
 (refine a6 hE ?_;apply aZ (U:=aU) hE Tryz.func7 rfl (ao.refl _);(repeat(first|exact aR.nil|apply aR.tmp rfl|apply aR.agg 2 zr zr zr zr zr));exact⟨ia,ic,ra,rc,.slice fa 1 fc,rfl,rfl⟩;exact ag)
end Go.Proofs.YtlcoaflddajjcaaGreatDoor
namespace Go.Proofs.YtlcoaflddajjcaaGreatDoor
open Go Go.SL
def BA(id:Int)(S:sP)(v1 v2 v3 v4 v5 pv:Value)(ms mg:Nat)(br:Bool):List Value := .int .i64 id::(x7 S++[v1,v2,v3,v4,v5,pv,.map (some ms),.map (some mg),.bool br])
attribute [local irreducible] J K au Ends ae aB aI bB aW aS a7 aX bF aC da bQ fU bC
section
variable(nb nB dB sB iB bd:Nat)(id:Int)(S:sP)(hS:NH S)(v1 v2 v3 v4 v5 pv:Value)(ms mg:Nat)(br:Bool)
include hS
def E1:au Tryz.prog 33 [ptr nb,.int .i64 1] [ae nb (cl (BA id S v1 v2 v3 v4 v5 pv ms mg br) 98)]
  (fun r H=>∃b,r = .tuple #[ptr b,.int .i64 0]∧H=[ae nb (cl (BA id S v1 v2 v3 v4 v5 pv ms mg br) 98)]):=by
 have hc:=C7 1 S.bR S.cj S.each S.pat ai hS.bR (j6 hS.cj) (j6 hS.each) (j6 hS.pat)
 refine au.ak Tryz.func33 Tryz.ntmps33 fun G F R hE=>?_
 refine go ?_
 refine aL (fun w=>Sat G w ([ae nb (cl (BA id S v1 v2 v3 v4 v5 pv ms mg br) 98)])) (cJ 0 21 (.act 21 (cJ 22 4 .nil))) rfl ah ah ah dv ?_
 refine go ?_
 ((refine de zr zr zr zr (hc) ag ?_ (fun _ _ w hp hw=>by obtain⟨_,rfl,rfl⟩:=hp;exact hw.cu ag)))
 rintro _ _⟨b,rfl,rfl⟩
 refine go ?_
 refine ad hE Tryz.func33 zr zr ⟨b,rfl,rfl⟩
def E3:au Tryz.prog 32 [ptr nB] [ae nB (cl [ptr nb] 39),ae nb (cl (BA id S v1 v2 v3 v4 v5 pv ms mg br) 98)]
  (fun r H=>r = .int .i64 0∧H=[ae nB (cl [ptr nb] 39),ae nb (cl (BA id S v1 v2 v3 v4 v5 pv ms mg br) 98)]):=by
 have hc:=E1 nb id S hS v1 v2 v3 v4 v5 pv ms mg br
 refine au.ak Tryz.func32 Tryz.ntmps32 fun G F R hE=>?_
 refine go ?_
 refine aF hc ?_
 rintro _ _⟨b,rfl,rfl⟩
 refine go ?_
 refine ad hE Tryz.func32 zr zr ⟨rfl,rfl⟩
def E5:au Tryz.prog 28 [ptr sB,ptr nB] [ae nB (cl [ptr nb] 39),ae nb (cl (BA id S v1 v2 v3 v4 v5 pv ms mg br) 98),ae sB (cl (x7 S) 37)]
  (fun r H=>∃kb,r = .int .i64 0∧H=[ae nB (cl [ptr nb] 39),ae nb (cl (BA id S v1 v2 v3 (ptr kb) v5 pv ms mg br) 98),ae sB (cl (x7 S) 37),fU kb S.lim S.fC S.bR]):=by
 have hc:=De S.lim S.fC S.bR (j6 hS.lim) (j6 hS.fC) (j6 hS.bR)
 refine au.ak Tryz.func28 Tryz.ntmps28 fun G F R hE=>?_
 refine go ?_
 refine aL (fun w=>Sat G w ([ae nB (cl [ptr nb] 39),ae sB (cl (x7 S) 37)])) (cJ 0 7 (.act 7 (cJ 8 5 (.act 13 (.st 14 .nil))))) rfl ah ah ah dv ?_
 refine go ?_
 ((refine de zr zr zr zr (hc) ag ?_ (fun _ _ w hp hw=>by obtain⟨_,rfl,rfl⟩:=hp;exact hw.cu ag)))
 rintro _ _⟨kb,rfl,rfl⟩
 refine go ?_
 (refine aY ?_;(refine bN 2 dv zr zr zr zr zr zr zr zr zr ?_))
 refine go ?_
 refine ad hE Tryz.func28 zr zr ⟨kb,rfl,rfl⟩
def E6(hi:1≤id∧id≤65536):au Tryz.prog 26 [ptr iB,ptr sB,ptr nB] [ae nB (cl [ptr nb] 39),ae nb (cl (BA id S v1 v2 v3 v4 v5 pv ms mg br) 98),ae sB (cl (x7 S) 37),ae iB (cl [.int .i64 id] 3)]
  (fun r H=>∃bv,r = .int .i64 0∧H=[ae nB (cl [ptr nb] 39),ae nb (cl (BA id S v1 v2 (ptr bv) v4 v5 pv ms mg br) 98),ae sB (cl (x7 S) 37),ae iB (cl [.int .i64 id] 3),bQ bv ⟨⟨id,0,1,0⟩,S.bR,[]⟩]):=by
 have hc:=Mn id S.bR (j6 hi) (j6 hS.bR)
 refine au.ak Tryz.func26 Tryz.ntmps26 fun G F R hE=>?_
 refine go ?_
 refine aL (fun w=>Sat G w ([ae nB (cl [ptr nb] 39),ae sB (cl (x7 S) 37),ae iB (cl [.int .i64 id] 3)])) (cJ 0 4 (.act 4 (cJ 5 5 (.act 10 (.st 11 .nil))))) rfl ah ah ah dv ?_
 refine go ?_
 ((refine de zr zr zr zr (hc) ag ?_ (fun _ _ w hp hw=>by obtain⟨_,rfl,rfl⟩:=hp;exact hw.cu ag)))
 rintro _ _⟨bv,rfl,rfl⟩
 refine go ?_
 (refine aY ?_;(refine bN 2 dv zr zr zr zr zr zr zr zr zr ?_))
 refine go ?_
 refine ad hE Tryz.func26 zr zr ⟨bv,rfl,rfl⟩
def E8(X:HP)(hK:pY X)(room:Nat):au Tryz.prog 22 [ptr dB,ptr sB,ptr nB] [ae nB (cl [ptr nb] 39),ae nb (cl (BA id S v1 v2 v3 v4 v5 pv ms mg br) 98),ae sB (cl (x7 S) 37),ae dB (cl [ptr bd] 28),aC bd (Ab.new room),X]
  (fun r H=>∃bs mb,pg (Ab.new room) 0 (Ab.new room)∧r = .int .i64 0∧H=[ae nB (cl [ptr nb] 39),ae nb (cl (BA id S (ptr bs) v2 v3 v4 v5 pv ms mg br) 98),ae sB (cl (x7 S) 37),ae dB (cl [ptr bd] 28),ae bs (cl (dg bd S.aT mb false) 146),aI dV mb (du []),aC bd (Ab.new room),X]):=by
 have hc:=Bb X hK bd S.aT hS.q room
 refine au.ak Tryz.func22 Tryz.ntmps22 fun G F R hE=>?_
 refine go ?_
 refine aL (fun w=>Sat G w ([ae nB (cl [ptr nb] 39),ae sB (cl (x7 S) 37),ae dB (cl [ptr bd] 28)])) (cJ 0 4 (.act 4 (cJ 5 5 (.act 10 (.st 11 .nil))))) rfl ah ah ah dv ?_
 refine go ?_
 refine cT hc ?_
 rintro _ _⟨bs,mb,ho,rfl,rfl⟩
 refine aN (H':=ae nB (cl [ptr nb] 39)::ae nb (cl (BA id S v1 v2 v3 v4 v5 pv ms mg br) 98)::ae sB (cl (x7 S) 37)::ae dB (cl [ptr bd] 28)::ae bs (cl (dg bd S.aT mb false) 146)::aI dV mb (du [])::aC bd (Ab.new room)::X::F) ag (go ?_)
 (refine aY ?_;(refine bN 1 dv zr zr zr zr zr zr zr zr zr ?_))
 refine go ?_
 refine ad hE Tryz.func22 zr zr ⟨bs,mb,ho,rfl,rfl⟩
def E7(X:HP)(hK:pY X)(room:Nat)(hr:64≤room)(ho:pg (Ab.new room) 0 (Ab.new room))(bs mb:Nat):au Tryz.prog 24 [ptr dB,ptr nB] [ae nB (cl [ptr nb] 39),ae nb (cl (BA id S (ptr bs) v2 v3 v4 v5 pv ms mg br) 98),ae dB (cl [ptr bd] 28),ae bs (cl (dg bd S.aT mb false) 146),aI dV mb (du []),aC bd (Ab.new room),X]
  (fun r H=>∃(t:SJ) (tb jb:Nat) (tv:Value),QD t∧r = .int .i64 0∧H=ae nB (cl [ptr nb] 39)::ae nb (cl (BA id S (ptr bs) (ptr tb) v3 v4 v5 pv ms mg br) 98)::ae dB (cl [ptr bd] 28)::da bs bd jb S.aT mb [] t::X::fq tb bs jb tv [] false):=by
 have hc:=AH X hK bs bd S.aT hS.q mb room hr ho
 unfold fq at hc ⊢
 refine au.ak Tryz.func24 Tryz.ntmps24 fun G F R hE=>?_
 refine go ?_
 refine aL (fun w=>Sat G w ([ae nB (cl [ptr nb] 39),ae dB (cl [ptr bd] 28)])) (cJ 0 5 (.act 5 (.act 6 (cJ 7 5 (.act 12 (.st 13 .nil)))))) rfl ah ah ah dv ?_
 refine go ?_
 refine cT hc ?_
 rintro _ _⟨t,tb,jb,tv,hq,rfl,rfl⟩
 refine aN (H':=ae nB (cl [ptr nb] 39)::ae nb (cl (BA id S (ptr bs) v2 v3 v4 v5 pv ms mg br) 98)::ae dB (cl [ptr bd] 28)::da bs bd jb S.aT mb [] t::X::ae tb (cl [ptr bs,ptr jb,tv,.bool false] 156)::aB 158 1 tv ([]:List Tk).length (([]:List Tk).map df)::bC []::F) ag (go ?_)
 (refine aY ?_;(refine bN 1 dv zr zr zr zr zr zr zr zr zr ?_))
 refine go ?_
 refine ad hE Tryz.func24 zr zr ⟨t,tb,jb,tv,hq,rfl,rfl⟩
end
end Go.Proofs.YtlcoaflddajjcaaGreatDoor
namespace Go.Proofs.YtlcoaflddajjcaaGreatDoor
open Go Go.SL
attribute [local irreducible] J K au Ends ae aB aI bB aW aS a7 aX bF aC da bQ fU n5 wh bC
section
variable(nb nB dB sB iB bd:Nat)(id:Int)(S:sP)(hS:NH S)(v1 v2 v3 v4 v5 pv:Value)(ms mg:Nat)(br:Bool)
include hS
def E4:au Tryz.prog 30 [ptr sB,ptr nB] [ae nB (cl [ptr nb] 39),ae nb (cl (BA id S v1 v2 v3 v4 v5 pv ms mg br) 98),ae sB (cl (x7 S) 37)]
  (fun r H=>∃hb,r = .int .i64 0∧H=[ae nB (cl [ptr nb] 39),ae nb (cl (BA id S v1 v2 v3 v4 (ptr hb) pv ms mg br) 98),ae sB (cl (x7 S) 37),wh hb S.bG 3 0 0 none [] ]):=by
 have h1:=hS.bG
 have h0:AN S.bG 3=0:=by unfold AN;rw[if_neg ai]
 have hc:au Tryz.prog 31 [.int .i64 S.bG,.int .i64 3] [] (fun r H=>∃b,r = .tuple #[ptr b,.int .i64 0]∧H=[wh b S.bG 3 0 0 none [] ]):=au.post (Nn S.bG 3) fun v H h=>by
  rcases h with⟨h,_⟩|⟨_,b,h1,h2⟩
  ·exact absurd (h0.symm.trans h) (by decide)
  ·exact⟨b,h1,h2⟩
 refine au.ak Tryz.func30 Tryz.ntmps30 fun G F R hE=>?_
 refine go ?_
 refine aL (fun w=>Sat G w ([ae nB (cl [ptr nb] 39),ae sB (cl (x7 S) 37)])) (cJ 0 3 (.act 3 (cJ 4 5 (.act 9 (.st 10 .nil))))) rfl ah ah ah dv ?_
 refine go ?_
 ((refine de zr zr zr zr (hc) ag ?_ (fun _ _ w hp hw=>by obtain⟨_,rfl,rfl⟩:=hp;exact hw.cu ag)))
 rintro _ _⟨hb,rfl,rfl⟩
 refine go ?_
 (refine aY ?_;(refine bN 2 dv zr zr zr zr zr zr zr zr zr ?_))
 refine go ?_
 refine ad hE Tryz.func30 zr zr ⟨hb,rfl,rfl⟩
end
end Go.Proofs.YtlcoaflddajjcaaGreatDoor
namespace Go.Proofs.YtlcoaflddajjcaaGreatDoor
open Go Go.SL
attribute [local irreducible] J K au Ends ae aB aI bB aW aS a7 aX bF aC da bQ fU n5 wh bC
def z7(X:HP)(hK:pY X)(bd:Nat)(id:Int)(S:sP)(hS:NH S)(hi:1≤id∧id≤65536)(room:Nat)(hr:64≤room) :
  au Tryz.prog 9 [.int .i64 id,ptr bd,.agg (x7 S).toArray] [aC bd (Ab.new room),X]
  (fun r H=>∃(nb st tb bv kb hb ms mg jb mb:Nat) (tv:Value) (t:SJ),QD t∧r = .tuple #[ptr nb,.int .i64 0] ∧
   H=ae nb (cl (cy id S st tb bv kb hb (.slice none 0 0) ms mg false) 98)::aI dV ms []::bQ bv ⟨⟨id,0,1,0⟩,S.bR,[]⟩::aI (Value.int .i64) mg []::fU kb S.lim S.fC S.bR::wh hb S.bG 3 0 0 none []::da st bd jb S.aT mb [] t::X::fq tb st jb tv [] false):=by
 refine au.ak Tryz.func9 Tryz.ntmps9 fun G F R hE=>?_
 refine aD rfl ?_
 refine bu zr zr bh ?_
 intro iB
 refine bu zr zr bh ?_
 intro dB
 refine bu zr zr bh ?_
 intro sB
 refine go ?_
 refine aw (jP id 1 65536) ?_
 rw[j6 hi]
 refine go ?_
 refine aO (U:=aU) (l:=x7 S) 0 zr zr zr zr zr zr (go ?_)
 refine eG rfl bh ?_
 intro ms
 refine aN (ao.fold (B:=[_]) (A:=aI dV ms []) (fun h hs=>⟨h,sub.refl h,gA dV ms h (dp hs)⟩)) ?_
 refine go ?_
 refine eG rfl bh ?_
 intro mg
 refine aN (ao.fold (B:=[_]) (A:=aI (Value.int .i64) mg []) (fun h hs=>⟨h,sub.refl h,gA (Value.int .i64) mg h (dp hs)⟩)) ?_
 refine go ?_
 refine bu zr zr bh ?_
 intro nb
 refine go ?_
 refine az zr zr zr bh ?_
 intro nB
 refine go ?_
 refine iC (U:=aU) zr zr zr zr zr zr (go ?_)
 refine az zr zr zr bh ?_
 intro b9
 refine go ?_
 refine aO (U:=aU) (l:=[.func (.func 22) #[] #[ptr dB,ptr sB,ptr nB],.func (.func 24) #[] #[ptr dB,ptr nB],.func (.func 26) #[] #[ptr iB,ptr sB,ptr nB],.func (.func 28) #[] #[ptr sB,ptr nB],.func (.func 30) #[] #[ptr sB,ptr nB],.func (.func 32) #[] #[ptr nB] ]) 0 zr zr zr zr zr zr (go ?_)
 refine eQ rfl (go ?_)
 refine fg zr zr zr zr zr zr zr zr (by simp) (by simp) rfl (go ?_)
 refine ji zr zr zr zr (E8 nb nB dB sB bd id S hS (.pointer none) (.pointer none) (.pointer none) (.pointer none) (.pointer none) (.slice none 0 0) ms mg false X hK room) ag ?_ jk
 rintro _ _⟨st,mb,ho,rfl,rfl⟩
 refine go ?_
 refine cV rfl (go ?_)
 refine fg zr zr zr zr zr zr zr zr (by simp) (by simp) rfl (go ?_)
 refine ji zr zr zr zr (E7 nb nB dB bd id S hS (.pointer none) (.pointer none) (.pointer none) (.pointer none) (.slice none 0 0) ms mg false X hK room hr ho st mb) ag ?_ jk
 rintro _ _⟨t,tb,jb,tv,hq,rfl,rfl⟩
 unfold fq
 refine aN (H':=ae nB (cl [ptr nb] 39)::ae nb (cl (BA id S (ptr st) (ptr tb) (.pointer none) (.pointer none) (.pointer none) (.slice none 0 0) ms mg false) 98)::ae sB (cl (x7 S) 37)::ae iB (cl [.int .i64 id] 3)::aI dV ms []::aI (Value.int .i64) mg []::da st bd jb S.aT mb [] t::X::ae tb (cl [ptr st,ptr jb,tv,.bool false] 156)::aB 158 1 tv ([]:List Tk).length (([]:List Tk).map df)::bC []::F) ag (go ?_)
 refine cV rfl (go ?_)
 refine fg zr zr zr zr zr zr zr zr (by simp) (by simp) rfl (go ?_)
 refine ji zr zr zr zr (E6 nb nB sB iB id S hS (ptr st) (ptr tb) (.pointer none) (.pointer none) (.pointer none) (.slice none 0 0) ms mg false hi) ag ?_ jk
 rintro _ _⟨bv,rfl,rfl⟩
 refine go ?_
 refine cV rfl (go ?_)
 refine fg zr zr zr zr zr zr zr zr (by simp) (by simp) rfl (go ?_)
 refine ji zr zr zr zr (E5 nb nB sB id S hS (ptr st) (ptr tb) (ptr bv) (.pointer none) (.pointer none) (.slice none 0 0) ms mg false) ag ?_ jk
 rintro _ _⟨kb,rfl,rfl⟩
 refine go ?_
 refine cV rfl (go ?_)
 refine fg zr zr zr zr zr zr zr zr (by simp) (by simp) rfl (go ?_)
 refine ji zr zr zr zr (E4 nb nB sB id S hS (ptr st) (ptr tb) (ptr bv) (ptr kb) (.pointer none) (.slice none 0 0) ms mg false) ag ?_ jk
 rintro _ _⟨hb,rfl,rfl⟩
 refine go ?_
 refine cV rfl (go ?_)
 refine fg zr zr zr zr zr zr zr zr (by simp) (by simp) rfl (go ?_)
 refine ji zr zr zr zr (E3 nb nB id S hS (ptr st) (ptr tb) (ptr bv) (ptr kb) (ptr hb) (.slice none 0 0) ms mg false) ag ?_ jk
 rintro _ _⟨rfl,rfl⟩
 refine go ?_
 refine cV rfl (go ?_)
 refine al (H':=ae nb (cl (cy id S st tb bv kb hb (.slice none 0 0) ms mg false) 98)::aI dV ms []::bQ bv ⟨⟨id,0,1,0⟩,S.bR,[]⟩::aI (Value.int .i64) mg []::fU kb S.lim S.fC S.bR::wh hb S.bG 3 0 0 none []::da st bd jb S.aT mb [] t::X::ae tb (cl [ptr st,ptr jb,tv,.bool false] 156)::aB 158 1 tv ([]:List Tk).length (([]:List Tk).map df)::bC []::F) ag ?_
 refine ad hE Tryz.func9 zr zr ⟨nb,st,tb,bv,kb,hb,ms,mg,jb,mb,tv,t,hq,rfl,rfl⟩
end Go.Proofs.YtlcoaflddajjcaaGreatDoor
namespace Go.Proofs.YtlcoaflddajjcaaGreatDoor
open Go Go.SL
def qq:sP:=⟨1048576,5,4,2,5,2,20,2⟩
def d5:Dg:=⟨5::List.replicate 31 0,by simp⟩
attribute [local irreducible] J K au Ends ae aB aI bB aW aS a7 aX bF
def y6:au Tryz.prog 8 [] [] (fun r H=>r = .agg (x7 qq).toArray∧H=[]):=by
 refine au.ak Tryz.func8 Tryz.ntmps8 fun G F R hE=>?_
 refine aD rfl ?_
 refine az zr zr zr bh ?_
 intro b0
 refine go ?_
 (refine a6 hE ?_;apply aZ (U:=aU) hE Tryz.func8 rfl (ao.refl _);(repeat(first|exact aR.nil|apply aR.agg 0 zr zr zr zr zr));exact⟨rfl,rfl⟩;exact ag)
end Go.Proofs.YtlcoaflddajjcaaGreatDoor
namespace Go.Proofs.YtlcoaflddajjcaaGreatDoor
open Go Go.SL
def yA.new(id cj:Int)(h:1≤cj∧cj≤64):yA ⟨⟨id,0,1,0⟩,cj,[]⟩:=⟨by simp,by simp only[List.length_nil];omega,h,by simp only;omega,fun x hx=>by simp at hx⟩
def Yp:NH qq:=⟨by decide,by decide,by decide,by decide,by decide,by decide,by decide,by decide⟩
def Qe(bs bd jb:Nat)(q:Int)(mb:Nat)(x:SJ)(F:List HP):ao (da bs bd jb q mb [] x::F) (ae bs (cl (dg bd q mb x.1.brk) 146)::aC bd x.1.A::F):=by
 unfold da jo
 refine(ao.bY _ _).trans ?_
 simp only[List.cons_append,List.nil_append]
 exact ag
attribute [local irreducible] J K au Ends ae aB aI bB aW aS a7 aX bF aC da bQ fU n5 wh bC
def Dp(X:HP)(hK:pY X):au Tryz.prog 4 [] [X] (fun r H=>r = .bool true∧H=[X]):=by
 refine au.ak Tryz.func4 Tryz.ntmps4 fun G F R hE=>?_
 refine go ?_
 refine aF (Gf 1048576 ai ai) ?_
 rintro _ _⟨bd,rfl,rfl⟩
 refine go ?_
 refine aw y6 ?_
 refine go ?_
 refine aF (z7 X hK bd 7 qq Yp ai 1048576 ai) ?_
 rintro _ _⟨nb,st,tb,bv,kb,hb,ms,mg,jb,mb,tv,t,hq,rfl,rfl⟩
 have hN:=hq.nil
 refine aN (H':=ae nb (cl (cy 7 qq st tb bv kb hb (.slice none 0 0) ms mg false) 98)::bQ bv ⟨⟨7,0,1,0⟩,qq.bR,[]⟩::fU kb qq.lim qq.fC qq.bR::n5 hb qq.bG 0::aI (Value.int .i64) mg (gE [])::ae st (cl (dg bd qq.aT mb t.1.brk) 146)::aC bd t.1.A::X::F) (ao.trans (H2:=da st bd jb qq.aT mb [] t::wh hb qq.bG 3 0 0 none []::ae nb (cl (cy 7 qq st tb bv kb hb (.slice none 0 0) ms mg false) 98)::bQ bv ⟨⟨7,0,1,0⟩,qq.bR,[]⟩::fU kb qq.lim qq.fC qq.bR::aI (Value.int .i64) mg []::X::F) ag ((Qe st bd jb qq.aT mb t _).trans (ao.trans (H2:=wh hb qq.bG 3 0 0 none []::ae st (cl (dg bd qq.aT mb t.1.brk) 146)::aC bd t.1.A::ae nb (cl (cy 7 qq st tb bv kb hb (.slice none 0 0) ms mg false) 98)::bQ bv ⟨⟨7,0,1,0⟩,qq.bR,[]⟩::fU kb qq.lim qq.fC qq.bR::aI (Value.int .i64) mg []::X::F) ag ((pB hb qq.bG 0 0 none [] (by decide) (fun _=>rfl) _).trans ag)))) ?_
 refine go ?_
 refine iC (U:=aU) (cs:=dC d5) zr zr zr zr zr zr (go ?_)
 refine aF (zZ nb 7 qq st tb bv kb hb ms mg bd qq.aT mb t.1.brk t.1.A d5 (hN.YE d5)) ?_
 rintro _ _⟨p,hpd,rfl,rfl⟩
 refine go ?_
 refine aF (J7 nb 7 qq st tb bv kb hb ms mg (some p) bd qq.aT mb t.1.brk t.1.A (fun _ _=>hN.YE _) ⟨⟨7,0,1,0⟩,qq.bR,[]⟩ (yA.new 7 5 ai) [] (by simp) (by simp) (fun k hk=>by simp at hk) 0 1 0 ai (by decide) (by decide)) ?_
 rintro _ _⟨⟨n,oa,oc,co,la,ln,lc⟩,e,V',r',g',pv',rfl,he,wI,hV',hm',Fw,Oj,hg',hpn,rfl⟩
 obtain rfl:=he (by decide)
 have hk0:V'.ks=[]:=List.eq_nil_of_length_eq_zero (Nat.le_zero.1 Fw)
 obtain⟨hn,hc⟩:=wI hk0 rfl
 simp only[Z8,plO]at hn hc
 subst hn hc
 refine sq 0 rfl (by show 0<1;omega) ?_
 intro ob oo EW dL mG
 simp only[Value.slice.injEq,true_and]at dL
 obtain⟨rfl,rfl⟩:=dL
 refine go ?_
 refine bW 0 40 zr zr zr zr zr zr zr zr (by show 0<1;omega) ?_
 refine go ?_
 refine aP ?_
 refine aQ 0 (0*40+1) zr zr zr mG (Nat.add_assoc _ _ _) zr zr zr (go ?_)
 refine al (H':=X::F) ag ?_
 refine ad hE Tryz.func4 zr zr ⟨rfl,rfl⟩
end Go.Proofs.YtlcoaflddajjcaaGreatDoor
namespace Go.SL
open Go
def aaa(n:Nat):IntKind.u8.wrap (n:Int)=((n%256:Nat):Int):=by
 simp[IntKind.wrap,IntKind.bits,IntKind.signed]
def ofInt8(p:UInt8):BitVec.ofInt IntKind.u8.bits ((p.toNat:Nat):Int)=p.toBitVec:=by
 apply BitVec.eq_of_toNat_eq
 have h:IntKind.u8.bits=8:=rfl
 have h2:=p.toNat_lt
 show(BitVec.ofInt 8 (p.toNat:Int)).toNat=p.toNat
 rw[BitVec.toNat_ofInt]
 omega
section
variable{P:Program}{U:Tr}[hU:eT P U]{f:FuncId}{n:Nat}{R:Ending→World→Prop}{G:ct}{k:List Item}{L:eH}{H H':List HP}{S:World→Prop}{all:Array Oper}{rest:Pl}{ty:TypeId}{pos:String}{af:Array Edge}{gd:Option (Nat × Bool)}{m:Bool}{d:Tmp}
end
end Go.SL
namespace Go.Proofs.YtlcoaflddajjcaaGreatDoor
open Go Go.SL
def cp(d:Dg)(k:Nat)(h:1≤k):(wU d).at k=d.at k:=by
 obtain⟨j,rfl⟩:∃j,k=j+1:=⟨k-1,ai⟩
 unfold Dg.at wU
 simp only[List.getD_eq_getElem?_getD,List.getElem?_cons_succ,List.getElem?_drop]
 rw[Nat.add_comm 1 j]
def Nc(d:Dg):dC (wU d)=u8 (d.at 0 ^^^ 1)::(dC d).tail:=by
 unfold dC
 rw[cp d 1 ai,cp d 2 ai,cp d 3 ai,cp d 4 ai,cp d 5 ai,cp d 6 ai,cp d 7 ai,cp d 8 ai,cp d 9 ai,cp d 10 ai,cp d 11 ai,cp d 12 ai,cp d 13 ai,cp d 14 ai,cp d 15 ai,cp d 16 ai,cp d 17 ai,cp d 18 ai,cp d 19 ai,cp d 20 ai,cp d 21 ai,cp d 22 ai,cp d 23 ai,cp d 24 ai,cp d 25 ai,cp d 26 ai,cp d 27 ai,cp d 28 ai,cp d 29 ai,cp d 30 ai,cp d 31 ai]
 rfl
def Qw{pb:Nat}{d:Dg}{at_ f:Int}{st bd jb:Nat}{q:Int}{mb:Nat}{t:SJ}{tb:Nat}{tv:Value}:qI pb d (.pointer none) at_ f st bd jb q mb t tb tv=qA pb d at_ f st bd jb q mb t tb tv:=rfl
def mq(nb:Nat)(id:Int)(S:sP)(st tb bv kb hb ms mg:Nat)(pv:Value)(br:Bool)(pb:Nat)(d:Dg)(ib:Value)(at_ f:Int)(hf:f≠0)(now seed:Int)(bd jb mb:Nat)(q:Int)(t:SJ)(tv:Value) :
  Dt nb id S st tb bv kb hb ms mg pv br pb now seed (qI pb d ib at_ f st bd jb q mb t tb tv) 0 [] (fun _=>qI pb d ib at_ f st bd jb q mb t tb tv):=Ic nb id S st tb bv kb hb ms mg pv br pb d ib at_ f hf now seed (da st bd jb q mb [] t::fq tb st jb tv [] false)
def Ou(p:UInt8):Value.int IntKind.u8 (IntKind.u8.wrap ((BitVec.ofInt IntKind.u8.bits ((p.toNat:Nat):Int) ^^^ BitVec.ofInt IntKind.u8.bits 1).toNat:Int))=u8 (p ^^^ 1):=by
 rw[ofInt8]
 have h1:(p.toBitVec ^^^ (BitVec.ofInt 8 1:BitVec 8)).toNat=(p ^^^ 1).toNat:=rfl
 have h2:=(p ^^^ 1).toNat_lt
 show Value.int IntKind.u8 (IntKind.u8.wrap (((p.toBitVec ^^^ (BitVec.ofInt 8 1:BitVec 8)).toNat:Nat):Int))=_
 rw[h1,aaa]
 unfold u8
 rw[show(p ^^^ 1).toNat%256=(p ^^^ 1).toNat by omega]
def ek(q:Int):sP:=⟨q,5,4,2,5,2,20,2⟩
def Yo{q:Int}(h:1≤q∧q≤1000):NH (ek q):=⟨⟨h.1,by show q≤_;omega⟩,(show(1:Int)≤5∧(5:Int)≤64 from by decide),(show(1:Int)≤4∧(4:Int)≤256 from by decide),(show(1:Int)≤2∧(2:Int)≤4 from by decide),(show(1:Int)≤5∧(5:Int)≤1048576 from by decide),(show(1:Int)≤2∧(2:Int)≤100 from by decide),(show(1:Int)≤20∧(20:Int)≤1048576 from by decide),(show(1:Int)≤2∧(2:Int)≤16 from by decide)⟩
structure FSt where
 a:Option Addr
 c:Nat
 ib:Value
 f:Int
 tv:Value
attribute [local irreducible] J K au Ends ae aB aI bB aW aS a7 aX bF aC da bQ fU n5 wh bC kx qA qK qI
def yD(X:HP)(hK:pY X)(v:Value)(b:List UInt8)(hbv:ew X v b)(aT:Int)(KD:Bool) :
  au Tryz.prog 3 [v,.int .i64 aT,.bool KD] [X] (fun r H=>r = .bool true∧H=[X]):=by
 obtain⟨hv,ba,bc,rfl,fY⟩:=hbv
 have hbX:ew X (.slice ba b.length bc) b:=⟨hv,ba,bc,rfl,fY⟩
 refine au.ak Tryz.func3 Tryz.ntmps3 fun G F R hE=>?_
 refine go ?_
 refine aw (Dp X hK) ?_
 refine go ?_
 refine aF L7 ?_
 rintro _ _⟨ob,ot,rfl,rfl⟩
 refine go ?_
 refine aF (Gf 16777216 ai ai) ?_
 rintro _ _⟨bd,rfl,rfl⟩
 refine go ?_
 by_cases h1:(b.length:Int)=0
 ·refine aG 50 ((.bool true)) rfl ((congrArg Value.bool (decide_eq_true h1))) (go ?_)
  refine al (H':=X::F) ag ?_
  refine ad hE Tryz.func3 zr zr ⟨rfl,rfl⟩
 refine aG 50 ((.bool false)) rfl ((congrArg Value.bool (decide_eq_false h1))) (go ?_)
 by_cases h2:(500:Int)<b.length
 ·refine aG 55 ((.bool true)) rfl ((congrArg Value.bool (decide_eq_true h2))) (go ?_)
  refine al (H':=X::F) ag ?_
  refine ad hE Tryz.func3 zr zr ⟨rfl,rfl⟩
 refine aG 55 ((.bool false)) rfl ((congrArg Value.bool (decide_eq_false h2))) (go ?_)
 by_cases h3:aT<1
 ·refine aG 59 ((.bool true)) rfl ((congrArg Value.bool (decide_eq_true h3))) (go ?_)
  refine al (H':=X::F) ag ?_
  refine ad hE Tryz.func3 zr zr ⟨rfl,rfl⟩
 refine aG 59 ((.bool false)) rfl ((congrArg Value.bool (decide_eq_false h3))) (go ?_)
 by_cases h4:(b.length:Int)≤aT
 ·refine bq 64 ((.bool true)) rfl ((congrArg Value.bool (decide_eq_true h4))) (go ?_)
  refine al (H':=X::F) ag ?_
  refine ad hE Tryz.func3 zr zr ⟨rfl,rfl⟩
 refine bq 64 ((.bool false)) rfl ((congrArg Value.bool (decide_eq_false h4))) ?_
 obtain⟨x,hx⟩:=JR (b:=b) ai
 obtain⟨hr,iJ,KI,hwh⟩:=HR hx
 refine go ?_
 refine aj (cs:=[.slice ba b.length bc]) zr zr zr zr zr zr zr zr zr bh ?_
 intro lb
 refine go ?_
 refine aF (AM X ob ot lb ba bc b hbX ai x hx) ?_
 rintro _ _⟨ia,ic,ra,rc,ov,rfl,rfl⟩
 unfold dV
 refine go ?_
 refine az zr zr zr bh ?_
 intro Dn
 refine go ?_
 refine gG rfl ?_
 refine al (H':=ae Dn (cl (dC (cw [x])) 32)::ae ob (cl (fG ot (.slice ia 1 ic) ov) 66)::aB 86 33 (.slice ia 1 ic) 1 (p6 (cw [x]) (.slice ra 1 rc))::aB 77 66 (.slice ra 1 rc) 1 (ck x)::aC bd (Ab.new 16777216)::X::F) ag ?_
 refine sl 1 (fun d:Dg=>d=if KD then wU (cw [x])else cw [x]) (fun _=>[(1,.int .i64 aT),(2,.bool KD),(8,ptr ob),(10,ptr bd),(12,ptr Dn)]) (fun d=>ae Dn (cl (dC d) 32)::ae ob (cl (fG ot (.slice ia 1 ic) ov) 66)::aB 86 33 (.slice ia 1 ic) 1 (p6 (cw [x]) (.slice ra 1 rc))::aB 77 66 (.slice ra 1 rc) 1 (ck x)::aC bd (Ab.new 16777216)::X::F) rfl ?_ ?_
 case refine_2 =>
  intro tail
  cases KD with
  | true =>
   refine vg zr zr ?_
   refine aD rfl (go ?_)
   refine dI (U:=aU) 0 zr zr zr zr zr zr zr ai ai (go ?_)
   refine aG 82 ((u8 ((cw [x]).at 0 ^^^ 1))) rfl ((Ou _)) ?_
   refine dI (U:=aU) 0 zr zr zr zr zr zr zr ai ai ?_
   refine oe ?_
   refine al (H':=ae Dn (cl (u8 ((cw [x]).at 0 ^^^ 1)::(dC (cw [x])).tail) 32)::ae ob (cl (fG ot (.slice ia 1 ic) ov) 66)::aB 86 33 (.slice ia 1 ic) 1 (p6 (cw [x]) (.slice ra 1 rc))::aB 77 66 (.slice ra 1 rc) 1 (ck x)::aC bd (Ab.new 16777216)::X::F) ag ?_
   rw[← Nc]
   refine mi tail (wU (cw [x])) zr zr bS ag
  | false =>
   refine kD zr zr ?_
   refine mi tail (cw [x]) zr zr bS ag
 intro d hd
 have nE:cw [x]=d↔KD=false:=by
  cases KD with
  | true=>rw[hd];simp only[if_true];exact⟨fun h=>absurd h.symm (Nb _),fun h=>by cases h⟩
  | false=>rw[hd];simp
 refine go ?_
 refine aw y6 ?_
 refine go ?_
 refine az zr zr zr bh ?_
 intro b14
 refine go ?_
 refine aN (H':=ae b14 (cl (x7 (ek aT)) 37)::ae Dn (cl (dC d) 32)::ae ob (cl (fG ot (.slice ia 1 ic) ov) 66)::aB 86 33 (.slice ia 1 ic) 1 (p6 (cw [x]) (.slice ra 1 rc))::aB 77 66 (.slice ra 1 rc) 1 (ck x)::aC bd (Ab.new 16777216)::X::F) ag ?_
 refine aO (U:=aU) (l:=x7 (ek aT)) 0 zr zr zr zr zr zr (go ?_)
 refine aF (z7 X hK bd 7 (ek aT) (Yo ai) ai 16777216 ai) ?_
 rintro _ _⟨nb,st,tb,bv,kb,hb,ms,mg,jb,mb,tv,t,hQ,rfl,rfl⟩
 unfold fq
 refine aN (H':=ae Dn (cl (dC d) 32)::ae nb (cl (cy 7 (ek aT) st tb bv kb hb (.slice none 0 0) ms mg false) 98)::bQ bv ⟨⟨7,0,1,0⟩,(ek aT).bR,[]⟩::fU kb (ek aT).lim (ek aT).fC (ek aT).bR::n5 hb (ek aT).bG 0::aI (Value.int .i64) mg (gE [])::ae ob (cl (fG ot (.slice ia 1 ic) ov) 66)::aB 86 33 (.slice ia 1 ic) 1 (p6 (cw [x]) (.slice ra 1 rc))::aB 77 66 (.slice ra 1 rc) 1 (ck x)::da st bd jb (ek aT).aT mb [] t::ae tb (cl [ptr st,ptr jb,tv,.bool false] 156)::aB 158 1 tv ([]:List Tk).length (([]:List Tk).map df)::bC []::X::F) (ao.trans (H2:=wh hb (ek aT).bG 3 0 0 none []::ae Dn (cl (dC d) 32)::ae nb (cl (cy 7 (ek aT) st tb bv kb hb (.slice none 0 0) ms mg false) 98)::bQ bv ⟨⟨7,0,1,0⟩,(ek aT).bR,[]⟩::fU kb (ek aT).lim (ek aT).fC (ek aT).bR::aI (Value.int .i64) mg []::ae ob (cl (fG ot (.slice ia 1 ic) ov) 66)::aB 86 33 (.slice ia 1 ic) 1 (p6 (cw [x]) (.slice ra 1 rc))::aB 77 66 (.slice ra 1 rc) 1 (ck x)::da st bd jb (ek aT).aT mb [] t::ae tb (cl [ptr st,ptr jb,tv,.bool false] 156)::aB 158 1 tv ([]:List Tk).length (([]:List Tk).map df)::bC []::X::F) ag ((pB hb (ek aT).bG 0 0 none [] (by decide) (fun _=>rfl) _).trans ag)) ?_
 refine go ?_
 refine aO (U:=aU) (l:=dC d) 0 zr zr zr zr zr zr (go ?_)
 have hpu:=Kb nb 7 (ek aT) st tb bv kb hb ms mg bd jb mb (ek aT).aT t tv hQ d
 unfold dV at hpu
 refine aF hpu ?_
 rintro _ _⟨a,c,pb,rfl,rfl⟩
 refine go ?_
 refine gG rfl ?_
 refine al (H':=ae nb (cl (cy 7 (ek aT) st tb bv kb hb (.slice a 1 c) ms mg false) 98)::bQ bv ⟨⟨7,0,1,0⟩,(ek aT).bR,[]⟩::fU kb (ek aT).lim (ek aT).fC (ek aT).bR::n5 hb (ek aT).bG 0::aI (Value.int .i64) mg (gE [])::aB 118 1 (.slice a 1 c) 1 [ptr pb]::qI pb d (.pointer none) (-1) 0 st bd jb (ek aT).aT mb t tb tv::ae ob (cl (fG ot (.slice ia 1 ic) ov) 66)::aB 86 33 (.slice ia 1 ic) 1 (p6 (cw [x]) (.slice ra 1 rc))::aB 77 66 (.slice ra 1 rc) 1 (ck x)::ae Dn (cl (dC d) 32)::X::F) ag ?_
 refine sl 1 (fun y:FSt=>y.f=if KD then 4 else 11) (fun _=>[(2,.bool KD),(12,ptr Dn),(15,ptr nb),(16,.int .i64 0)]) (fun y=>ae Dn (cl (dC d) 32)::ae nb (cl (cy 7 (ek aT) st tb bv kb hb (.slice y.a 1 y.c) ms mg false) 98)::aB 118 1 (.slice y.a 1 y.c) 1 [ptr pb]::qI pb d y.ib 1 y.f st bd jb (ek aT).aT mb t tb y.tv::X::F) rfl ?_ ?_
 case refine_2 =>
  intro tail
  refine eQ rfl ?_
  rw[Qw]
  refine go ?_
  have hT1:=jI nb 7 (ek aT) st tb bv kb hb ms mg a c pb 1 3 _ 1 (uR d) _ (Ie nb 7 (ek aT) st tb bv kb hb ms mg (.slice a 1 c) false pb d 1 3 bd jb mb (ek aT).aT tv t hQ) ai rfl (AI 0 BB _ zr zr zr zr) ⟨⟨7,0,1,0⟩,(ek aT).bR,[]⟩ (yA.new 7 5 ai) rfl 0 ai (show i64 2 from by decide) (show(0:Int)≤5∧(5:Int)≤1048576 from by omega) ai
  refine aF hT1 ?_
  rintro _ _⟨oa1,oc1,a1,c1,V1,r1,z1,rfl,KP,On,BD,uA,rfl⟩
  refine go ?_
  have u3:=Ew X hK ob ot ov ia ic ra rc x hr nb 7 (ek aT) st tb bv kb hb ms mg a1 c1 pb bd jb mb (ek aT).aT t tv d 1 1 (by decide) (by decide) oa1 oc1
  refine aF u3 ?_
  rintro _ _ (⟨fu,rfl,rfl⟩|⟨heq,xb,OS,OQ,rfl,rfl⟩)
  ·have hu:KD=true:=by cases KD with
    | true=>rfl
    | false=>exact absurd (nE.2 rfl) fu
   rw[← Qw]
   refine go ?_
   refine cV rfl (go ?_)
   have hT2:=jI nb 7 (ek aT) st tb bv kb hb ms mg a1 c1 pb 2 3 _ 0 [] _ (mq nb 7 (ek aT) st tb bv kb hb ms mg (.slice a1 1 c1) false pb d (.pointer none) 1 4 (by decide) 2 3 bd jb mb (ek aT).aT t tv) ai rfl (by simp) V1 KP BD r1 ai (show i64 2 from by decide) (show(0:Int)≤5∧(5:Int)≤1048576 from by omega) ai
   refine aF hT2 ?_
   rintro _ _⟨oa2,oc2,a2,c2,V2,r2,z2,rfl,hV2,Y',AU,uQ,rfl⟩
   refine go ?_
   refine aw (jB ob nb oa2 oc2 2) ?_
   refine go ?_
   refine cV rfl (go ?_)
   have hT3:=jI nb 7 (ek aT) st tb bv kb hb ms mg a2 c2 pb 3 3 _ 0 [] _ (mq nb 7 (ek aT) st tb bv kb hb ms mg (.slice a2 1 c2) false pb d (.pointer none) 1 4 (by decide) 3 3 bd jb mb (ek aT).aT t tv) ai rfl (by simp) V2 hV2 AU r2 ai (show i64 2 from by decide) (show(0:Int)≤5∧(5:Int)≤1048576 from by omega) ai
   refine aF hT3 ?_
   rintro _ _⟨oa3,oc3,a3,c3,V3,r3,z3,rfl,hV3,hm3,hk3,hr3,rfl⟩
   refine go ?_
   refine aw (jB ob nb oa3 oc3 3) ?_
   refine go ?_
   refine cV rfl (go ?_)
   have hT4:=jI nb 7 (ek aT) st tb bv kb hb ms mg a3 c3 pb 4 3 _ 0 [] _ (mq nb 7 (ek aT) st tb bv kb hb ms mg (.slice a3 1 c3) false pb d (.pointer none) 1 4 (by decide) 4 3 bd jb mb (ek aT).aT t tv) ai rfl (by simp) V3 hV3 hk3 r3 ai (show i64 2 from by decide) (show(0:Int)≤5∧(5:Int)≤1048576 from by omega) ai
   refine aF hT4 ?_
   rintro _ _⟨oa4,oc4,a4,c4,V4,r4,z4,rfl,hV4,hm4,hk4,hr4,rfl⟩
   refine go ?_
   refine aw (jB ob nb oa4 oc4 4) ?_
   refine go ?_
   refine cV rfl ?_
   (refine aD rfl ?_;refine oe ?_)
   refine kD zr zr ?_
   refine mi tail ⟨a4,c4,.pointer none,4,tv⟩ rfl (by rw[hu];rfl) bS ag
  ·have hu:=nE.1 heq
   refine go ?_
   refine cV rfl (go ?_)
   have hT2:=jI nb 7 (ek aT) st tb bv kb hb ms mg a1 c1 pb 2 3 _ 0 [] _ (Ib nb 7 (ek aT) st tb bv kb hb ms mg (.slice a1 1 c1) false pb d xb OS OQ x 1 2 3 bd jb mb (ek aT).aT ⟨by show 0≤aT;omega,by show aT≤_;omega⟩ tv t hQ hr (by show aT<x.size;omega)) ai rfl (by simp) V1 KP BD r1 ai (show i64 2 from by decide) (show(0:Int)≤5∧(5:Int)≤1048576 from by omega) ai
   refine aF hT2 ?_
   rintro _ _⟨oa2,oc2,a2,c2,V2,r2,z2,rfl,hV2,Y',AU,uQ,rfl⟩
   refine go ?_
   refine aw (jB ob nb oa2 oc2 2) ?_
   refine aN (H':=ae nb (cl (cy 7 (ek aT) st tb bv kb hb (.slice a2 1 c2) ms mg false) 98)::bQ bv V2::fU kb (ek aT).lim (ek aT).fC (ek aT).bR::n5 hb (ek aT).bG r2::aI (Value.int .i64) mg (gE [])::aB 118 1 (.slice a2 1 c2) 1 [ptr pb]::qI pb d (ptr xb) 1 11 st bd jb (ek aT).aT mb t tb z2::ae ob (cl (fG ot (.slice ia 1 ic) ov) 66)::aB 86 33 (.slice ia 1 ic) 1 (p6 (cw [x]) (.slice ra 1 rc))::aB 77 66 (.slice ra 1 rc) 1 (ck x)::ae Dn (cl (dC d) 32)::X::F) (ao.trans (H2:=qK pb d xb OS OQ x 1 11 st bd jb (ek aT).aT mb t tb z2::ae nb (cl (cy 7 (ek aT) st tb bv kb hb (.slice a2 1 c2) ms mg false) 98)::bQ bv V2::fU kb (ek aT).lim (ek aT).fC (ek aT).bR::n5 hb (ek aT).bG r2::aI (Value.int .i64) mg (gE [])::aB 118 1 (.slice a2 1 c2) 1 [ptr pb]::ae ob (cl (fG ot (.slice ia 1 ic) ov) 66)::aB 86 33 (.slice ia 1 ic) 1 (p6 (cw [x]) (.slice ra 1 rc))::aB 77 66 (.slice ra 1 rc) 1 (ck x)::ae Dn (cl (dC d) 32)::X::F) ag ((abA st tb bd jb mb (ek aT).aT t z2 pb d xb OS OQ x 1 11 _).trans ag)) (go ?_)
   refine cV rfl (go ?_)
   have hT3:=jI nb 7 (ek aT) st tb bv kb hb ms mg a2 c2 pb 3 3 _ 0 [] _ (mq nb 7 (ek aT) st tb bv kb hb ms mg (.slice a2 1 c2) false pb d (ptr xb) 1 11 (by decide) 3 3 bd jb mb (ek aT).aT t z2) ai rfl (by simp) V2 hV2 AU r2 ai (show i64 2 from by decide) (show(0:Int)≤5∧(5:Int)≤1048576 from by omega) ai
   refine aF hT3 ?_
   rintro _ _⟨oa3,oc3,a3,c3,V3,r3,z3,rfl,hV3,hm3,hk3,hr3,rfl⟩
   refine go ?_
   refine aw (jB ob nb oa3 oc3 3) ?_
   refine go ?_
   refine cV rfl (go ?_)
   have hT4:=jI nb 7 (ek aT) st tb bv kb hb ms mg a3 c3 pb 4 3 _ 0 [] _ (mq nb 7 (ek aT) st tb bv kb hb ms mg (.slice a3 1 c3) false pb d (ptr xb) 1 11 (by decide) 4 3 bd jb mb (ek aT).aT t z2) ai rfl (by simp) V3 hV3 hk3 r3 ai (show i64 2 from by decide) (show(0:Int)≤5∧(5:Int)≤1048576 from by omega) ai
   refine aF hT4 ?_
   rintro _ _⟨oa4,oc4,a4,c4,V4,r4,z4,rfl,hV4,hm4,hk4,hr4,rfl⟩
   refine go ?_
   refine aw (jB ob nb oa4 oc4 4) ?_
   refine go ?_
   refine cV rfl ?_
   (refine aD rfl ?_;refine oe ?_)
   refine kD zr zr ?_
   refine mi tail ⟨a4,c4,ptr xb,11,z2⟩ rfl (by rw[hu];rfl) bS ag
 rintro⟨a,c,ib,f,K8⟩ hf
 simp only at hf ⊢
 have QZ:f≠0:=by rw[hf];cases KD <;> decide
 have ZB:=o8 nb 7 (ek aT) st tb bv kb hb ms mg bd jb mb (ek aT).aT t K8 hQ a c pb d ib 1 f
 rw[if_neg QZ]at ZB
 have hP1:=yC nb 7 (ek aT) st tb bv kb hb ms mg bd jb mb (ek aT).aT t K8 hQ a c pb d ib 1 f QZ
 unfold dV at ZB hP1
 refine go ?_
 refine aO (U:=aU) (l:=dC d) 0 zr zr zr zr zr zr (go ?_)
 refine aw ZB ?_
 refine aN (H':=ae Dn (cl (dC d) 32)::ae nb (cl (cy 7 (ek aT) st tb bv kb hb (.slice a 1 c) ms mg false) 98)::aB 118 1 (.slice a 1 c) 1 [ptr pb]::qI pb d ib 1 f st bd jb (ek aT).aT mb t tb K8::X::F) ag (go ?_)
 cases KD with
 | true =>
  obtain rfl:f=4:=hf
  refine go ?_
  refine aO (U:=aU) (l:=dC d) 0 zr zr zr zr zr zr (go ?_)
  refine aF hP1 ?_
  rintro _ _⟨a',c',rG,rfl,rfl⟩
  have ZA:=o8 nb 7 (ek aT) st tb bv kb hb ms mg bd jb mb (ek aT).aT t K8 hQ a' c' rG d (.pointer none) (-1) 0
  rw[if_pos rfl]at ZA
  unfold dV at ZA
  refine aN (H':=ae Dn (cl (dC d) 32)::ae nb (cl (cy 7 (ek aT) st tb bv kb hb (.slice a' 1 c') ms mg false) 98)::aB 118 1 (.slice a' 1 c') 1 [ptr rG]::qI rG d (.pointer none) (-1) 0 st bd jb (ek aT).aT mb t tb K8::X::F) ag (go ?_)
  refine aO (U:=aU) (l:=dC d) 0 zr zr zr zr zr zr (go ?_)
  refine aw ZA ?_
  refine go ?_
  ((refine aN (H':=ae nb (cl (cy 7 (ek aT) st tb bv kb hb (.slice a' 1 c') ms mg false) 98)::ae st (cl (dg bd (ek aT).aT mb t.1.brk) 146)::aC bd t.1.A::X::F) (ao.trans (H2:=qI rG d (.pointer none) (-1) 0 st bd jb (ek aT).aT mb t tb K8::ae nb (cl (cy 7 (ek aT) st tb bv kb hb (.slice a' 1 c') ms mg false) 98)::X::F) ag ((show ao (qI rG d (.pointer none) (-1) 0 st bd jb (ek aT).aT mb t tb K8::ae nb (cl (cy 7 (ek aT) st tb bv kb hb (.slice a' 1 c') ms mg false) 98)::X::F) (da st bd jb (ek aT).aT mb [] t::ae nb (cl (cy 7 (ek aT) st tb bv kb hb (.slice a' 1 c') ms mg false) 98)::X::F)from by unfold qI;exact(ao.bY _ _).trans ag).trans ((uI st bd jb (ek aT).aT mb t _).trans ag))) ?_))
  refine aF (sk nb 7 (ek aT) st tb bv kb hb ms mg (.slice a' 1 c') false bd (ek aT).aT mb t.1.brk t.1.A hQ.nil.im) ?_
  rintro _ _⟨ga,gc,rfl,rfl⟩
  refine go ?_
  refine al (H':=X::F) ag ?_
  refine ad hE Tryz.func3 zr zr ⟨rfl,rfl⟩
 | false =>
  obtain rfl:f=11:=hf
  refine go ?_
  refine aO (U:=aU) (l:=dC d) 0 zr zr zr zr zr zr (go ?_)
  refine aF hP1 ?_
  rintro _ _⟨a',c',rG,rfl,rfl⟩
  have ZA:=o8 nb 7 (ek aT) st tb bv kb hb ms mg bd jb mb (ek aT).aT t K8 hQ a' c' rG d (.pointer none) (-1) 0
  rw[if_pos rfl]at ZA
  unfold dV at ZA
  refine aN (H':=ae Dn (cl (dC d) 32)::ae nb (cl (cy 7 (ek aT) st tb bv kb hb (.slice a' 1 c') ms mg false) 98)::aB 118 1 (.slice a' 1 c') 1 [ptr rG]::qI rG d (.pointer none) (-1) 0 st bd jb (ek aT).aT mb t tb K8::X::F) ag (go ?_)
  refine aO (U:=aU) (l:=dC d) 0 zr zr zr zr zr zr (go ?_)
  refine aw ZA ?_
  refine go ?_
  ((refine aN (H':=ae nb (cl (cy 7 (ek aT) st tb bv kb hb (.slice a' 1 c') ms mg false) 98)::ae st (cl (dg bd (ek aT).aT mb t.1.brk) 146)::aC bd t.1.A::X::F) (ao.trans (H2:=qI rG d (.pointer none) (-1) 0 st bd jb (ek aT).aT mb t tb K8::ae nb (cl (cy 7 (ek aT) st tb bv kb hb (.slice a' 1 c') ms mg false) 98)::X::F) ag ((show ao (qI rG d (.pointer none) (-1) 0 st bd jb (ek aT).aT mb t tb K8::ae nb (cl (cy 7 (ek aT) st tb bv kb hb (.slice a' 1 c') ms mg false) 98)::X::F) (da st bd jb (ek aT).aT mb [] t::ae nb (cl (cy 7 (ek aT) st tb bv kb hb (.slice a' 1 c') ms mg false) 98)::X::F)from by unfold qI;exact(ao.bY _ _).trans ag).trans ((uI st bd jb (ek aT).aT mb t _).trans ag))) ?_))
  refine aF (sk nb 7 (ek aT) st tb bv kb hb ms mg (.slice a' 1 c') false bd (ek aT).aT mb t.1.brk t.1.A hQ.nil.im) ?_
  rintro _ _⟨ga,gc,rfl,rfl⟩
  refine go ?_
  refine al (H':=X::F) ag ?_
  refine ad hE Tryz.func3 zr zr ⟨rfl,rfl⟩
end Go.Proofs.YtlcoaflddajjcaaGreatDoor
namespace Go.Proofs.YtlcoaflddajjcaaGreatDoor
open Go Go.SL
def Mr:List (String × DataW Unit):=[("math/bits.deBruijn64tab", Rows.laid_math_bits_deBruijn64tab),("starling/digest.constants", Rows.laid_starling_digest_constants)]
theorem JV{P:Program}{H:Type}{enc:TypeId × Value→H}{W:World}{base:Nat}{spare:Nat→Bool}{held:Bool}{fuel n:Nat}{t e:TypeId}{k:IntKind}{l:List Value}{x:DataW H × List MemPlace}(ht:P.underlying t=some (.array n e))(he:P.underlying e=some (.int k))(hc:P.cellsOf e=1)(CW:P.cellsOf t=n)(h:DataW.trod enc P W base spare held fuel t l=some x)(ns:List Int)(hx:x.1 = .agg (ns.map fun z => .lit (.int k z))):l=ns.map (Value.int k):=by
 obtain⟨xs,m,_,Pa,hlen,MB,hf⟩:=DataW.trod_array ht h
 rw[CW]at hlen
 rw[Pa]at hx
 simp only[DataW.agg.injEq]at hx
 apply List.ext_getElem?
 intro i
 rcases Nat.lt_or_ge i n with hi|hi
 ·have h1:=hf i hi
  obtain⟨y,hy⟩:∃y,xs[i]?=some y:=⟨xs[i]' (by rw[MB];exact hi),by simp⟩
  rw[hy,hc,Nat.mul_one]at h1
  obtain⟨z,r,hz,w⟩:=DataW.trod_int he h1
  have h2:=congrArg (fun l:List Value=>l[0]?) r
  have h3:l[i]?=some (.int k z):=by simpa using h2
  have h4:=congrArg (fun l=>l[i]?) hx
  grind
 ·have MQ:ns.length=n:=by have:=congrArg List.length hx;simpa[MB]using this.symm
  grind
def QC:List Int:=Sha.ks.map fun w=>(w.toNat:Int)
def aab:wV Sha.ks=QC.map (Value.int .u32):=by unfold wV QC;rw[List.map_map];rfl
def YH:Rows.laid_starling_digest_constants (H:=Unit) = .agg (QC.map fun z => .lit (.int .u32 z)):=by
 unfold Rows.laid_starling_digest_constants QC Sha.ks
 simp_all
theorem pM:Tryz.prog.globalNamed "starling/digest.constants" = some 0:=by kernel_rfl
def G9:(Tryz.prog.globals[0]?).map (·.type)=some 337:=by kernel_rfl
def Mt:Tryz.prog.cellsOf 337=64:=by kernel_rfl
def Ii:Tryz.prog.cellsOf 221=1:=by kernel_rfl
theorem zI:Tryz.prog.globalNamed "math/bits.deBruijn64tab" = some 2:=by kernel_rfl
def P5:(Tryz.prog.globals[2]?).map (·.type)=some 535:=by kernel_rfl
theorem yy{W:World}(h:laidMet Tryz.prog Mr W):W.var? Tryz.prog "starling/digest.constants" = some (wV Sha.ks).toArray:=by
 obtain⟨ps,⟨g0,t0,cs0,aez,p0,q0,_,_,_,_,⟨g,t,cs,fuel,p,q,hg,ht,adq,hd,_,_⟩,_⟩,_⟩:=h
 obtain rfl:=Option.some.inj (pM.symm.trans hg)
 obtain rfl:=Option.some.inj (G9.symm.trans ht)
 rw[adq,aab]
 congr 1
 have:=JV Tryz.underlying337 Tryz.underlying221 Ii Mt hd QC YH
 grind
theorem DF{W:World}(h:laidMet Tryz.prog Mr W):pY (old W):=by
 have hv:=yy h
 refine⟨some ⟨0,0,none⟩,64,rfl,.inr ⟨_,0,rfl,fun hp ho j c hj=>?_⟩⟩
 rw[Nat.zero_add]
 refine qi ho ?_
 rw[World.var?_cell pM hv j]
 grind
def dbI:List Int:=match Rows.laid_math_bits_deBruijn64tab (H:=Unit)with
 | .agg l=>l.map fun d=>match d with
  | .lit (.int _ z)=>z
  | _=>0
 | _=>[]
def setRow(cs:List Value):Obj→Obj
 | .cells _ t frozen => .cells cs.toArray t frozen
 | o=>o
noncomputable def pL(os:Os):World :=
 { World.holding Tryz.prog os ⟨#[],#[],[]⟩with heap:=((World.holding Tryz.prog os ⟨#[],#[],[]⟩).heap.modify 0 (setRow (QC.map (Value.int .u32)))).modify 2 (setRow (dbI.map (Value.int .u8))) }
def yj(os:Os)(args:Array Value):((pL os).forCall (fun _ _=>0) ⟨#[],args,[]⟩).memory.heap[0]?=some (.cells (QC.map (Value.int .u32)).toArray 337 (0,0)):=by kernel_rfl
def wy(os:Os)(args:Array Value):((pL os).forCall (fun _ _=>0) ⟨#[],args,[]⟩).memory.heap[2]?=some (.cells (dbI.map (Value.int .u8)).toArray 535 (0,0)):=by kernel_rfl
theorem y8(g n:Nat):(MemPlace.row ⟨g,0,none⟩ n).Nodup:=by
 unfold MemPlace.row
 refine List.Pairwise.map (R:=fun a b=>a≠b) _ (fun i j Jn e=>Jn ?_) List.nodup_range
 grind
theorem y9{g n b off:Nat}(h:MemPlace.cell b off∈MemPlace.row ⟨g,0,none⟩ n):b=g:=by
 simp only[MemPlace.row,List.mem_map]at h
 grind
theorem B7{g n:Nat}{x:MemPlace}(h:x∈MemPlace.row ⟨g,0,none⟩ n):∃off,x = .cell g off:=by
 simp only[MemPlace.row,List.mem_map]at h
 grind
theorem yk(os:Os)(args:Array Value):laidMet Tryz.prog Mr ((pL os).forCall (fun _ _=>0) ⟨#[],args,[]⟩).memory:=by
 have abS:=yj os args
 have QO:=wy os args
 refine⟨_,⟨2,535,(dbI.map (Value.int .u8)).toArray,8,[],_,zI,P5,?_,?_,⟨0,337,(QC.map (Value.int .u32)).toArray,8,[],[],pM,G9,?_,?_,rfl,rfl⟩,rfl⟩,?_,?_⟩
 ·unfold World.var?
  grind [zI]
 ·kernel_rfl
 ·unfold World.var?
  grind [pM]
 ·kernel_rfl
 ·rw[List.append_nil,List.append_nil,List.append_nil]
  refine List.nodup_append.2 ⟨y8 _ _,y8 _ _,fun a ha b hb e=>?_⟩
  obtain⟨o1,rfl⟩:=B7 ha
  obtain⟨o2,rfl⟩:=B7 hb
  simp at e
 ·intro b off h
  simp only[List.append_nil,List.mem_append]at h
  rcases h with h|h
  ·have hb:=y9 h
   subst hb
   refine⟨⟨_,_,QO⟩,fun u v hc=>?_⟩
   simp only[World.cell?,QO]at hc
   grind
  ·have hb:=y9 h
   subst hb
   refine⟨⟨_,_,abS⟩,fun u v hc=>?_⟩
   simp only[World.cell?,abS]at hc
   grind
end Go.Proofs.YtlcoaflddajjcaaGreatDoor
namespace Go.Proofs.YtlcoaflddajjcaaGreatDoor.nodeFails
open Go Go.SL
open Go.ChangeShapes Go.WideShapes Go.ChangeAt Go.RowKit
open Go.ChangeMaps (open_string shut_string)
def own:ownKnob Tryz.prog.godebug=none:=by kernel_rfl
def laidOut:laidOutB Tryz.prog=true:=by kernel_rfl
def lifted(os:Os)(started:os.Started)(H:Type)(enc:TypeId × Value→H) :
    ReturnsInHanded {} Tryz.checked os 3 .any (fun w args=>(Rows.nodeFailsSpec.pre enc Tryz.prog Tryz.f3 Rows.nodeFailsRow.domain false w args∧laidMet Tryz.prog [("math/bits.deBruijn64tab", Rows.laid_math_bits_deBruijn64tab),("starling/digest.constants", Rows.laid_starling_digest_constants)] w)∧sizedMet enc Tryz.prog Tryz.f3 (OpenSpec.ofChange Rows.nodeFailsSpec) false w args) (Rows.nodeFailsSpec.post enc Tryz.prog Tryz.f3 false true false false):=by
  refine returnsInHanded_of_change_and (C:=Tryz.checked) (X:=fun w _=>laidMet Tryz.prog [("math/bits.deBruijn64tab", Rows.laid_math_bits_deBruijn64tab),("starling/digest.constants", Rows.laid_starling_digest_constants)] w) (fun _ _ _ hh h=>h.of_heap hh) own started ah Tryz.func3
    (ChangeSpec.witness_at (enc:=enc) (C:=Tryz.checked) (os:=os) (X:=fun w _=>laidMet Tryz.prog [("math/bits.deBruijn64tab", Rows.laid_math_bits_deBruijn64tab),("starling/digest.constants", Rows.laid_starling_digest_constants)] w) false (pL os) #[.slice none 0 0,.int .i64 0,.bool false] 8 rfl ah ah ah ah ah (yk os #[.slice none 0 0,.int .i64 0,.bool false])) ?_
  intro W base args ds gs before QJ hW ae0 _ hL _
  have Pd:∀(j:Nat) t v,Tryz.f3.params[j]?=some t→args[j]?=some v→Value.okWide Tryz.prog W .any base t v:=QJ
  have hW':=hW
  obtain⟨p,q,hA0,hV,rfl,hfz,iK⟩:=hW
  have hA:DataW.TrodAll enc Tryz.prog W 0 (fun _=>true) true Tryz.f3.params.toList args.toList ds p:=hA0
  rw[Tryz.params3]at hA Pd
  obtain⟨v0,vs0,d0,ds0,p0,q0,fN,rfl,rfl,h0,r0⟩:=trodAll_cons hA
  obtain⟨v1,vs1,d1,ds1,p1,q1,rfl,rfl,rfl,h1,r1⟩:=trodAll_cons r0
  obtain⟨v2,vs2,d2,ds2,p2,q2,rfl,rfl,rfl,h2,r2⟩:=trodAll_cons r1
  obtain⟨rfl,rfl,rfl⟩:=trodAll_nil r2
  obtain rfl:args = #[v0,v1,v2]:=by cases args;simp_all
  obtain⟨rfl,rfl⟩:=trodVars_none hV
  obtain⟨a0,I1,ZO,rfl⟩:=okWide_slice Tryz.underlying22 (Pd 0 22 v0 rfl rfl)
  have k0:=h0
  have lt0:∀x∈p0,x.block<W.heap.size:=by obtain⟨m,hm⟩:=k0;exact DataW.trod_lt m _ _ _ hm
  obtain⟨bs0,aef,ae1,mU⟩:∃bs:List UInt8,bs.length=I1∧I1≤9223372036854775807∧Vw (old W) (.slice a0 I1 ZO) I1 (bV bs)∧I1≤ZO:=by
    obtain⟨fuel,hf⟩:=h0
    rcases open_ints Tryz.underlying22 Tryz.underlying5 ah hf with⟨qh,_⟩|⟨x,l,c,zs,qh,_,hl,hm,hz,_,dt,hwz⟩
    · simp[Value.cells]at qh
      obtain⟨rfl,rfl,rfl⟩:=qh
      exact⟨[],rfl,ai,Mc W,Nat.le_refl _⟩
    · simp[Value.cells]at qh
      obtain⟨rfl,rfl,rfl⟩:=qh
      obtain⟨bs,h1,h2⟩:=FZ (len:=I1) (cap:=ZO) (by simp at hz;omega) dt hwz
      exact ⟨bs, h1, by have : maxLen = 9223372036854775807 := by decide
                        omega,h2,hl⟩
  subst aef
  obtain⟨a1,rfl,rfl,rfl,w1⟩:=open_int Tryz.underlying3 (Pd 1 3 v1 rfl rfl) h1
  obtain⟨a2,rfl,rfl,rfl⟩:=open_bool Tryz.underlying4 (Pd 2 4 v2 rfl rfl) h2
  clear hA0 QJ
  refine(Lw (yD (old W) (DF hL) _ bs0 ⟨mU.1,_,_,rfl,mU.2⟩ a1 a2)).mono fun e W' ⟨he,bel⟩=>?_
  subst he
  exact⟨_,rfl,_,_,_,[],_,[],hW',trodAll_mk1 (shut_bool Tryz.underlying4 _),(trodAll_cons_mk (Below.trod laidOut ah (of_decide_eq_true ah) k0 bel lt0) (trodAll_cons_mk (shut_int Tryz.underlying3 w1) (trodAll_cons_mk (shut_bool Tryz.underlying4 _) trodAll_mk0))),rfl,bel.frame _,fun h=>by cases h⟩
def k10:(Rows.nodeFailsRow.inPlace == (Tryz.pinned.checked.prog).inPlace 3)=true:=by kernel_rfl
def k11:(Rows.nodeFailsRow.unfollowed == (Tryz.pinned.checked.prog).unfollowed 3)=true:=by kernel_rfl
def k12:(Rows.nodeFailsRow.recurses == (Tryz.pinned.checked.prog).recurses 3)=true:=by kernel_rfl
def k13:(Rows.nodeFailsRow.named == (Tryz.pinned.checked.prog).varsNamed 3)=true:=by kernel_rfl
def closed:joinedFacts Tryz.pinned.checked.prog 3 Tryz.f3 Rows.nodeFailsSpec Rows.nodeFailsRow=true:=by
 unfold joinedFacts
 rw[k10,k11,k12,k13]
 kernel_rfl
def proved:Rows.NodeFailsSaid :=
 OpenClaim.holds_of_wide 3 Tryz.f3 zr zr zr zr zr zr zr ⟨rfl,rfl,rfl,rfl,rfl⟩ zr zr zr zr zr ah Tryz.func3 closed
  (of_decide_eq_true ah) (by unfold Func.isWrapper;first|(rw[if_pos (by decide +kernel)];kernel_rfl)|(rw[if_neg (by decide +kernel)];exact⟨rfl,rfl⟩))
  (fun os started H enc _=>lifted os started H enc)
#print axioms proved
end Go.Proofs.YtlcoaflddajjcaaGreatDoor.nodeFails
namespace Go.Proofs.YtlcoaflddajjcaaGreatDoor
open Go
def JC{P:Program}{c:OpenClaim}(hs:c.start = .entering)(h:P.funcs.any Func.goes=false):false=c.goesBy P:=by
 have fI:∀g:FuncId,((P.funcs[g]?).any Func.goes)=false:=fun g=>by
  cases hg:P.funcs[g]? with
  | none=>rfl
  | some fn =>
   show Func.goes fn=false
   cases hx:Func.goes fn with
   | false=>rfl
   | true =>
    have:P.funcs.any Func.goes=true:=Array.any_eq_true.2 (by
     obtain⟨cL,he⟩:=Array.getElem?_eq_some_iff.1 hg
     exact⟨g,cL,by rw[he];exact hx⟩)
    rw[h]at this;cases this
 unfold OpenClaim.goesBy Program.goesAt Program.goesFrom
 rw[hs]
 cases hf:P.funcNamed c.func with
 | none=>rfl
 | some f =>
  show false=(P.goes f || false)
  unfold Program.goes
  rw[h,Bool.and_false,Bool.or_false,Bool.or_false]
  symm
  rw[List.any_eq_false]
  intro g _
  rw[fI g]
  simp
end Go.Proofs.YtlcoaflddajjcaaGreatDoor
namespace Go.Proofs.YtlcoaflddajjcaaGreatDoor.nodeFails
open Go
def kh:(Tryz.pinned.checked.prog).funcs.any Func.goes=false:=by kernel_rfl
def kg:false=Rows.nodeFailsRow.goesBy Tryz.pinned.checked.prog:=JC rfl kh
end Go.Proofs.YtlcoaflddajjcaaGreatDoor.nodeFails
