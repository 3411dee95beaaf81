import Derived.Test.YtlcoaflddajjcaaGreatDoorQNF3
import Derived.Test.YtlcoaflddajjcaaGreatDoorQNF5
import Derived.Test.YtlcoaflddajjcaaGreatDoorQNF6
import Derived.Test.YtlcoaflddajjcaaGreatDoorQNF9
import Derived.Test.YtlcoaflddajjcaaGreatDoorQNF10
import Derived.Test.YtlcoaflddajjcaaGreatDoorQNF11
import Derived.Test.YtlcoaflddajjcaaGreatDoorQNF12
import Derived.Shelf.SlSortCmp.NoneTotal
import Derived.Shelf.SortG.Plain
import Derived.Shelf.SortG.SortNone
import Derived.Test.YtlcoaflddajjcaaGreatDoorChecked
set_option linter.unusedSectionVars false
set_option linter.unusedSimpArgs false
set_option linter.unusedVariables false
set_option maxHeartbeats 1000000
set_option maxRecDepth 20000
set_option linter.defProp false
namespace Go.Proofs.YtlcoaflddajjcaaGreatDoor
open Go Go.SL
def fG(ot:Nat)(iv bv:Value):List Value:=[ptr ot,.int .i64 10,iv,bv]
def p6(d:Dg)(lv:Value):List Value:=dC d++[lv]
def abD{d:Dg}{lv:Value}(j:Nat)(v:Value)(h:(dC d)[j]?=some v):(p6 d lv)[j]?=some v:=by
 unfold p6
 rw[List.getElem?_append_left (List.getElem?_eq_some_iff.1 h).1]
 exact h
def JU(d:Dg):mY:={ mY.zero with kind:=9,hash:=d }
attribute [local irreducible] J K au Ends ae aB aI bB aW aS a7 aX bF
def Co:au Tryz.prog 16 [.int .i64 10] [] (fun r H=>r = .bool true∧H=[]):=by
 refine au.ak Tryz.func16 Tryz.ntmps16 fun G F R hE=>?_
 refine go ?_
 refine ad hE Tryz.func16 zr zr ⟨rfl,rfl⟩
def IQ:au Tryz.prog 92 [.int .i64 7] [] (fun r H=>r = .bool true∧H=[]):=by
 refine au.ak Tryz.func92 Tryz.ntmps92 fun G F R hE=>?_
 refine go ?_
 refine ad hE Tryz.func92 zr zr ⟨rfl,rfl⟩
def yh(now:Int)(hn:0≤now∧now≤1099511627776):au Tryz.prog 93 [.int .i64 now] [] (fun r H=>r = .bool true∧H=[]):=by
 refine au.ak Tryz.func93 Tryz.ntmps93 fun G F R hE=>?_
 refine go ?_
 refine aG 5 ((.bool true)) rfl ((congrArg Value.bool (decide_eq_true hn.1))) (go ?_)
 refine bq 2 ((.bool true)) rfl ((congrArg Value.bool (decide_eq_true hn.2))) ?_
 refine ad hE Tryz.func93 zr zr ⟨rfl,rfl⟩
def L6:au Tryz.prog 15 [.int .i64 5,.int .i64 5] [] (fun r H=>∃ot,r = .tuple #[ptr ot,.int .i64 0]∧H=[]):=by
 refine au.ak Tryz.func15 Tryz.ntmps15 fun G F R hE=>?_
 refine go ?_
 refine bu zr zr bh ?_
 intro ot
 refine go ?_
 refine al (H':=F) ag ?_
 refine ad hE Tryz.func15 zr zr ⟨ot,rfl,rfl⟩
def L7:au Tryz.prog 5 [.int .i64 5,.int .i64 5,.int .i64 10] [] (fun r H=>∃ob ot,r = .tuple #[ptr ob,.int .i64 0]∧H=[ae ob (cl (fG ot (.slice none 0 0) (.slice none 0 0)) 66)]):=by
 refine au.ak Tryz.func5 Tryz.ntmps5 fun G F R hE=>?_
 refine go ?_
 refine aF L6 ?_
 rintro _ _⟨ot,rfl,rfl⟩
 refine go ?_
 refine aw Co ?_
 refine go ?_
 refine bu zr zr bh ?_
 intro ob
 refine go ?_
 refine ad hE Tryz.func5 zr zr ⟨ob,ot,rfl,rfl⟩
def L8:au Tryz.prog 178 [.int .i64 9] [] (fun r H=>r = .tuple #[.bool true,.bool false,.bool false,.int .i64 0,.bool false,.bool false,.bool false]∧H=[]):=by
 refine au.ak Tryz.func178 Tryz.ntmps178 fun G F R hE=>?_
 refine go ?_
 refine ad hE Tryz.func178 zr zr ⟨rfl,rfl⟩
def E0(d:Dg):au Tryz.prog 94 [.agg (mC BB (JU d)).toArray] [] (fun r H=>r = .bool true∧H=[]):=by
 refine au.ak Tryz.func94 Tryz.ntmps94 fun G F R hE=>?_
 refine aD rfl ?_
 refine bu zr zr bh ?_
 intro b1
 refine go ?_
 refine aw L8 ?_
 refine go ?_
 refine eQ rfl (go ?_)
 refine eQ rfl (go ?_)
 refine ad hE Tryz.func94 zr zr ⟨rfl,rfl⟩
def Cq(ob ot:Nat)(bv:Value)(d:Dg):au Tryz.prog 19 [ptr ob,dV d] [ae ob (cl (fG ot (.slice none 0 0) bv) 66)]
  (fun r H=>r = .tuple #[tt (.slice none 0 0),.bool false]∧H=[ae ob (cl (fG ot (.slice none 0 0) bv) 66)]):=by
 unfold dV tt
 refine au.ak Tryz.func19 Tryz.ntmps19 fun G F R hE=>?_
 refine aD rfl ?_
 refine bu zr zr bh ?_
 intro b3
 refine az zr zr zr bh ?_
 intro b4
 refine go ?_
 refine eQ rfl (go ?_)
 (refine a6 hE ?_;apply aZ (U:=aU) hE Tryz.func19 rfl (ao.refl _);(repeat(first|exact aR.nil|apply aR.tmp rfl|apply aR.agg 0 zr zr zr zr zr));exact⟨rfl,rfl⟩;exact ag)
def Cp(ob ot:Nat)(bv:Value)(ia:Option Addr)(ic:Nat)(d0 d:Dg)(ra:Option Addr)(rn rc:Nat):au Tryz.prog 19 [ptr ob,dV d] [ae ob (cl (fG ot (.slice ia 1 ic) bv) 66),aB 86 33 (.slice ia 1 ic) 1 (p6 d0 (.slice ra rn rc))]
  (fun r H=>r=(if d0=d then .tuple #[tt (.slice ra rn rc),.bool true]else .tuple #[tt (.slice none 0 0),.bool false])∧H=[ae ob (cl (fG ot (.slice ia 1 ic) bv) 66),aB 86 33 (.slice ia 1 ic) 1 (p6 d0 (.slice ra rn rc))]):=by
 unfold dV tt
 refine au.ak Tryz.func19 Tryz.ntmps19 fun G F R hE=>?_
 refine aD rfl ?_
 refine bu zr zr bh ?_
 intro b3
 refine az zr zr zr bh ?_
 intro b4
 refine aN (H':=ae b4 (cl [.slice none 0 0] 75)::ae b3 (cl (dC d) 32)::ae ob (cl (fG ot (.slice ia 1 ic) bv) 66)::aB 86 33 (.slice ia 1 ic) 1 (p6 d0 (.slice ra rn rc))::F) ag (go ?_)
 refine jJ 3 rfl ai ?_
 intro xb oo EW he yn rQ mG
 simp only[Value.slice.injEq,true_and]at he
 obtain⟨rfl,rfl⟩:=he
 refine eQ rfl (go ?_)
 refine aL (fun w=>Sat G w ([ae b3 (cl (dC d) 32),ae ob (cl (fG ot (.slice (some ⟨xb,oo,none⟩) 1 ic) bv) 66),aB 86 33 (.slice (some ⟨xb,oo,none⟩) 1 ic) 1 (p6 d0 (.slice ra rn rc))])) (cJ 0 10 .nil) rfl ah ah ah dv ?_
 refine go ?_
 refine bW 0 33 zr zr zr zr zr zr zr zr ai (go ?_)
 refine eC (U:=aU) (es:=dC d0) 2 (0*33+0) zr zr zr mG (Nat.add_assoc _ _ _) (fun j v hj=>by rw[show 0*33+0+j=j by omega];exact abD j v hj) zr zr zr ?_
 refine go ?_
 refine bX (U:=aU) (l:=dC d) 0 zr zr zr zr zr zr (go ?_)
 refine gQ (b:=decide (d0=d)) zr zr zr yq (fun w=>yu d0 d w) ?_
 by_cases hd:d0=d
 ·rw[decide_eq_true hd]
  rw[if_pos hd]at hE
  refine go ?_
  refine bW 0 33 zr zr zr zr zr zr zr zr ai (go ?_)
  refine cd (U:=aU) (es:=[.slice ra rn rc]) 3 (0*33+32) zr zr zr mG (Nat.add_assoc _ _ _) (fun j v hj=>by
   cases j with
   | zero=>exact hj
   | succ j=>cases hj) rfl rfl rfl ?_
  refine go ?_
  (refine a6 hE ?_;apply aZ (U:=aU) hE Tryz.func19 rfl (ao.refl _);(repeat(first|exact aR.nil|apply aR.tmp rfl|apply aR.agg 0 zr zr zr zr zr));exact⟨rfl,rfl⟩;exact ag)
 ·rw[decide_eq_false hd]
  rw[if_neg hd]at hE
  refine go ?_
  refine cV rfl (go ?_)
  (refine a6 hE ?_;apply aZ (U:=aU) hE Tryz.func19 rfl (ao.refl _);(repeat(first|exact aR.nil|apply aR.tmp rfl|apply aR.agg 0 zr zr zr zr zr));exact⟨rfl,rfl⟩;exact ag)
def EZ(ob ot:Nat)(iv:Value)(d:Dg):au Tryz.prog 20 [ptr ob,dV d] [ae ob (cl (fG ot iv (.slice none 0 0)) 66)]
  (fun r H=>r = .int .i64 (-1)∧H=[ae ob (cl (fG ot iv (.slice none 0 0)) 66)]):=by
 unfold dV
 refine au.ak Tryz.func20 Tryz.ntmps20 fun G F R hE=>?_
 refine aD rfl ?_
 refine bu zr zr bh ?_
 intro b3
 refine go ?_
 refine eQ rfl (go ?_)
 refine ad hE Tryz.func20 zr zr ⟨rfl,rfl⟩
end Go.Proofs.YtlcoaflddajjcaaGreatDoor
namespace Go.Proofs.YtlcoaflddajjcaaGreatDoor
open Go Go.SL
def gy(d:Dg)(ib:Value)(at_ f:Int):List Value:=dC d++[ib,.int .i64 at_,.int .i64 f]
attribute [local irreducible] J K au Ends ae aB aI bB aW aS a7 aX bF aC da bQ fU bC
def JG(pb b3:Nat)(d0 d:Dg)(ib:Value)(at_ f:Int):au Tryz.prog 71 [ptr pb,ptr b3] [ae pb (cl (gy d0 ib at_ f) 117),ae b3 (cl (dC d) 32)]
  (fun r H=>r = .bool (decide (d0=d))∧H=[ae pb (cl (gy d0 ib at_ f) 117),ae b3 (cl (dC d) 32)]):=by
 refine au.ak Tryz.func71 Tryz.ntmps71 fun G F R hE=>?_
 refine go ?_
 refine aL (fun w=>Sat G w ([ae pb (cl (gy d0 ib at_ f) 117),ae b3 (cl (dC d) 32)])) (cJ 0 7 .nil) rfl ah ah ah dv ?_
 refine go ?_
 refine cC (U:=aU) (cs:=dC d0) 0 zr zr zr zr zr zr (go ?_)
 refine bX (U:=aU) (l:=dC d) 1 zr zr zr zr zr zr (go ?_)
 refine gQ (b:=decide (d0=d)) zr zr zr yq (fun w=>yu d0 d w) ?_
 refine go ?_
 refine ad hE Tryz.func71 zr zr ⟨rfl,rfl⟩
def xQ(a:Option Addr)(c pb b3:Nat)(d0 d:Dg)(ib:Value)(at_ f:Int):au Tryz.prog 70 [.slice a 1 c,.func (.func 71) #[] #[ptr b3] ]
  [aB 118 1 (.slice a 1 c) 1 [ptr pb],ae pb (cl (gy d0 ib at_ f) 117),ae b3 (cl (dC d) 32)]
  (fun r H=>r = .int .i64 (if d0=d then 0 else -1)∧H=[aB 118 1 (.slice a 1 c) 1 [ptr pb],ae pb (cl (gy d0 ib at_ f) 117),ae b3 (cl (dC d) 32)]):=by
 refine au.ak Tryz.func70 Tryz.ntmps70 fun G F R hE=>?_
 refine jJ 0 rfl ai ?_
 intro ob oo EW he yn rQ mG
 simp only[Value.slice.injEq,true_and]at he
 obtain⟨rfl,rfl⟩:=he
 refine go ?_
 refine eQ rfl (go ?_)
 refine bp 0 zr zr zr zr zr zr zr zr ai ?_
 refine aQ 0 0 zr zr zr mG zr zr zr zr (go ?_)
 refine ji zr zr zr zr (JG pb b3 d0 d ib at_ f) ag ?_ jk
 rintro _ _⟨rfl,rfl⟩
 by_cases hd:d0=d
 ·rw[decide_eq_true hd]
  rw[if_pos hd]at hE
  refine go ?_
  refine ad hE Tryz.func70 zr zr ⟨rfl,rfl⟩
 ·rw[decide_eq_false hd]
  rw[if_neg hd]at hE
  refine go ?_
  refine cV rfl (go ?_)
  refine ad hE Tryz.func70 zr zr ⟨rfl,rfl⟩
section
variable(nb:Nat)(id:Int)(S:sP)(st tb bv kb hb ms mg:Nat)(br:Bool)(a:Option Addr)(c pb:Nat)
def pT(d0 d:Dg)(ib:Value)(at_ f:Int):au Tryz.prog 34 [ptr nb,dV d] [ae nb (cl (cy id S st tb bv kb hb (.slice a 1 c) ms mg br) 98),aB 118 1 (.slice a 1 c) 1 [ptr pb],ae pb (cl (gy d0 ib at_ f) 117)]
  (fun r H=>r = .int .i64 (if d0=d then 0 else -1)∧H=[ae nb (cl (cy id S st tb bv kb hb (.slice a 1 c) ms mg br) 98),aB 118 1 (.slice a 1 c) 1 [ptr pb],ae pb (cl (gy d0 ib at_ f) 117)]):=by
 unfold dV
 refine au.ak Tryz.func34 Tryz.ntmps34 fun G F R hE=>?_
 refine aD rfl ?_
 refine bu zr zr bh ?_
 intro b3
 refine go ?_
 refine aw (xQ a c pb b3 d0 d ib at_ f) ?_
 refine go ?_
 refine ad hE Tryz.func34 zr zr ⟨rfl,rfl⟩
def tq(now:Int)(v:MV)(m:mY)(hk:m.kind=11)(at_:Int):au Tryz.prog 102 [ptr nb,.int .i64 now,.agg (mC v m).toArray] [ae nb (cl (cy id S st tb bv kb hb (.slice a 1 c) ms mg br) 98),aB 118 1 (.slice a 1 c) 1 [ptr pb],ae pb (cl (gy m.hash (.pointer none) at_ 0) 117)]
  (fun r H=>r = .slice none 0 0∧H=[ae nb (cl (cy id S st tb bv kb hb (.slice a 1 c) ms mg br) 98),aB 118 1 (.slice a 1 c) 1 [ptr pb],ae pb (cl (gy m.hash (.pointer none) at_ 4) 117)]):=by
 have xY:=pT nb id S st tb bv kb hb ms mg br a c pb m.hash m.hash (.pointer none) at_ 0
 rw[if_pos rfl]at xY
 unfold dV at xY
 refine au.ak Tryz.func102 Tryz.ntmps102 fun G F R hE=>?_
 refine aD rfl ?_
 refine bu zr zr bh ?_
 intro b5
 refine go ?_
 refine bq 14 ((.bool false)) rfl ((congrArg Value.bool (decide_eq_false ai))) (go ?_)
 refine bP (cs:=dC m.hash) 0 zr zr zr zr zr zr (go ?_)
 refine aw xY ?_
 refine aN (H':=ae b5 (cl (mC v m) 56)::ae pb (cl (gy m.hash (.pointer none) at_ 0) 117)::aB 118 1 (.slice a 1 c) 1 [ptr pb]::ae nb (cl (cy id S st tb bv kb hb (.slice a 1 c) ms mg br) 98)::F) ag ?_
 refine sq 2 rfl ai ?_
 intro ob oo EW dL mG
 simp only[Value.slice.injEq,true_and]at dL
 obtain⟨rfl,rfl⟩:=dL
 (repeat(first|refine er ?_|refine bp 0 zr zr zr zr zr zr zr zr ai ?_|(refine aP ?_;refine aQ 2 0 zr zr zr mG zr zr zr zr ?_)))
 refine bq 53 ((.bool true)) rfl ((congrArg Value.bool (decide_eq_true hk))) ?_
 (repeat(first|refine er ?_|refine bp 0 zr zr zr zr zr zr zr zr ai ?_|(refine aP ?_;refine aQ 2 0 zr zr zr mG zr zr zr zr ?_)))
 refine ad hE Tryz.func102 zr zr ⟨rfl,rfl⟩
end
end Go.Proofs.YtlcoaflddajjcaaGreatDoor
namespace Go.Proofs.YtlcoaflddajjcaaGreatDoor
open Go Go.SL
attribute [local irreducible] J K au Ends ae aB aI bB aW aS a7 aX bF aC da bQ fU bC
section
variable(nb:Nat)(id:Int)(S:sP)(st tb bv kb hb ms mg:Nat)(br:Bool)(a:Option Addr)(c pb:Nat)
def uO(X:HP)(hK:pY X)(now:Int)(v:MV)(m:mY)(hk:m.kind=10)(hby:ew X v.b m.bytes)(uC:m.bytes.length≤1000000000)(l:List Bl)(hd:qG m.bytes=some l)(sK:cG l=0)(hll:l.length≤1000000)(hn:cw l=m.hash)(at_:Int) :
  au Tryz.prog 102 [ptr nb,.int .i64 now,.agg (mC v m).toArray] [ae nb (cl (cy id S st tb bv kb hb (.slice a 1 c) ms mg br) 98),aB 118 1 (.slice a 1 c) 1 [ptr pb],ae pb (cl (gy m.hash (.pointer none) at_ 0) 117),X]
  (fun r H=>∃(xb:Nat) (ra:Option Addr) (rc:Nat),r = .slice none 0 0∧H=[ae nb (cl (cy id S st tb bv kb hb (.slice a 1 c) ms mg br) 98),aB 118 1 (.slice a 1 c) 1 [ptr pb],ae pb (cl (gy m.hash (ptr xb) at_ 0) 117),ae xb (cl [.slice ra l.length rc] 75),aB 77 66 (.slice ra l.length rc) l.length (l.flatMap ck),X]):=by
 have xY:=pT nb id S st tb bv kb hb ms mg br a c pb m.hash m.hash (.pointer none) at_ 0
 rw[if_pos rfl]at xY
 unfold dV at xY
 refine au.ak Tryz.func102 Tryz.ntmps102 fun G F R hE=>?_
 refine aD rfl ?_
 refine bu zr zr bh ?_
 intro b5
 refine go ?_
 refine bq 14 ((.bool false)) rfl ((congrArg Value.bool (decide_eq_false ai))) (go ?_)
 refine bP (cs:=dC m.hash) 0 zr zr zr zr zr zr (go ?_)
 refine aw xY ?_
 refine aN (H':=ae b5 (cl (mC v m) 56)::ae pb (cl (gy m.hash (.pointer none) at_ 0) 117)::aB 118 1 (.slice a 1 c) 1 [ptr pb]::ae nb (cl (cy id S st tb bv kb hb (.slice a 1 c) ms mg br) 98)::X::F) ag ?_
 refine sq 2 rfl ai ?_
 intro ob oo EW dL mG
 simp only[Value.slice.injEq,true_and]at dL
 obtain⟨rfl,rfl⟩:=dL
 (repeat(first|refine er ?_|refine bp 0 zr zr zr zr zr zr zr zr ai ?_|(refine aP ?_;refine aQ 2 0 zr zr zr mG zr zr zr zr ?_)))
 refine bq 53 ((.bool false)) rfl ((congrArg Value.bool (decide_eq_false ai))) (go ?_)
 refine bq 64 ((.bool true)) rfl ((congrArg Value.bool (decide_eq_true hk))) (go ?_)
 refine aF (uo X v.b m.bytes hby uC) ?_
 rintro _ _ (⟨tz,_⟩|⟨l',rv,hd',rfl,rfl⟩)
 ·rw[hd]at tz;cases tz
 obtain rfl:l'=l:=by rw[hd]at hd';injection hd' with e;exact e.symm
 unfold tt
 refine aH 0 rfl ?_
 rintro ra rc rfl
 refine go ?_
 refine az zr zr zr bh ?_
 intro xb
 refine go ?_
 refine aO (U:=aU) (l:=[.slice ra l'.length rc]) 0 zr zr zr zr zr zr ?_
 refine dH 1 rfl ?_
 intro cW
 have tA:=xG _ (hK.mono (bn (H:=[aB 77 66 (.slice ra l'.length rc) l'.length (l'.flatMap ck),X]) (i:=1) rfl)) _ l' (cW.mono (bn (i:=0) rfl)) hll
 rw[if_pos sK]at tA
 unfold tt dV at tA
 refine aN (H':=Sep [aB 77 66 (.slice ra l'.length rc) l'.length (l'.flatMap ck),X]::ae xb (cl [.slice ra l'.length rc] 75)::ae b5 (cl (mC v m) 56)::ae pb (cl (gy m.hash (.pointer none) at_ 0) 117)::aB 118 1 (.slice (some ⟨ob,oo,none⟩) 1 c) 1 [ptr pb]::ae nb (cl (cy id S st tb bv kb hb (.slice (some ⟨ob,oo,none⟩) 1 c) ms mg br) 98)::F) (ao.trans (H2:=aB 77 66 (.slice ra l'.length rc) l'.length (l'.flatMap ck)::X::ae xb (cl [.slice ra l'.length rc] 75)::ae b5 (cl (mC v m) 56)::ae pb (cl (gy m.hash (.pointer none) at_ 0) 117)::aB 118 1 (.slice (some ⟨ob,oo,none⟩) 1 c) 1 [ptr pb]::ae nb (cl (cy id S st tb bv kb hb (.slice (some ⟨ob,oo,none⟩) 1 c) ms mg br) 98)::F) ag (ao.bK [_,_] _)) ?_
 refine aw tA ?_
 refine go ?_
 refine az zr zr zr bh ?_
 intro b10
 refine go ?_
 refine aO (U:=aU) (l:=dC (cw l')) 0 zr zr zr zr zr zr (go ?_)
 refine bP (cs:=dC m.hash) 3 zr zr zr zr zr zr (go ?_)
 refine gQ (b:=decide (cw l'=m.hash)) zr zr zr yq (fun w=>yu (cw l') m.hash w) ?_
 rw[decide_eq_true hn]
 refine aN (H':=ae xb (cl [.slice ra l'.length rc] 75)::ae pb (cl (gy m.hash (.pointer none) at_ 0) 117)::aB 118 1 (.slice (some ⟨ob,oo,none⟩) 1 c) 1 [ptr pb]::ae nb (cl (cy id S st tb bv kb hb (.slice (some ⟨ob,oo,none⟩) 1 c) ms mg br) 98)::aB 77 66 (.slice ra l'.length rc) l'.length (l'.flatMap ck)::X::F) (ao.trans (H2:=Sep [aB 77 66 (.slice ra l'.length rc) l'.length (l'.flatMap ck),X]::ae xb (cl [.slice ra l'.length rc] 75)::ae pb (cl (gy m.hash (.pointer none) at_ 0) 117)::aB 118 1 (.slice (some ⟨ob,oo,none⟩) 1 c) 1 [ptr pb]::ae nb (cl (cy id S st tb bv kb hb (.slice (some ⟨ob,oo,none⟩) 1 c) ms mg br) 98)::F) ag ((ao.bY [_,_] _).trans ag)) ?_
 (repeat(first|refine er ?_|refine bp 0 zr zr zr zr zr zr zr zr ai ?_|(refine aP ?_;refine aQ 2 0 zr zr zr mG zr zr zr zr ?_)))
 refine ad hE Tryz.func102 zr zr ⟨xb,ra,rc,rfl,rfl⟩
end
end Go.Proofs.YtlcoaflddajjcaaGreatDoor
namespace Go.Proofs.YtlcoaflddajjcaaGreatDoor
open Go Go.SL
def uI(bs bd jb:Nat)(q:Int)(mb:Nat)(t:SJ)(F:List HP):ao (da bs bd jb q mb [] t::F) (ae bs (cl (dg bd q mb t.1.brk) 146)::aI dV mb (du t.1.cq)::aC bd t.1.A::kx jb bd gm t.2::F):=by
 unfold da jo
 exact ao.bY _ _
def zV(bs bd jb:Nat)(q:Int)(mb:Nat)(t:SJ)(F:List HP):ao (ae bs (cl (dg bd q mb t.1.brk) 146)::aI dV mb (du t.1.cq)::aC bd t.1.A::kx jb bd gm t.2::F) (da bs bd jb q mb [] t::F):=by
 unfold da jo
 exact ao.bK [_,_,_,_] _
attribute [local irreducible] J K au Ends ae aB aI bB aW aS a7 aX bF aC da bQ fU bC kx
section
variable(nb:Nat)(id:Int)(S:sP)(st tb bv kb hb ms mg:Nat)(pv:Value)(br:Bool)
def CC(pb:Nat)(d:Dg)(ib:Value)(at_:Int)(x:Bl)(now seed:Int)(bd jb mb:Nat)(q:Int)(hq:0≤q∧q≤1073741824)(tv:Value)(t:SJ)(hQ:QD t)(hr:bJ x=true)(hqs:q<x.size) :
  au Tryz.prog 81 [ptr nb,ptr pb,.agg (ck x).toArray,.int .i64 now,.int .u64 seed] (ae nb (cl (cy id S st tb bv kb hb pv ms mg br) 98)::ae pb (cl (gy d ib at_ 0) 117)::da st bd jb q mb [] t::[ae tb (cl [ptr st,ptr jb,tv,.bool false] 156),aB 158 1 tv ([]:List Tk).length (([]:List Tk).map df),bC []])
  (fun r H=>∃qW:Value,r = .tuple #[.slice none 0 0,.int .i64 0]∧H=ae nb (cl (cy id S st tb bv kb hb pv ms mg br) 98)::ae pb (cl (gy d ib at_ 11) 117)::da st bd jb q mb [] t::[ae tb (cl [ptr st,ptr jb,qW,.bool false] 156),aB 158 1 qW ([]:List Tk).length (([]:List Tk).map df),bC []]):=by
 have hrr:(1≤x.size∧x.size≤1048576)∧(16≤x.piece∧x.piece≤16384):=by
  unfold bJ at hr
  simp only[Bool.and_eq_true,decide_eq_true_eq]at hr
  omega
 have QX:=hQ.jn
 have dK:=hQ.st
 have xV:=hQ.wr
 have hmi:=DC tb st jb tv false [] x (by simp) (by simp) (by simp)
 have Jv:=Gy tb st jb bd tv q hq mb [] false t x (by simp) ai ai (by rw[hQ.cq];exact⟨by simp,by simp⟩) ai ai 1000 ai (fun u hS=>by
  have hg:=uM hS.1
  refine⟨?_,?_,?_,?_⟩
  ·rw[hS.2,QX];decide
  ·rw[hS.2,QX];exact⟨by simp,by simp⟩
  ·have:=hg.1;omega
  ·have:=hg.2;omega)
 have hha:=H6 st bd q mb t.1.brk t.1.A x.d
 rw[hQ.nil.noF]at hha
 unfold fq jU at hmi Jv
 unfold dV at hha
 refine au.ak Tryz.func81 Tryz.ntmps81 fun G F R hE=>?_
 refine aD rfl ?_
 refine bu zr zr bh ?_
 intro b7
 refine go ?_
 refine al (H':=ae b7 (cl (ck x) 77)::ae nb (cl (cy id S st tb bv kb hb pv ms mg br) 98)::ae pb (cl (gy d ib at_ 0) 117)::ae st (cl (dg bd q mb t.1.brk) 146)::aI dV mb (du t.1.cq)::aC bd t.1.A::kx jb bd gm t.2::ae tb (cl [ptr st,ptr jb,tv,.bool false] 156)::aB 158 1 tv ([]:List Tk).length (([]:List Tk).map df)::bC []::F) (ao.trans (H2:=da st bd jb q mb [] t::ae b7 (cl (ck x) 77)::ae nb (cl (cy id S st tb bv kb hb pv ms mg br) 98)::ae pb (cl (gy d ib at_ 0) 117)::ae tb (cl [ptr st,ptr jb,tv,.bool false] 156)::aB 158 1 tv ([]:List Tk).length (([]:List Tk).map df)::bC []::F) ag ((uI st bd jb q mb t _).trans ag)) ?_
 refine aL (fun w=>Sat G w ([ae nb (cl (cy id S st tb bv kb hb pv ms mg br) 98),ae b7 (cl (ck x) 77)])) (cJ 0 6 (.act 6 .nil)) rfl ah ah ah dv ?_
 refine go ?_
 refine cC (U:=aU) (cs:=dC x.d) 1 zr zr zr zr zr zr (go ?_)
 refine aw hha ?_
 refine aN (H':=ae b7 (cl (ck x) 77)::ae nb (cl (cy id S st tb bv kb hb pv ms mg br) 98)::ae pb (cl (gy d ib at_ 0) 117)::da st bd jb q mb [] t::ae tb (cl [ptr st,ptr jb,tv,.bool false] 156)::aB 158 1 tv ([]:List Tk).length (([]:List Tk).map df)::bC []::F) (ao.trans (H2:=ae st (cl (dg bd q mb t.1.brk) 146)::aI dV mb (du t.1.cq)::aC bd t.1.A::kx jb bd gm t.2::ae b7 (cl (ck x) 77)::ae nb (cl (cy id S st tb bv kb hb pv ms mg br) 98)::ae pb (cl (gy d ib at_ 0) 117)::ae tb (cl [ptr st,ptr jb,tv,.bool false] 156)::aB 158 1 tv ([]:List Tk).length (([]:List Tk).map df)::bC []::F) ag ((zV st bd jb q mb t _).trans ag)) (go ?_)
 refine aL (fun w=>Sat G w ([ae nb (cl (cy id S st tb bv kb hb pv ms mg br) 98),ae b7 (cl (ck x) 77)])) (cJ 0 5 (.act 5 (cJ 6 5 .nil))) rfl ah ah ah dv ?_
 refine go ?_
 refine bX (U:=aU) (l:=ck x) 1 zr zr zr zr zr zr (go ?_)
 refine bE hmi ?_
 unfold QA qk
 refine go ?_
 refine aL (fun w=>Sat G w ([ae nb (cl (cy id S st tb bv kb hb pv ms mg br) 98),ae b7 (cl (ck x) 77)])) (cJ 0 5 (.act 5 (.st 6 .nil))) rfl ah ah ah dv ?_
 refine go ?_
 refine bX (U:=aU) (l:=ck x) 1 zr zr zr zr zr zr (go ?_)
 refine cT Jv ?_
 rintro _ _⟨e,vB,qW,Oq,u,rfl,rfl,hB⟩
 obtain⟨rfl,rfl,rfl,rfl⟩:=hQ.begin hr hqs (lP kB x.d) hB
 refine aN (H':=ae pb (cl (gy d ib at_ 0) 117)::ae nb (cl (cy id S st tb bv kb hb pv ms mg br) 98)::da st bd jb q mb [] u::ae tb (cl [ptr st,ptr jb,qW,.bool false] 156)::aB 158 1 qW ([]:List Tk).length (([]:List Tk).map df)::bC []::F) ag (go ?_)
 refine ad hE Tryz.func81 zr zr ⟨qW,rfl,rfl⟩
end
end Go.Proofs.YtlcoaflddajjcaaGreatDoor
namespace Go.Proofs.YtlcoaflddajjcaaGreatDoor
open Go Go.SL
def qA(pb:Nat)(d:Dg)(at_ f:Int)(st bd jb:Nat)(q:Int)(mb:Nat)(t:SJ)(tb:Nat)(tv:Value):HP:=Sep (ae pb (cl (gy d (.pointer none) at_ f) 117)::da st bd jb q mb [] t::fq tb st jb tv [] false)
def qK(pb:Nat)(d:Dg)(xb:Nat)(ra:Option Addr)(rc:Nat)(x:Bl)(at_ f:Int)(st bd jb:Nat)(q:Int)(mb:Nat)(t:SJ)(tb:Nat)(tv:Value):HP:=Sep (ae pb (cl (gy d (ptr xb) at_ f) 117)::ae xb (cl [.slice ra 1 rc] 75)::aB 77 66 (.slice ra 1 rc) 1 (ck x)::da st bd jb q mb [] t::fq tb st jb tv [] false)
attribute [local irreducible] J K au Ends ae aB aI bB aW aS a7 aX bF aC da bQ fU bC kx
section
variable(nb:Nat)(id:Int)(S:sP)(st tb bv kb hb ms mg:Nat)(pv:Value)(br:Bool)
def Dt(pb:Nat)(now seed:Int)(Q:HP)(m:Nat)(co:List Value)(Q':Value→HP):Prop :=
 au Tryz.prog 40 [ptr nb,ptr pb,.int .i64 now,.int .u64 seed] [ae nb (cl (cy id S st tb bv kb hb pv ms mg br) 98),Q]
  (fun r H=>∃(oa:Option Addr) (oc:Nat) (z:Value),r = .tuple #[.slice oa m oc,.bool false,.int .i64 0]∧H=[aB 58 40 (.slice oa m oc) m co,ae nb (cl (cy id S st tb bv kb hb pv ms mg br) 98),Q' z])
def Ie(pb:Nat)(d:Dg)(now seed:Int)(bd jb mb:Nat)(q:Int)(tv:Value)(t:SJ)(hQ:QD t) :
  Dt nb id S st tb bv kb hb ms mg pv br pb now seed (qA pb d (-1) 0 st bd jb q mb t tb tv) 1 (uR d) (fun _=>qA pb d now 0 st bd jb q mb t tb tv):=by
 have hw:=yM nb id S st tb bv kb hb ms mg pv br pb d now seed bd q mb t.1.brk t.1.A (hQ.nil.YE d)
 refine(hw.frame (aI dV mb (du t.1.cq)::kx jb bd gm t.2::fq tb st jb tv [] false)).conv ?_ ?_
 ·unfold qA fq
  refine ao.trans (H2:=Sep [ae pb (cl (G0 d (-1)) 117),da st bd jb q mb [] t,ae tb (cl [ptr st,ptr jb,tv,.bool false] 156),aB 158 1 tv ([]:List Tk).length (([]:List Tk).map df),bC [] ]::[ae nb (cl (cy id S st tb bv kb hb pv ms mg br) 98)]) ag ((ao.bY _ _).trans ?_)
  refine ao.trans (H2:=da st bd jb q mb [] t::ae pb (cl (G0 d (-1)) 117)::ae nb (cl (cy id S st tb bv kb hb pv ms mg br) 98)::ae tb (cl [ptr st,ptr jb,tv,.bool false] 156)::aB 158 1 tv ([]:List Tk).length (([]:List Tk).map df)::bC []::[]) ag ((uI st bd jb q mb t _).trans ag)
 ·rintro r H⟨H',⟨rb,rfl,rfl⟩,rfl⟩
  refine⟨_,⟨some ⟨rb,0,none⟩,1,.bool false,rfl,rfl⟩,?_⟩
  unfold qA fq
  refine ao.trans (H2:=ae st (cl (dg bd q mb t.1.brk) 146)::aI dV mb (du t.1.cq)::aC bd t.1.A::kx jb bd gm t.2::ae rb (cl (uR d) 58)::ae pb (cl (G0 d now) 117)::ae nb (cl (cy id S st tb bv kb hb pv ms mg br) 98)::ae tb (cl [ptr st,ptr jb,tv,.bool false] 156)::aB 158 1 tv ([]:List Tk).length (([]:List Tk).map df)::bC []::[]) ag ((zV st bd jb q mb t _).trans ?_)
  refine ao.trans (H2:=ae rb (cl (uR d++[]) 58)::ae pb (cl (G0 d now) 117)::da st bd jb q mb [] t::ae tb (cl [ptr st,ptr jb,tv,.bool false] 156)::aB 158 1 tv ([]:List Tk).length (([]:List Tk).map df)::bC []::[ae nb (cl (cy id S st tb bv kb hb pv ms mg br) 98)]) ag ((ef 58 40 rb 1 1 (uR d) [] _ rfl ai (by simp only[List.length_nil];show 40≤40+0;omega)).trans ?_)
  refine ao.trans (H2:=ae pb (cl (G0 d now) 117)::da st bd jb q mb [] t::ae tb (cl [ptr st,ptr jb,tv,.bool false] 156)::aB 158 1 tv ([]:List Tk).length (([]:List Tk).map df)::bC []::[aB 58 40 (.slice (some ⟨rb,0,none⟩) 1 1) 1 (uR d),ae nb (cl (cy id S st tb bv kb hb pv ms mg br) 98)]) ag ((ao.bK [_,_,_,_,_] _).trans ag)
def Ic(pb:Nat)(d:Dg)(ib:Value)(at_ f:Int)(hf:f≠0)(now seed:Int)(L:List HP) :
  Dt nb id S st tb bv kb hb ms mg pv br pb now seed (Sep (ae pb (cl (gy d ib at_ f) 117)::L)) 0 [] (fun _=>Sep (ae pb (cl (gy d ib at_ f) 117)::L)):=by
 show au _ _ _ _ _
 refine au.ak Tryz.func40 Tryz.ntmps40 fun G F R hE=>?_
 refine aD rfl ?_
 refine bu zr zr bh ?_
 intro b4
 refine aN (H':=ae pb (cl (gy d ib at_ f) 117)::Sep L::ae nb (cl (cy id S st tb bv kb hb pv ms mg br) 98)::F) (ao.trans (H2:=Sep (ae pb (cl (gy d ib at_ f) 117)::L)::ae nb (cl (cy id S st tb bv kb hb pv ms mg br) 98)::F) ag (ao.part _ _ _)) (go ?_)
 refine bq 17 ((.bool true)) rfl ((congrArg Value.bool (decide_eq_true hf))) (go ?_)
 refine al (H':=aB 58 40 (.slice none 0 0) 0 []::ae nb (cl (cy id S st tb bv kb hb pv ms mg br) 98)::Sep (ae pb (cl (gy d ib at_ f) 117)::L)::F) (ao.trans (H2:=ae pb (cl (gy d ib at_ f) 117)::Sep L::ae nb (cl (cy id S st tb bv kb hb pv ms mg br) 98)::F) ag ((ao.join _ _ _).trans ((bg 58 40 none _).trans ag))) ?_
 refine ad hE Tryz.func40 zr zr ⟨none,0,.bool false,rfl,rfl⟩
def Ib(pb:Nat)(d:Dg)(xb:Nat)(ra:Option Addr)(rc:Nat)(x:Bl)(at_ now seed:Int)(bd jb mb:Nat)(q:Int)(hq:0≤q∧q≤1073741824)(tv:Value)(t:SJ)(hQ:QD t)(hr:bJ x=true)(hqs:q<x.size) :
  Dt nb id S st tb bv kb hb ms mg pv br pb now seed (qK pb d xb ra rc x at_ 0 st bd jb q mb t tb tv) 0 [] (fun z=>qK pb d xb ra rc x at_ 11 st bd jb q mb t tb z):=by
 have Hb:=kV nb id S st tb bv kb hb ms mg pv br bd q mb t.1.brk t.1.A d (hQ.nil.YE d)
 have hla:=CC nb id S st tb bv kb hb ms mg pv br pb d (ptr xb) at_ x now seed bd jb mb q hq tv t hQ hr hqs
 unfold dV at Hb
 show au _ _ _ _ _
 unfold qK fq
 refine au.ak Tryz.func40 Tryz.ntmps40 fun G F R hE=>?_
 refine aD rfl ?_
 refine bu zr zr bh ?_
 intro b4
 refine aN (H':=ae b4 (cl [ptr nb] 39)::ae pb (cl (gy d (ptr xb) at_ 0) 117)::ae nb (cl (cy id S st tb bv kb hb pv ms mg br) 98)::ae xb (cl [.slice ra 1 rc] 75)::aB 77 66 (.slice ra 1 rc) 1 (ck x)::ae st (cl (dg bd q mb t.1.brk) 146)::aI dV mb (du t.1.cq)::aC bd t.1.A::kx jb bd gm t.2::ae tb (cl [ptr st,ptr jb,tv,.bool false] 156)::aB 158 1 tv ([]:List Tk).length (([]:List Tk).map df)::bC []::F) (ao.trans (H2:=Sep [ae pb (cl (gy d (ptr xb) at_ 0) 117),ae xb (cl [.slice ra 1 rc] 75),aB 77 66 (.slice ra 1 rc) 1 (ck x),da st bd jb q mb [] t,ae tb (cl [ptr st,ptr jb,tv,.bool false] 156),aB 158 1 tv ([]:List Tk).length (([]:List Tk).map df),bC [] ]::ae b4 (cl [ptr nb] 39)::ae nb (cl (cy id S st tb bv kb hb pv ms mg br) 98)::F) ag ((ao.bY _ _).trans (ao.trans (H2:=da st bd jb q mb [] t::ae pb (cl (gy d (ptr xb) at_ 0) 117)::ae xb (cl [.slice ra 1 rc] 75)::aB 77 66 (.slice ra 1 rc) 1 (ck x)::ae tb (cl [ptr st,ptr jb,tv,.bool false] 156)::aB 158 1 tv ([]:List Tk).length (([]:List Tk).map df)::bC []::ae b4 (cl [ptr nb] 39)::ae nb (cl (cy id S st tb bv kb hb pv ms mg br) 98)::F) ag ((uI st bd jb q mb t _).trans ag)))) (go ?_)
 refine aL (fun w=>Sat G w ([ae b4 (cl [ptr nb] 39),ae pb (cl (gy d (ptr xb) at_ 0) 117)])) (cJ 0 5 (.act 5 (.st 6 .nil))) rfl ah ah ah dv ?_
 refine go ?_
 refine cC (U:=aU) (cs:=dC d) 1 zr zr zr zr zr zr (go ?_)
 refine bE Hb ?_
 refine aN (H':=ae b4 (cl [ptr nb] 39)::ae pb (cl (gy d (ptr xb) at_ 0) 117)::ae xb (cl [.slice ra 1 rc] 75)::aB 77 66 (.slice ra 1 rc) 1 (ck x)::ae nb (cl (cy id S st tb bv kb hb pv ms mg br) 98)::da st bd jb q mb [] t::ae tb (cl [ptr st,ptr jb,tv,.bool false] 156)::aB 158 1 tv ([]:List Tk).length (([]:List Tk).map df)::bC []::F) (ao.trans (H2:=ae st (cl (dg bd q mb t.1.brk) 146)::aI dV mb (du t.1.cq)::aC bd t.1.A::kx jb bd gm t.2::ae b4 (cl [ptr nb] 39)::ae pb (cl (gy d (ptr xb) at_ 0) 117)::ae nb (cl (cy id S st tb bv kb hb pv ms mg br) 98)::ae xb (cl [.slice ra 1 rc] 75)::aB 77 66 (.slice ra 1 rc) 1 (ck x)::ae tb (cl [ptr st,ptr jb,tv,.bool false] 156)::aB 158 1 tv ([]:List Tk).length (([]:List Tk).map df)::bC []::F) ag ((zV st bd jb q mb t _).trans ag)) (go ?_)
 refine aL (fun w=>Sat G w ([ae b4 (cl [ptr nb] 39),ae pb (cl (gy d (ptr xb) at_ 0) 117)])) (cJ 0 12 (.act 12 (.st 13 (.st 14 .nil)))) rfl ah ah ah dv ?_
 refine go ?_
 refine jJ 3 rfl ai ?_
 intro ob oo EW he yn rQ mG
 simp only[Value.slice.injEq,true_and]at he
 obtain⟨rfl,rfl⟩:=he
 refine eQ rfl (go ?_)
 refine bW 0 66 zr zr zr zr zr zr zr zr ai (go ?_)
 refine cd (U:=aU) (es:=ck x) 3 (0*66) zr zr zr mG rfl (fun j v hj=>by simpa using hj) zr zr zr ?_
 refine go ?_
 refine az zr zr zr bh ?_
 intro b13
 refine go ?_
 refine aO (U:=aU) (l:=ck x) 0 zr zr zr zr zr zr (go ?_)
 refine aF hla ?_
 rintro _ _⟨qW,rfl,rfl⟩
 refine aN (H':=ae b4 (cl [ptr nb] 39)::ae pb (cl (gy d (ptr xb) at_ 11) 117)::ae xb (cl [.slice (some ⟨ob,oo,none⟩) 1 rc] 75)::aB 77 66 (.slice (some ⟨ob,oo,none⟩) 1 rc) 1 (ck x)::ae nb (cl (cy id S st tb bv kb hb pv ms mg br) 98)::da st bd jb q mb [] t::ae tb (cl [ptr st,ptr jb,qW,.bool false] 156)::aB 158 1 qW ([]:List Tk).length (([]:List Tk).map df)::bC []::F) ag (go ?_)
 refine aN (bg 58 40 none _) ?_
 refine aJ (mm:=0) (news:=[]) 0 1 zr zr zr zr zr zr zr zr zr zr zr zr (Vw.nil _ none 0) rfl (by simp) ai (by decide) (fun _=>rfl) bh ?_
 intro v1
 refine aH 0 rfl ?_
 rintro oa oc rfl
 refine go ?_
 refine al (H':=aB 58 40 (.slice oa 0 oc) 0 []::ae nb (cl (cy id S st tb bv kb hb pv ms mg br) 98)::Sep [ae pb (cl (gy d (ptr xb) at_ 11) 117),ae xb (cl [.slice (some ⟨ob,oo,none⟩) 1 rc] 75),aB 77 66 (.slice (some ⟨ob,oo,none⟩) 1 rc) 1 (ck x),da st bd jb q mb [] t,ae tb (cl [ptr st,ptr jb,qW,.bool false] 156),aB 158 1 qW ([]:List Tk).length (([]:List Tk).map df),bC [] ]::F) (ao.trans (H2:=ae pb (cl (gy d (ptr xb) at_ 11) 117)::ae xb (cl [.slice (some ⟨ob,oo,none⟩) 1 rc] 75)::aB 77 66 (.slice (some ⟨ob,oo,none⟩) 1 rc) 1 (ck x)::da st bd jb q mb [] t::ae tb (cl [ptr st,ptr jb,qW,.bool false] 156)::aB 158 1 qW ([]:List Tk).length (([]:List Tk).map df)::bC []::aB 58 40 (.slice oa 0 oc) 0 []::ae nb (cl (cy id S st tb bv kb hb pv ms mg br) 98)::F) ag ((ao.bK [_,_,_,_,_,_,_] _).trans ag)) ?_
 refine ad hE Tryz.func40 zr zr ⟨oa,oc,qW,rfl,rfl⟩
end
end Go.Proofs.YtlcoaflddajjcaaGreatDoor
namespace Go.Proofs.YtlcoaflddajjcaaGreatDoor
open Go Go.SL
attribute [local irreducible] J K au Ends ae aB aI bB aW aS a7 aX bF aC da bQ fU bC kx
def DS(a:Option Addr)(c0 pb:Nat) :
  au Tryz.prog 36 [.slice a 1 c0,.int .i64 0,.int .i64 1] [aB 118 1 (.slice a 1 c0) 1 [ptr pb] ]
   (fun r H=>∃a' c',r = .slice a' 0 c'∧H=[aB 118 1 (.slice a' 0 c') 0 [] ]):=by
 refine au.ak Tryz.func36 Tryz.ntmps36 fun G F R hE=>?_
 refine jJ 0 rfl ai ?_
 intro ba oa cc he hca _ Pc
 simp only[Value.slice.injEq,true_and]at he
 obtain⟨rfl,rfl⟩:=he
 refine cX (y3 ai) ?_
 rintro⟨pre,junk⟩⟨hp,_,M4,_⟩
 simp only at hp M4
 have hlL:(pre++[ptr pb]++junk).length=oa+1+junk.length:=by simp only[List.length_append,hp,List.length_cons,List.length_nil]
 refine go ?_
 refine NY (U:=aU) (p:=0) (q:=1) (r:=1) zr zr zr zr zr zr zr zr ai ai ai ai (go ?_)
 refine aL (fun w=>Sat G w ([])) (cJ 0 6 (.act 6 (.st 7 .nil))) rfl ah ah ah dv ?_
 refine go ?_
 refine bw (p:=0) (q:=0) zr zr zr zr zr zr zr ai ai (.inr ai) ?_
 refine aG 22 (.slice (some ⟨ba,oa,none⟩) 0 c0) rfl (by
  show Value.slice (sliceAt (some ⟨ba,oa,none⟩) c0 0 1) (0-0) (c0-0)=_
  rw[kq _ _ _ _ _ ai]
  simp) ?_
 refine go ?_
 refine bw (p:=1) (q:=1) zr zr zr zr zr zr zr ai ai (.inl rfl) ?_
 refine aG 25 (.slice (sliceAt (some ⟨ba,oa,none⟩) c0 1 1) 0 (c0-1)) zr zr ?_
 refine Gq (U:=aU) (mm:=0) (news:=[]) (l':=pre++[ptr pb]++junk) 0 0 zr zr zr zr zr zr zr zr zr zr (Vw.nil _ _ _) rfl (by simp) ai (by
  show oa+(0+0)*1≤(pre++[ptr pb]++junk).length
  rw[hlL];omega) (by
  show _=List.take (oa+0*1) (pre++[ptr pb]++junk)++[]++List.drop (oa+(0+0)*1) (pre++[ptr pb]++junk)
  rw[List.append_nil];exact(List.take_append_drop _ _).symm) rfl dv ?_
 refine aG 26 (.slice (some ⟨ba,oa,none⟩) 0 c0) zr zr (go ?_)
 refine bw (p:=0) (q:=1) zr zr zr zr zr zr zr ai ai (.inr ai) ?_
 refine aG 31 (.slice (some ⟨ba,oa,none⟩) 1 c0) rfl (by
  show Value.slice (sliceAt (some ⟨ba,oa,none⟩) c0 0 1) (1-0) (c0-0)=_
  rw[kq _ _ _ _ _ ai]
  simp) ?_
 refine vo (U:=aU) (l':=pre++[]++([Value.pointer none]++junk)) 0 e8 zr zr zr zr zr zr zr zr (by
  show oa+1*1≤_
  rw[hlL];omega) (by
  show _=List.take oa _++[Value.pointer none]++List.drop (oa+1*1) _
  rw[List.append_assoc pre [ptr pb] junk,List.take_left' hp,show oa+1*1=pre.length+1 from by rw[hp],List.drop_length_add_append]
  simp) rfl ?_
 refine go ?_
 refine al (gq (sz:=1) (e:=118) (c:=c0) (cs:=[]) (nn:=0) (pre:=pre) (junk:=[Value.pointer none]++junk) hp ai (by
  simp only[List.length_nil,List.length_append,List.length_cons];simp only[List.length_cons,List.length_nil]at M4;omega) rfl _) ?_
 refine ad hE Tryz.func36 zr zr ⟨_,_,rfl,rfl⟩
def Kc(nb:Nat)(id:Int)(S:sP)(st tb bv kb hb ms mg:Nat)(a:Option Addr)(c pb:Nat)(d:Dg)(ib:Value)(at_ f:Int)(hf:f≠0)(bd:Nat)(q:Int)(mb:Nat)(bk:Bool)(A:Ab)(tz:gf A d=none) :
  au Tryz.prog 10 [ptr nb,dV d] [ae nb (cl (cy id S st tb bv kb hb (.slice a 1 c) ms mg false) 98),aB 118 1 (.slice a 1 c) 1 [ptr pb],ae pb (cl (gy d ib at_ f) 117),ae st (cl (dg bd q mb bk) 146),aC bd A]
  (fun r H=>∃(la:Option Addr) (lc rG:Nat),r = .int .i64 0∧H=[ae nb (cl (cy id S st tb bv kb hb (.slice la 1 lc) ms mg false) 98),aB 118 1 (.slice la 1 lc) 1 [ptr rG],ae rG (cl (gy d (.pointer none) (-1) 0) 117),ae st (cl (dg bd q mb bk) 146),aC bd A]):=by
 have Hb:=kV nb id S st tb bv kb hb ms mg (.slice a 1 c) false bd q mb bk A d tz
 have xY:=pT nb id S st tb bv kb hb ms mg false a c pb d d ib at_ f
 rw[if_pos rfl]at xY
 have Q2:=DS a c pb
 unfold dV at Hb xY ⊢
 refine au.ak Tryz.func10 Tryz.ntmps10 fun G F R hE=>?_
 refine aD rfl ?_
 refine bu zr zr bh ?_
 intro b3
 refine go ?_
 refine aO (U:=aU) (l:=dC d) 0 zr zr zr zr zr zr (go ?_)
 refine aw xY ?_
 refine aN (H':=ae b3 (cl (dC d) 32)::ae nb (cl (cy id S st tb bv kb hb (.slice a 1 c) ms mg false) 98)::aB 118 1 (.slice a 1 c) 1 [ptr pb]::ae pb (cl (gy d ib at_ f) 117)::ae st (cl (dg bd q mb bk) 146)::aC bd A::F) ag (go ?_)
 refine aO (U:=aU) (l:=dC d) 0 zr zr zr zr zr zr (go ?_)
 refine aw Hb ?_
 refine aN (H':=ae b3 (cl (dC d) 32)::ae nb (cl (cy id S st tb bv kb hb (.slice a 1 c) ms mg false) 98)::aB 118 1 (.slice a 1 c) 1 [ptr pb]::ae pb (cl (gy d ib at_ f) 117)::ae st (cl (dg bd q mb bk) 146)::aC bd A::F) ag ?_
 refine sq 2 rfl ai ?_
 intro ob oo EW dL mG
 simp only[Value.slice.injEq,true_and]at dL
 obtain⟨rfl,rfl⟩:=dL
 (repeat(first|refine er ?_|refine bp 0 zr zr zr zr zr zr zr zr ai ?_|(refine aP ?_;refine aQ 2 0 zr zr zr mG zr zr zr zr ?_)))
 refine bq 32 ((.bool false)) rfl ((congrArg Value.bool (decide_eq_false hf))) (go ?_)
 refine aF Q2 ?_
 rintro _ _⟨a',c',rfl,rfl⟩
 refine aN (H':=ae nb (cl (cy id S st tb bv kb hb (.slice (some ⟨ob,oo,none⟩) 1 c) ms mg false) 98)::ae b3 (cl (dC d) 32)::aB 118 1 (.slice a' 0 c') 0 []::ae st (cl (dg bd q mb bk) 146)::aC bd A::F) ag (go ?_)
 refine al (H':=ae nb (cl (cy id S st tb bv kb hb (.slice a' 0 c') ms mg false) 98)::ae b3 (cl (dC d) 32)::aB 118 1 (.slice a' 0 c') 0 []::ae st (cl (dg bd q mb bk) 146)::aC bd A::F) ag ?_
 refine aL (fun w=>Sat G w ([ae nb (cl (cy id S st tb bv kb hb (.slice a' 0 c') ms mg false) 98),ae b3 (cl (dC d) 32)])) (cJ 0 7 (.act 7 (.act 8 (.act 9 (.st 10 (.st 11 (.act 12 .nil))))))) rfl ah ah ah dv ?_
 refine go ?_
 refine bX (U:=aU) (l:=dC d) 1 zr zr zr zr zr zr (go ?_)
 refine bu zr zr (fun _ w hw=>hw.cu ag) ?_
 intro rG
 refine go ?_
 refine aj (cs:=[ptr rG]) zr zr zr zr zr zr zr zr zr (fun _ w hw=>hw.cu ag) ?_
 intro row
 refine go ?_
 refine aN (H':=aB 118 1 (.slice a' 0 c') 0 []::ae row (cl [ptr rG] 118)::ae rG (cl (gy d (.pointer none) (-1) 0) 117)::ae nb (cl (cy id S st tb bv kb hb (.slice a' 0 c') ms mg false) 98)::ae b3 (cl (dC d) 32)::ae st (cl (dg bd q mb bk) 146)::aC bd A::F) ag ?_
 refine aJ (mm:=1) (news:=[ptr rG]) 0 1 rfl rfl rfl rfl rfl rfl rfl rfl rfl rfl rfl rfl (Vw.ae rfl) rfl (by intro v hv;simp at hv;subst hv;rfl) ai (by decide) (fun _=>rfl) (fun _ w hw=>hw.cu ag) ?_
 intro v2
 refine aH 0 rfl ?_
 rintro la lc rfl
 refine go ?_
 refine ad hE Tryz.func10 zr zr ⟨la,lc,rG,rfl,rfl⟩
section
variable(nb:Nat)(id:Int)(S:sP)(st tb bv kb hb ms mg:Nat)(pv:Value)
def zU{α:Type}(X Q:HP)(Q':α→HP)(v:MV)(m:mY)(hm:uJ X v m)(KH:ni m=true)(hk:m.kind=10∨m.kind=11)(now:Int)(qD:0≤now∧now≤1099511627776)(Jo:id≠0)(ho:au Tryz.prog 102 [ptr nb,.int .i64 now,.agg (mC v m).toArray] [ae nb (cl (cy id S st tb bv kb hb pv ms mg false) 98),X,Q] (fun r H=>∃z:α,r = .slice none 0 0∧H=[ae nb (cl (cy id S st tb bv kb hb pv ms mg false) 98),X,Q' z])) :
  au Tryz.prog 45 [ptr nb,.int .i64 0,.int .i64 now,.agg (mC v m).toArray] [ae nb (cl (cy id S st tb bv kb hb pv ms mg false) 98),fU kb S.lim S.fC S.bR,X,Q]
  (fun r H=>∃z:α,r = .tuple #[.slice none 0 0,.int .i64 0]∧H=[ae nb (cl (cy id S st tb bv kb hb pv ms mg false) 98),fU kb S.lim S.fC S.bR,X,Q' z]):=by
 have xV:=Ei X v m hm
 rw[KH]at xV
 refine au.ak Tryz.func45 Tryz.ntmps45 fun G F R hE=>?_
 refine aD rfl ?_
 refine bu zr zr bh ?_
 intro b7
 refine go ?_
 refine aw (jP 0 0 65536) ?_
 rw[j6 (show(0:Int)≤0∧(0:Int)≤65536 by omega)]
 refine go ?_
 refine aG 29 ((.bool false)) rfl ((congrArg Value.bool (decide_eq_false (fun h=>Jo h.symm)))) ?_
 refine go ?_
 refine aw (jP now 0 1099511627776) ?_
 rw[j6 qD]
 refine go ?_
 refine aO (U:=aU) (l:=mC v m) 0 zr zr zr zr zr zr (go ?_)
 refine aw xV ?_
 refine aN (H':=ae b7 (cl (mC v m) 56)::ae nb (cl (cy id S st tb bv kb hb pv ms mg false) 98)::fU kb S.lim S.fC S.bR::X::Q::F) ag (go ?_)
 refine aw (D6 kb S.lim S.fC S.bR 0 now) ?_
 refine aN (H':=ae b7 (cl (mC v m) 56)::ae nb (cl (cy id S st tb bv kb hb pv ms mg false) 98)::fU kb S.lim S.fC S.bR::X::Q::F) ag (go ?_)
 refine bq 47 ((.bool false)) rfl ((congrArg Value.bool (decide_eq_false ai))) (go ?_)
 refine bq 58 ((.bool false)) rfl ((congrArg Value.bool (decide_eq_false ai))) (go ?_)
 refine aO (U:=aU) (l:=mC v m) 0 zr zr zr zr zr zr (go ?_)
 refine aF ho ?_
 rintro _ _⟨z,rfl,rfl⟩
 refine go ?_
 refine ad hE Tryz.func45 zr zr ⟨z,rfl,rfl⟩
end
end Go.Proofs.YtlcoaflddajjcaaGreatDoor
namespace Go.Proofs.YtlcoaflddajjcaaGreatDoor
open Go Go.SL
attribute [local irreducible] J K au Ends ae aB aI bB aW aS a7 aX bF aC da bQ fU bC kx
section
variable(nb:Nat)(id:Int)(S:sP)(st tb bv kb hb ms mg:Nat)(a:Option Addr)(c pb:Nat)(bd jb mb:Nat)(q:Int)(t:SJ)(tv:Value)
def Bf(X:HP)(v:MV)(m:mY)(hm:uJ X v m)(KH:ni m=true)(hk:m.kind=11)(now:Int)(qD:0≤now∧now≤1099511627776)(Jo:id≠0)(at_:Int) :
  au Tryz.prog 45 [ptr nb,.int .i64 0,.int .i64 now,.agg (mC v m).toArray] [ae nb (cl (cy id S st tb bv kb hb (.slice a 1 c) ms mg false) 98),fU kb S.lim S.fC S.bR,X,aB 118 1 (.slice a 1 c) 1 [ptr pb],qA pb m.hash at_ 0 st bd jb q mb t tb tv]
  (fun r H=>r = .tuple #[.slice none 0 0,.int .i64 0]∧H=[ae nb (cl (cy id S st tb bv kb hb (.slice a 1 c) ms mg false) 98),fU kb S.lim S.fC S.bR,X,aB 118 1 (.slice a 1 c) 1 [ptr pb],qA pb m.hash at_ 4 st bd jb q mb t tb tv]):=by
 have ho:=tq nb id S st tb bv kb hb ms mg false a c pb now v m hk at_
 have KJ:=(ho.frame (X::da st bd jb q mb [] t::fq tb st jb tv [] false)).conv (Pre':=[ae nb (cl (cy id S st tb bv kb hb (.slice a 1 c) ms mg false) 98),X,Sep [aB 118 1 (.slice a 1 c) 1 [ptr pb],qA pb m.hash at_ 0 st bd jb q mb t tb tv] ]) (Post':=fun r H=>∃z:Unit,r = .slice none 0 0∧H=[ae nb (cl (cy id S st tb bv kb hb (.slice a 1 c) ms mg false) 98),X,Sep [aB 118 1 (.slice a 1 c) 1 [ptr pb],qA pb m.hash at_ 4 st bd jb q mb t tb tv] ]) (by
  unfold qA fq
  refine ao.trans (H2:=Sep [aB 118 1 (.slice a 1 c) 1 [ptr pb],Sep [ae pb (cl (gy m.hash (.pointer none) at_ 0) 117),da st bd jb q mb [] t,ae tb (cl [ptr st,ptr jb,tv,.bool false] 156),aB 158 1 tv ([]:List Tk).length (([]:List Tk).map df),bC [] ] ]::ae nb (cl (cy id S st tb bv kb hb (.slice a 1 c) ms mg false) 98)::[X]) ag ((ao.bY _ _).trans ?_)
  refine ao.trans (H2:=Sep [ae pb (cl (gy m.hash (.pointer none) at_ 0) 117),da st bd jb q mb [] t,ae tb (cl [ptr st,ptr jb,tv,.bool false] 156),aB 158 1 tv ([]:List Tk).length (([]:List Tk).map df),bC [] ]::aB 118 1 (.slice a 1 c) 1 [ptr pb]::ae nb (cl (cy id S st tb bv kb hb (.slice a 1 c) ms mg false) 98)::[X]) ag ((ao.bY _ _).trans ag)) (by
  rintro r H⟨H',⟨rfl,rfl⟩,rfl⟩
  refine⟨_,⟨(),rfl,rfl⟩,?_⟩
  unfold qA fq
  refine ao.trans (H2:=ae pb (cl (gy m.hash (.pointer none) at_ 4) 117)::da st bd jb q mb [] t::ae tb (cl [ptr st,ptr jb,tv,.bool false] 156)::aB 158 1 tv ([]:List Tk).length (([]:List Tk).map df)::bC []::aB 118 1 (.slice a 1 c) 1 [ptr pb]::ae nb (cl (cy id S st tb bv kb hb (.slice a 1 c) ms mg false) 98)::[X]) ag ((ao.bK [_,_,_,_,_] _).trans ?_)
  exact ao.trans (H2:=aB 118 1 (.slice a 1 c) 1 [ptr pb]::Sep [ae pb (cl (gy m.hash (.pointer none) at_ 4) 117),da st bd jb q mb [] t,ae tb (cl [ptr st,ptr jb,tv,.bool false] 156),aB 158 1 tv ([]:List Tk).length (([]:List Tk).map df),bC [] ]::ae nb (cl (cy id S st tb bv kb hb (.slice a 1 c) ms mg false) 98)::[X]) ag ((ao.bK [_,_] _).trans ag))
 refine(zU nb id S st tb bv kb hb ms mg (.slice a 1 c) X _ _ v m hm KH (.inr hk) now qD Jo KJ).conv ?_ ?_
 ·exact ao.trans (H2:=aB 118 1 (.slice a 1 c) 1 [ptr pb]::qA pb m.hash at_ 0 st bd jb q mb t tb tv::ae nb (cl (cy id S st tb bv kb hb (.slice a 1 c) ms mg false) 98)::fU kb S.lim S.fC S.bR::[X]) ag ((ao.bK [_,_] _).trans ag)
 ·rintro r H⟨_,rfl,rfl⟩
  refine⟨_,⟨rfl,rfl⟩,?_⟩
  exact ao.trans (H2:=Sep [aB 118 1 (.slice a 1 c) 1 [ptr pb],qA pb m.hash at_ 4 st bd jb q mb t tb tv]::ae nb (cl (cy id S st tb bv kb hb (.slice a 1 c) ms mg false) 98)::fU kb S.lim S.fC S.bR::[X]) ag ((ao.bY _ _).trans ag)
def Du(X:HP)(hK:pY X)(v:MV)(m:mY)(hm:uJ X v m)(KH:ni m=true)(hk:m.kind=10)(x:Bl)(hd:qG m.bytes=some [x])(sK:cG [x]=0)(hn:cw [x]=m.hash)(now:Int)(qD:0≤now∧now≤1099511627776)(Jo:id≠0)(at_:Int) :
  au Tryz.prog 45 [ptr nb,.int .i64 0,.int .i64 now,.agg (mC v m).toArray] [ae nb (cl (cy id S st tb bv kb hb (.slice a 1 c) ms mg false) 98),fU kb S.lim S.fC S.bR,X,aB 118 1 (.slice a 1 c) 1 [ptr pb],qA pb m.hash at_ 0 st bd jb q mb t tb tv]
  (fun r H=>∃(xb:Nat) (ra:Option Addr) (rc:Nat),r = .tuple #[.slice none 0 0,.int .i64 0]∧H=[ae nb (cl (cy id S st tb bv kb hb (.slice a 1 c) ms mg false) 98),fU kb S.lim S.fC S.bR,X,aB 118 1 (.slice a 1 c) 1 [ptr pb],qK pb m.hash xb ra rc x at_ 0 st bd jb q mb t tb tv]):=by
 have ho:=uO nb id S st tb bv kb hb ms mg false a c pb X hK now v m hk hm.vb hm.lb [x] hd sK (by simp) hn at_
 have KJ:=(ho.frame (da st bd jb q mb [] t::fq tb st jb tv [] false)).conv (Pre':=[ae nb (cl (cy id S st tb bv kb hb (.slice a 1 c) ms mg false) 98),X,Sep [aB 118 1 (.slice a 1 c) 1 [ptr pb],qA pb m.hash at_ 0 st bd jb q mb t tb tv] ]) (Post':=fun r H=>∃z:Nat × Option Addr × Nat,r = .slice none 0 0∧H=[ae nb (cl (cy id S st tb bv kb hb (.slice a 1 c) ms mg false) 98),X,Sep [aB 118 1 (.slice a 1 c) 1 [ptr pb],qK pb m.hash z.1 z.2.1 z.2.2 x at_ 0 st bd jb q mb t tb tv] ]) (by
  unfold qA fq
  refine ao.trans (H2:=Sep [aB 118 1 (.slice a 1 c) 1 [ptr pb],Sep [ae pb (cl (gy m.hash (.pointer none) at_ 0) 117),da st bd jb q mb [] t,ae tb (cl [ptr st,ptr jb,tv,.bool false] 156),aB 158 1 tv ([]:List Tk).length (([]:List Tk).map df),bC [] ] ]::ae nb (cl (cy id S st tb bv kb hb (.slice a 1 c) ms mg false) 98)::[X]) ag ((ao.bY _ _).trans ?_)
  refine ao.trans (H2:=Sep [ae pb (cl (gy m.hash (.pointer none) at_ 0) 117),da st bd jb q mb [] t,ae tb (cl [ptr st,ptr jb,tv,.bool false] 156),aB 158 1 tv ([]:List Tk).length (([]:List Tk).map df),bC [] ]::aB 118 1 (.slice a 1 c) 1 [ptr pb]::ae nb (cl (cy id S st tb bv kb hb (.slice a 1 c) ms mg false) 98)::[X]) ag ((ao.bY _ _).trans ag)) (by
  rintro r H⟨H',⟨xb,ra,rc,rfl,rfl⟩,rfl⟩
  refine⟨_,⟨(xb,ra,rc),rfl,rfl⟩,?_⟩
  unfold qK fq
  refine ao.trans (H2:=ae pb (cl (gy m.hash (ptr xb) at_ 0) 117)::ae xb (cl [.slice ra 1 rc] 75)::aB 77 66 (.slice ra 1 rc) 1 (ck x)::da st bd jb q mb [] t::ae tb (cl [ptr st,ptr jb,tv,.bool false] 156)::aB 158 1 tv ([]:List Tk).length (([]:List Tk).map df)::bC []::aB 118 1 (.slice a 1 c) 1 [ptr pb]::ae nb (cl (cy id S st tb bv kb hb (.slice a 1 c) ms mg false) 98)::[X]) ag ((ao.bK [_,_,_,_,_,_,_] _).trans ?_)
  exact ao.trans (H2:=aB 118 1 (.slice a 1 c) 1 [ptr pb]::Sep [ae pb (cl (gy m.hash (ptr xb) at_ 0) 117),ae xb (cl [.slice ra 1 rc] 75),aB 77 66 (.slice ra 1 rc) 1 (ck x),da st bd jb q mb [] t,ae tb (cl [ptr st,ptr jb,tv,.bool false] 156),aB 158 1 tv ([]:List Tk).length (([]:List Tk).map df),bC [] ]::ae nb (cl (cy id S st tb bv kb hb (.slice a 1 c) ms mg false) 98)::[X]) ag ((ao.bK [_,_] _).trans ag))
 refine(zU nb id S st tb bv kb hb ms mg (.slice a 1 c) X _ _ v m hm KH (.inl hk) now qD Jo KJ).conv ?_ ?_
 ·exact ao.trans (H2:=aB 118 1 (.slice a 1 c) 1 [ptr pb]::qA pb m.hash at_ 0 st bd jb q mb t tb tv::ae nb (cl (cy id S st tb bv kb hb (.slice a 1 c) ms mg false) 98)::fU kb S.lim S.fC S.bR::[X]) ag ((ao.bK [_,_] _).trans ag)
 ·rintro r H⟨z,rfl,rfl⟩
  refine⟨_,⟨z.1,z.2.1,z.2.2,rfl,rfl⟩,?_⟩
  exact ao.trans (H2:=Sep [aB 118 1 (.slice a 1 c) 1 [ptr pb],qK pb m.hash z.1 z.2.1 z.2.2 x at_ 0 st bd jb q mb t tb tv]::ae nb (cl (cy id S st tb bv kb hb (.slice a 1 c) ms mg false) 98)::fU kb S.lim S.fC S.bR::[X]) ag ((ao.bY _ _).trans ag)
end
end Go.Proofs.YtlcoaflddajjcaaGreatDoor
namespace Go.Proofs.YtlcoaflddajjcaaGreatDoor
open Go Go.SL
def Cr(d:Dg):mY:={ mY.zero with kind:=11,hash:=d }
def Mm(d:Dg)(b:List UInt8):mY:={ mY.zero with kind:=10,hash:=d,bytes:=b }
def mvB(v:Value):MV:=⟨.slice none 0 0,v,.slice none 0 0,.slice none 0 0⟩
attribute [local irreducible] J K au Ends ae aB aI bB aW aS a7 aX bF aC da bQ fU bC kx
def IP(ob ot:Nat)(bv:Value)(ia:Option Addr)(ic:Nat)(d0 d:Dg)(ra:Option Addr)(rc:Nat)(x:Bl)(sK:cG [x]=0)(now:Int)(hn:0≤now∧now≤1099511627776) :
  au Tryz.prog 44 [ptr ob,.int .i64 7,.int .i64 now,.agg (mC BB (JU d)).toArray,.int .u64 3] [ae ob (cl (fG ot (.slice ia 1 ic) bv) 66),aB 86 33 (.slice ia 1 ic) 1 (p6 d0 (.slice ra 1 rc)),aB 77 66 (.slice ra 1 rc) 1 (ck x)]
  (fun r H=>(d0≠d∧r = .tuple #[.agg (mC BB (Cr d)).toArray,.bool true,.int .i64 0]∧H=[ae ob (cl (fG ot (.slice ia 1 ic) bv) 66),aB 86 33 (.slice ia 1 ic) 1 (p6 d0 (.slice ra 1 rc)),aB 77 66 (.slice ra 1 rc) 1 (ck x)]) ∨
   (d0=d∧∃(ea:Option Addr) (ec:Nat),r = .tuple #[.agg (mC (mvB (.slice ea (dO [x]).length ec)) (Mm d (dO [x]))).toArray,.bool true,.int .i64 0]∧H=[aB 5 1 (.slice ea (dO [x]).length ec) (dO [x]).length (bV (dO [x])),ae ob (cl (fG ot (.slice ia 1 ic) bv) 66),aB 86 33 (.slice ia 1 ic) 1 (p6 d0 (.slice ra 1 rc)),aB 77 66 (.slice ra 1 rc) 1 (ck x)])):=by
 have hoi:=Cp ob ot bv ia ic d0 d ra 1 rc
 unfold dV tt at hoi
 refine au.ak Tryz.func44 Tryz.ntmps44 fun G F R hE=>?_
 refine aD rfl ?_
 refine bu zr zr bh ?_
 intro b8
 refine az zr zr zr bh ?_
 intro b10
 refine go ?_
 refine aw IQ ?_
 refine go ?_
 refine aw (yh now hn) ?_
 refine go ?_
 refine aO (U:=aU) (l:=mC BB (JU d)) 1 zr zr zr zr zr zr (go ?_)
 refine aw (E0 d) ?_
 refine go ?_
 refine bP (cs:=dC d) 1 zr zr zr zr zr zr (go ?_)
 refine aw hoi ?_
 refine aN (H':=ae b10 (cl (mC BB mY.zero) 56)::ae b8 (cl (mC BB (JU d)) 56)::aB 77 66 (.slice ra 1 rc) 1 (ck x)::ae ob (cl (fG ot (.slice ia 1 ic) bv) 66)::aB 86 33 (.slice ia 1 ic) 1 (p6 d0 (.slice ra 1 rc))::F) ag ?_
 by_cases hd:d0=d
 ·rw[if_pos hd]
  refine go ?_
  refine az zr zr zr bh ?_
  intro b16
  refine go ?_
  refine aO (U:=aU) (l:=[.slice ra 1 rc]) 0 zr zr zr zr zr zr ?_
  refine dH 3 rfl ?_
  intro cW
  have KN:=ox _ _ [x] (show Vw (aB 77 66 (.slice ra 1 rc) 1 (ck x)) (.slice ra 1 rc) [x].length ([x].flatMap ck)from by simpa using cW) (by simp)
  unfold tt at KN
  refine aF KN ?_
  rintro _ _ (⟨fu,_⟩|⟨rv,_,rfl,rfl⟩)
  ·exact absurd sK fu
  refine aH 0 rfl ?_
  rintro ea ec rfl
  refine aN (H':=ae b10 (cl (mC BB mY.zero) 56)::ae b8 (cl (mC BB (JU d)) 56)::aB 5 1 (.slice ea (dO [x]).length ec) (dO [x]).length (bV (dO [x]))::aB 77 66 (.slice ra 1 rc) 1 (ck x)::ae ob (cl (fG ot (.slice ia 1 ic) bv) 66)::aB 86 33 (.slice ia 1 ic) 1 (p6 d0 (.slice ra 1 rc))::F) ag (go ?_)
  refine bP (cs:=dC d) 1 zr zr zr zr zr zr (go ?_)
  (refine a6 hE ?_;apply aZ (U:=aU) hE Tryz.func44 rfl (ao.refl _);(repeat(first|exact aR.nil|apply aR.tmp rfl|apply aR.agg 0 zr zr zr zr zr));exact(.inr ⟨hd,ea,ec,rfl,rfl⟩);exact ag)
 ·rw[if_neg hd]
  refine go ?_
  refine az zr zr zr bh ?_
  intro b16
  refine go ?_
  refine bP (cs:=dC d) 2 zr zr zr zr zr zr (go ?_)
  (refine a6 hE ?_;apply aZ (U:=aU) hE Tryz.func44 rfl (ao.refl _);(repeat(first|exact aR.nil|apply aR.tmp rfl|apply aR.agg 1 zr zr zr zr zr));exact(.inl ⟨hd,rfl,rfl⟩);exact ag)
section
variable(nb:Nat)(id:Int)(S:sP)(st tb bv kb hb ms mg:Nat)(br:Bool)(a:Option Addr)(c pb:Nat)
def Dv(d:Dg)(ib:Value)(at_ f:Int)(bd:Nat)(q:Int)(mb:Nat)(bk:Bool)(A:Ab)(tz:gf A d=none):au Tryz.prog 13 [ptr nb,dV d] [ae nb (cl (cy id S st tb bv kb hb (.slice a 1 c) ms mg br) 98),aB 118 1 (.slice a 1 c) 1 [ptr pb],ae pb (cl (gy d ib at_ f) 117),ae st (cl (dg bd q mb bk) 146),aC bd A]
  (fun r H=>r=(if f=0 then .tuple #[.int .i64 1,.int .i64 0]else .tuple #[.int .i64 0,.int .i64 f])∧H=[ae nb (cl (cy id S st tb bv kb hb (.slice a 1 c) ms mg br) 98),aB 118 1 (.slice a 1 c) 1 [ptr pb],ae pb (cl (gy d ib at_ f) 117),ae st (cl (dg bd q mb bk) 146),aC bd A]):=by
 have Hb:=kV nb id S st tb bv kb hb ms mg (.slice a 1 c) br bd q mb bk A d tz
 have xY:=pT nb id S st tb bv kb hb ms mg br a c pb d d ib at_ f
 rw[if_pos rfl]at xY
 unfold dV at Hb xY ⊢
 refine au.ak Tryz.func13 Tryz.ntmps13 fun G F R hE=>?_
 refine aD rfl ?_
 refine bu zr zr bh ?_
 intro b3
 refine go ?_
 refine aO (U:=aU) (l:=dC d) 0 zr zr zr zr zr zr (go ?_)
 refine aw xY ?_
 refine aN (H':=ae b3 (cl (dC d) 32)::ae nb (cl (cy id S st tb bv kb hb (.slice a 1 c) ms mg br) 98)::aB 118 1 (.slice a 1 c) 1 [ptr pb]::ae pb (cl (gy d ib at_ f) 117)::ae st (cl (dg bd q mb bk) 146)::aC bd A::F) ag (go ?_)
 refine aO (U:=aU) (l:=dC d) 0 zr zr zr zr zr zr (go ?_)
 refine aw Hb ?_
 refine aN (H':=ae nb (cl (cy id S st tb bv kb hb (.slice a 1 c) ms mg br) 98)::aB 118 1 (.slice a 1 c) 1 [ptr pb]::ae pb (cl (gy d ib at_ f) 117)::ae st (cl (dg bd q mb bk) 146)::aC bd A::F) ag ?_
 refine sq 1 rfl ai ?_
 intro xb oo EW dL mG
 simp only[Value.slice.injEq,true_and]at dL
 obtain⟨rfl,rfl⟩:=dL
 (repeat(first|refine er ?_|refine bp 0 zr zr zr zr zr zr zr zr ai ?_|(refine aP ?_;refine aQ 1 0 zr zr zr mG zr zr zr zr ?_)))
 by_cases hf:f=0
 ·rw[if_pos hf]at hE
  refine bq 17 ((.bool false)) rfl ((congrArg Value.bool (decide_eq_false (fun h=>h hf)))) ?_
  refine go ?_
  refine ad hE Tryz.func13 zr zr ⟨rfl,rfl⟩
 ·rw[if_neg hf]at hE
  refine bq 17 ((.bool true)) rfl ((congrArg Value.bool (decide_eq_true hf))) (go ?_)
  refine aL (fun w=>Sat G w ([ae nb (cl (cy id S st tb bv kb hb (.slice (some ⟨xb,oo,none⟩) 1 c) ms mg br) 98),aB 118 1 (.slice (some ⟨xb,oo,none⟩) 1 c) 1 [ptr pb],ae pb (cl (gy d ib at_ f) 117)])) (cJ 0 12 .nil) rfl ah ah ah dv ?_
  (repeat(first|refine er ?_|refine bp 0 zr zr zr zr zr zr zr zr ai ?_|(refine aP ?_;refine cO 1 0 zr zr zr mG zr zr zr zr ?_)))
  refine ad hE Tryz.func13 zr zr ⟨rfl,rfl⟩
end
end Go.Proofs.YtlcoaflddajjcaaGreatDoor
namespace Go.Proofs.YtlcoaflddajjcaaGreatDoor
open Go Go.SL
def tr{x:Bl}(hx:bJ x=true):cG [x]=0:=by
 unfold cG
 rw[if_neg (by simp[hx])]
 rfl
def JR{b:List UInt8}(h:1≤b.length∧b.length≤500):∃x,o7 b 16=some x:=by
 unfold o7 iT
 rw[if_pos (by unfold bJ;exact decide_eq_true ⟨by simp only;omega,by simp only;omega,show(16:Int)≤16 from by omega,show(16:Int)≤16384 from by omega,by simp only;omega⟩)]
 exact⟨_,rfl⟩
def P3{x:Bl}(hx:bJ x=true):1≤(dO [x]).length:=by
 have h:=C5 (tr hx)
 cases he:dO [x]with
 | nil=>rw[he]at h;cases h
 | cons a l=>simp
def EF(d:Dg):ni { mY.zero with kind:=11,hash:=d }=true:=rfl
def Iy(d:Dg)(bs:List UInt8)(h1:1≤bs.length)(h2:bs.length≤4096):ni { mY.zero with kind:=10,hash:=d,bytes:=bs }=true:=by
 have h:j7 (bs.length:Int) 1 4096=true:=AQ.2 ai
 show(true && true && true && true && j7 (bs.length:Int) 1 4096 && true && true && true)=true
 rw[h]
 rfl
def wU(d:Dg):Dg:=⟨(d.at 0 ^^^ 1)::d.bs.drop 1,by rw[List.length_cons,List.length_drop,d.len]⟩
def Nb(d:Dg):wU d≠d:=by
 intro h
 have h1:=congrArg (fun x:Dg=>x.at 0) h
 simp only[wU,Dg.at,List.getD_cons_zero]at h1
 have h2:=congrArg (fun z=>z ^^^ d.bs.getD 0 0) h1
 simp[UInt8.xor_comm _ 1,UInt8.xor_assoc]at h2
def Md(X:HP)(d:Dg):uJ X BB (Cr d):=⟨Vw.nil X none 0,⟨Vw.nil X none 0,none,0,rfl,Nat.le_refl _⟩,⟨Vw.nil X none 0,none,0,rfl,Nat.le_refl _⟩,Vw.nil X none 0,by show 0≤_;omega,by show 0≤_;omega,by show 0≤_;omega,by show 0≤_;omega⟩
def O0(X:HP)(d:Dg)(ea:Option Addr)(ec:Nat)(bs:List UInt8)(hb:ew X (.slice ea bs.length ec) bs)(hl:bs.length≤4096):uJ X (mvB (.slice ea bs.length ec)) (Mm d bs):=⟨Vw.nil X none 0,hb,⟨Vw.nil X none 0,none,0,rfl,Nat.le_refl _⟩,Vw.nil X none 0,by show 0≤_;omega,by show bs.length≤_;omega,by show 0≤_;omega,by show 0≤_;omega⟩
attribute [local irreducible] J K au Ends ae aB aI bB aW aS a7 aX bF aC da bQ fU bC kx qA qK
def jB(ob nb:Nat)(a:Option Addr)(c:Nat)(now:Int):au Tryz.prog 12 [ptr ob,ptr nb,.slice a 0 c,.int .i64 now] [] (fun r H=>r = .tuple #[]∧H=[]):=by
 refine au.ak Tryz.func12 Tryz.ntmps12 fun G F R hE=>?_
 refine go ?_
 refine eQ rfl (go ?_)
 refine bL hE Tryz.func12 rfl _ rfl ⟨rfl,rfl⟩ ag
def Ew(X:HP)(hK:pY X)(ob ot:Nat)(ov:Value)(ia:Option Addr)(ic:Nat)(ra:Option Addr)(rc:Nat)(x:Bl)(hr:bJ x=true)(nb:Nat)(id:Int)(S:sP)(st tb bv kb hb ms mg:Nat)(a:Option Addr)(c pb:Nat)(bd jb mb:Nat)(q:Int)(t:SJ)(tv:Value)(d:Dg)(at_ now:Int)(qD:0≤now∧now≤1099511627776)(Jo:id≠0)(oa:Option Addr)(oc:Nat) :
  au Tryz.prog 12 [ptr ob,ptr nb,.slice oa 1 oc,.int .i64 now] [aB 58 40 (.slice oa 1 oc) 1 (uR d),ae ob (cl (fG ot (.slice ia 1 ic) ov) 66),aB 86 33 (.slice ia 1 ic) 1 (p6 (cw [x]) (.slice ra 1 rc)),aB 77 66 (.slice ra 1 rc) 1 (ck x),ae nb (cl (cy id S st tb bv kb hb (.slice a 1 c) ms mg false) 98),fU kb S.lim S.fC S.bR,aB 118 1 (.slice a 1 c) 1 [ptr pb],qA pb d at_ 0 st bd jb q mb t tb tv,X]
  (fun r H=>(cw [x]≠d∧r = .tuple #[]∧H=[ae ob (cl (fG ot (.slice ia 1 ic) ov) 66),aB 86 33 (.slice ia 1 ic) 1 (p6 (cw [x]) (.slice ra 1 rc)),aB 77 66 (.slice ra 1 rc) 1 (ck x),ae nb (cl (cy id S st tb bv kb hb (.slice a 1 c) ms mg false) 98),fU kb S.lim S.fC S.bR,aB 118 1 (.slice a 1 c) 1 [ptr pb],qA pb d at_ 4 st bd jb q mb t tb tv,X])∨(cw [x]=d∧∃(xb:Nat) (OS:Option Addr) (OQ:Nat),r = .tuple #[]∧H=[ae ob (cl (fG ot (.slice ia 1 ic) ov) 66),aB 86 33 (.slice ia 1 ic) 1 (p6 (cw [x]) (.slice ra 1 rc)),aB 77 66 (.slice ra 1 rc) 1 (ck x),ae nb (cl (cy id S st tb bv kb hb (.slice a 1 c) ms mg false) 98),fU kb S.lim S.fC S.bR,aB 118 1 (.slice a 1 c) 1 [ptr pb],qK pb d xb OS OQ x at_ 0 st bd jb q mb t tb tv,X])):=by
 have sK:=tr hr
 have KN:=mP sK
 have hep:=P3 hr
 have hta:=IP ob ot ov ia ic (cw [x]) d ra rc x sK now qD
 have htn:=Bf nb id S st tb bv kb hb ms mg a c pb bd jb mb q t tv X BB (Cr d) (Md X d) (EF d) rfl now qD Jo at_
 rw[show(Cr d).hash=d from rfl]at htn
 refine au.ak Tryz.func12 Tryz.ntmps12 fun G F R hE=>?_
 refine go ?_
 refine jJ 0 rfl ai ?_
 intro xo oo EW he yn rQ mG
 simp only[Value.slice.injEq,true_and]at he
 obtain⟨rfl,rfl⟩:=he
 refine eQ rfl (go ?_)
 refine bW 0 40 zr zr zr zr zr zr zr zr ai (go ?_)
 refine aP ?_
 refine aQ 0 (0*40+0) zr zr zr mG (Nat.add_assoc _ _ _) zr zr zr (go ?_)
 refine bW 0 40 zr zr zr zr zr zr zr zr ai (go ?_)
 refine cd (U:=aU) (es:=mC BB (JU d)) 0 (0*40+1) zr zr zr mG (Nat.add_assoc _ _ _) (fun j v hj=>by rw[show 0*40+1+j=j+1 by omega];exact hj) zr zr zr ?_
 refine go ?_
 refine aF hta ?_
 rintro _ _ (⟨hd,rfl,rfl⟩|⟨hd,ea,ec,rfl,rfl⟩)
 ·refine go ?_
  refine az zr zr zr bh ?_
  intro b9
  refine go ?_
  refine aO (U:=aU) (l:=mC BB (Cr d)) 0 zr zr zr zr zr zr (go ?_)
  refine aw htn ?_
  refine go ?_
  refine cV rfl (go ?_)
  refine al (H':=ae ob (cl (fG ot (.slice ia 1 ic) ov) 66)::aB 86 33 (.slice ia 1 ic) 1 (p6 (cw [x]) (.slice ra 1 rc))::aB 77 66 (.slice ra 1 rc) 1 (ck x)::ae nb (cl (cy id S st tb bv kb hb (.slice a 1 c) ms mg false) 98)::fU kb S.lim S.fC S.bR::aB 118 1 (.slice a 1 c) 1 [ptr pb]::qA pb d at_ 4 st bd jb q mb t tb tv::X::F) ag ?_
  refine bL hE Tryz.func12 rfl _ rfl (.inl ⟨hd,rfl,rfl⟩) ag
 ·refine Bt 0 rfl ?_
  intro cW fY
  have hbX:ew (Sep [aB 5 1 (.slice ea (dO [x]).length ec) (dO [x]).length (bV (dO [x])),X]) (.slice ea (dO [x]).length ec) (dO [x]):=⟨cW.mono (bn (i:=0) rfl),ea,ec,rfl,fY⟩
  have htm:=Du nb id S st tb bv kb hb ms mg a c pb bd jb mb q t tv (Sep [aB 5 1 (.slice ea (dO [x]).length ec) (dO [x]).length (bV (dO [x])),X]) (hK.mono (bn (H:=[aB 5 1 (.slice ea (dO [x]).length ec) (dO [x]).length (bV (dO [x])),X]) (i:=1) rfl)) (mvB (.slice ea (dO [x]).length ec)) (Mm d (dO [x])) (O0 _ d ea ec (dO [x]) hbX ai) (Iy d (dO [x]) hep ai) rfl x (C5 sK) sK hd now qD Jo at_
  rw[show(Mm d (dO [x])).hash=d from rfl]at htm
  refine go ?_
  refine az zr zr zr bh ?_
  intro b9
  refine aN (H':=ae b9 (cl (mC BB mY.zero) 56)::Sep [aB 5 1 (.slice ea (dO [x]).length ec) (dO [x]).length (bV (dO [x])),X]::ae ob (cl (fG ot (.slice ia 1 ic) ov) 66)::aB 86 33 (.slice ia 1 ic) 1 (p6 (cw [x]) (.slice ra 1 rc))::aB 77 66 (.slice ra 1 rc) 1 (ck x)::ae nb (cl (cy id S st tb bv kb hb (.slice a 1 c) ms mg false) 98)::fU kb S.lim S.fC S.bR::aB 118 1 (.slice a 1 c) 1 [ptr pb]::qA pb d at_ 0 st bd jb q mb t tb tv::F) (ao.trans (H2:=aB 5 1 (.slice ea (dO [x]).length ec) (dO [x]).length (bV (dO [x]))::X::ae b9 (cl (mC BB mY.zero) 56)::ae ob (cl (fG ot (.slice ia 1 ic) ov) 66)::aB 86 33 (.slice ia 1 ic) 1 (p6 (cw [x]) (.slice ra 1 rc))::aB 77 66 (.slice ra 1 rc) 1 (ck x)::ae nb (cl (cy id S st tb bv kb hb (.slice a 1 c) ms mg false) 98)::fU kb S.lim S.fC S.bR::aB 118 1 (.slice a 1 c) 1 [ptr pb]::qA pb d at_ 0 st bd jb q mb t tb tv::F) ag ((ao.bK [_,_] _).trans ag)) (go ?_)
  refine aO (U:=aU) (l:=mC (mvB (.slice ea (dO [x]).length ec)) (Mm d (dO [x]))) 0 zr zr zr zr zr zr (go ?_)
  refine aF htm ?_
  rintro _ _⟨xb,OS,OQ,rfl,rfl⟩
  refine go ?_
  refine cV rfl (go ?_)
  refine al (ao.trans (H2:=Sep [aB 5 1 (.slice ea (dO [x]).length ec) (dO [x]).length (bV (dO [x])),X]::ae ob (cl (fG ot (.slice ia 1 ic) ov) 66)::aB 86 33 (.slice ia 1 ic) 1 (p6 (cw [x]) (.slice ra 1 rc))::aB 77 66 (.slice ra 1 rc) 1 (ck x)::ae nb (cl (cy id S st tb bv kb hb (.slice a 1 c) ms mg false) 98)::fU kb S.lim S.fC S.bR::aB 118 1 (.slice a 1 c) 1 [ptr pb]::qK pb d xb OS OQ x at_ 0 st bd jb q mb t tb tv::F) ag ((ao.bY [_,_] _).trans ag)) (H':=ae ob (cl (fG ot (.slice ia 1 ic) ov) 66)::aB 86 33 (.slice ia 1 ic) 1 (p6 (cw [x]) (.slice ra 1 rc))::aB 77 66 (.slice ra 1 rc) 1 (ck x)::ae nb (cl (cy id S st tb bv kb hb (.slice a 1 c) ms mg false) 98)::fU kb S.lim S.fC S.bR::aB 118 1 (.slice a 1 c) 1 [ptr pb]::qK pb d xb OS OQ x at_ 0 st bd jb q mb t tb tv::X::F) ?_
  refine bL hE Tryz.func12 rfl _ rfl (.inr ⟨hd,xb,OS,OQ,rfl,rfl⟩) ag
end Go.Proofs.YtlcoaflddajjcaaGreatDoor
namespace Go.Proofs.YtlcoaflddajjcaaGreatDoor
open Go Go.SL
def qI(pb:Nat)(d:Dg)(ib:Value)(at_ f:Int)(st bd jb:Nat)(q:Int)(mb:Nat)(t:SJ)(tb:Nat)(tv:Value):HP:=Sep (ae pb (cl (gy d ib at_ f) 117)::da st bd jb q mb [] t::fq tb st jb tv [] false)
attribute [local irreducible] J K au Ends ae aB aI bB aW aS a7 aX bF aC da bQ fU bC kx
section
variable(nb:Nat)(id:Int)(S:sP)(st tb bv kb hb ms mg:Nat)(bd jb mb:Nat)(q:Int)(t:SJ)(tv:Value)
def abA(pb:Nat)(d:Dg)(xb:Nat)(ra:Option Addr)(rc:Nat)(x:Bl)(at_ f:Int)(F:List HP):ao (qK pb d xb ra rc x at_ f st bd jb q mb t tb tv::F) (qI pb d (ptr xb) at_ f st bd jb q mb t tb tv::F):=by
 unfold qK qI fq
 exact(ao.bY _ _).trans (ao.trans (H2:=ae pb (cl (gy d (ptr xb) at_ f) 117)::da st bd jb q mb [] t::ae tb (cl [ptr st,ptr jb,tv,.bool false] 156)::aB 158 1 tv ([]:List Tk).length (([]:List Tk).map df)::bC []::F) ag (ao.bK [_,_,_,_,_] _))
def Kb(hQ:QD t)(d:Dg):au Tryz.prog 10 [ptr nb,dV d] [ae nb (cl (cy id S st tb bv kb hb (.slice none 0 0) ms mg false) 98),da st bd jb q mb [] t,ae tb (cl [ptr st,ptr jb,tv,.bool false] 156),aB 158 1 tv ([]:List Tk).length (([]:List Tk).map df),bC [] ]
  (fun r H=>∃(a:Option Addr) (c pb:Nat),r = .int .i64 0∧H=[ae nb (cl (cy id S st tb bv kb hb (.slice a 1 c) ms mg false) 98),aB 118 1 (.slice a 1 c) 1 [ptr pb],qI pb d (.pointer none) (-1) 0 st bd jb q mb t tb tv]):=by
 refine((zZ nb id S st tb bv kb hb ms mg bd q mb t.1.brk t.1.A d (hQ.nil.YE d)).frame [aI dV mb (du t.1.cq),kx jb bd gm t.2,ae tb (cl [ptr st,ptr jb,tv,.bool false] 156),aB 158 1 tv ([]:List Tk).length (([]:List Tk).map df),bC [] ]).conv ?_ ?_
 ·exact ao.trans (H2:=da st bd jb q mb [] t::ae nb (cl (cy id S st tb bv kb hb (.slice none 0 0) ms mg false) 98)::ae tb (cl [ptr st,ptr jb,tv,.bool false] 156)::aB 158 1 tv ([]:List Tk).length (([]:List Tk).map df)::bC []::[]) ag ((uI st bd jb q mb t _).trans ag)
 ·rintro r H⟨H',⟨⟨a,c,pb,d'⟩,rfl,rfl,rfl⟩,rfl⟩
  refine⟨_,⟨a,c,pb,rfl,rfl⟩,?_⟩
  refine ao.trans (H2:=ae st (cl (dg bd q mb t.1.brk) 146)::aI dV mb (du t.1.cq)::aC bd t.1.A::kx jb bd gm t.2::Qx (some ⟨a,c,pb,d'⟩)::ae nb (cl (cy id S st tb bv kb hb (IH (some ⟨a,c,pb,d'⟩)) ms mg false) 98)::ae tb (cl [ptr st,ptr jb,tv,.bool false] 156)::aB 158 1 tv ([]:List Tk).length (([]:List Tk).map df)::bC []::[]) ag ((zV st bd jb q mb t _).trans ?_)
  refine ao.trans (H2:=Qx (some ⟨a,c,pb,d'⟩)::da st bd jb q mb [] t::ae nb (cl (cy id S st tb bv kb hb (IH (some ⟨a,c,pb,d'⟩)) ms mg false) 98)::ae tb (cl [ptr st,ptr jb,tv,.bool false] 156)::aB 158 1 tv ([]:List Tk).length (([]:List Tk).map df)::bC []::[]) ag ((ao.part (aB 118 1 (.slice a 1 c) 1 [ptr pb]) (ae pb (cl (G0 d' (-1)) 117)) _).trans ?_)
  unfold qI fq
  refine ao.trans (H2:=ae pb (cl (gy d' (.pointer none) (-1) 0) 117)::da st bd jb q mb [] t::ae tb (cl [ptr st,ptr jb,tv,.bool false] 156)::aB 158 1 tv ([]:List Tk).length (([]:List Tk).map df)::bC []::aB 118 1 (.slice a 1 c) 1 [ptr pb]::ae nb (cl (cy id S st tb bv kb hb (.slice a 1 c) ms mg false) 98)::[]) ag ((ao.bK [_,_,_,_,_] _).trans ag)
def o8(hQ:QD t)(a:Option Addr)(c pb:Nat)(d:Dg)(ib:Value)(at_ f:Int):au Tryz.prog 13 [ptr nb,dV d] [ae nb (cl (cy id S st tb bv kb hb (.slice a 1 c) ms mg false) 98),aB 118 1 (.slice a 1 c) 1 [ptr pb],qI pb d ib at_ f st bd jb q mb t tb tv]
  (fun r H=>r=(if f=0 then .tuple #[.int .i64 1,.int .i64 0]else .tuple #[.int .i64 0,.int .i64 f])∧H=[ae nb (cl (cy id S st tb bv kb hb (.slice a 1 c) ms mg false) 98),aB 118 1 (.slice a 1 c) 1 [ptr pb],qI pb d ib at_ f st bd jb q mb t tb tv]):=by
 refine((Dv nb id S st tb bv kb hb ms mg false a c pb d ib at_ f bd q mb t.1.brk t.1.A (hQ.nil.YE d)).frame [aI dV mb (du t.1.cq),kx jb bd gm t.2,ae tb (cl [ptr st,ptr jb,tv,.bool false] 156),aB 158 1 tv ([]:List Tk).length (([]:List Tk).map df),bC [] ]).conv ?_ ?_
 ·unfold qI fq
  refine ao.trans (H2:=Sep [ae pb (cl (gy d ib at_ f) 117),da st bd jb q mb [] t,ae tb (cl [ptr st,ptr jb,tv,.bool false] 156),aB 158 1 tv ([]:List Tk).length (([]:List Tk).map df),bC [] ]::ae nb (cl (cy id S st tb bv kb hb (.slice a 1 c) ms mg false) 98)::aB 118 1 (.slice a 1 c) 1 [ptr pb]::[]) ag ((ao.bY _ _).trans ?_)
  exact ao.trans (H2:=da st bd jb q mb [] t::ae pb (cl (gy d ib at_ f) 117)::ae tb (cl [ptr st,ptr jb,tv,.bool false] 156)::aB 158 1 tv ([]:List Tk).length (([]:List Tk).map df)::bC []::ae nb (cl (cy id S st tb bv kb hb (.slice a 1 c) ms mg false) 98)::aB 118 1 (.slice a 1 c) 1 [ptr pb]::[]) ag ((uI st bd jb q mb t _).trans ag)
 ·rintro r H⟨H',⟨rfl,rfl⟩,rfl⟩
  refine⟨_,⟨rfl,rfl⟩,?_⟩
  unfold qI fq
  refine ao.trans (H2:=ae st (cl (dg bd q mb t.1.brk) 146)::aI dV mb (du t.1.cq)::aC bd t.1.A::kx jb bd gm t.2::ae pb (cl (gy d ib at_ f) 117)::ae tb (cl [ptr st,ptr jb,tv,.bool false] 156)::aB 158 1 tv ([]:List Tk).length (([]:List Tk).map df)::bC []::ae nb (cl (cy id S st tb bv kb hb (.slice a 1 c) ms mg false) 98)::aB 118 1 (.slice a 1 c) 1 [ptr pb]::[]) ag ((zV st bd jb q mb t _).trans ?_)
  exact ao.trans (H2:=ae pb (cl (gy d ib at_ f) 117)::da st bd jb q mb [] t::ae tb (cl [ptr st,ptr jb,tv,.bool false] 156)::aB 158 1 tv ([]:List Tk).length (([]:List Tk).map df)::bC []::ae nb (cl (cy id S st tb bv kb hb (.slice a 1 c) ms mg false) 98)::aB 118 1 (.slice a 1 c) 1 [ptr pb]::[]) ag ((ao.bK [_,_,_,_,_] _).trans ag)
def yC(hQ:QD t)(a:Option Addr)(c pb:Nat)(d:Dg)(ib:Value)(at_ f:Int)(hf:f≠0):au Tryz.prog 10 [ptr nb,dV d] [ae nb (cl (cy id S st tb bv kb hb (.slice a 1 c) ms mg false) 98),aB 118 1 (.slice a 1 c) 1 [ptr pb],qI pb d ib at_ f st bd jb q mb t tb tv]
  (fun r H=>∃(a':Option Addr) (c' rG:Nat),r = .int .i64 0∧H=[ae nb (cl (cy id S st tb bv kb hb (.slice a' 1 c') ms mg false) 98),aB 118 1 (.slice a' 1 c') 1 [ptr rG],qI rG d (.pointer none) (-1) 0 st bd jb q mb t tb tv]):=by
 refine((Kc nb id S st tb bv kb hb ms mg a c pb d ib at_ f hf bd q mb t.1.brk t.1.A (hQ.nil.YE d)).frame [aI dV mb (du t.1.cq),kx jb bd gm t.2,ae tb (cl [ptr st,ptr jb,tv,.bool false] 156),aB 158 1 tv ([]:List Tk).length (([]:List Tk).map df),bC [] ]).conv ?_ ?_
 ·unfold qI fq
  refine ao.trans (H2:=Sep [ae pb (cl (gy d ib at_ f) 117),da st bd jb q mb [] t,ae tb (cl [ptr st,ptr jb,tv,.bool false] 156),aB 158 1 tv ([]:List Tk).length (([]:List Tk).map df),bC [] ]::ae nb (cl (cy id S st tb bv kb hb (.slice a 1 c) ms mg false) 98)::aB 118 1 (.slice a 1 c) 1 [ptr pb]::[]) ag ((ao.bY _ _).trans ?_)
  exact ao.trans (H2:=da st bd jb q mb [] t::ae pb (cl (gy d ib at_ f) 117)::ae tb (cl [ptr st,ptr jb,tv,.bool false] 156)::aB 158 1 tv ([]:List Tk).length (([]:List Tk).map df)::bC []::ae nb (cl (cy id S st tb bv kb hb (.slice a 1 c) ms mg false) 98)::aB 118 1 (.slice a 1 c) 1 [ptr pb]::[]) ag ((uI st bd jb q mb t _).trans ag)
 ·rintro r H⟨H',⟨a',c',rG,rfl,rfl⟩,rfl⟩
  refine⟨_,⟨a',c',rG,rfl,rfl⟩,?_⟩
  unfold qI fq
  refine ao.trans (H2:=ae st (cl (dg bd q mb t.1.brk) 146)::aI dV mb (du t.1.cq)::aC bd t.1.A::kx jb bd gm t.2::ae rG (cl (gy d (.pointer none) (-1) 0) 117)::ae tb (cl [ptr st,ptr jb,tv,.bool false] 156)::aB 158 1 tv ([]:List Tk).length (([]:List Tk).map df)::bC []::ae nb (cl (cy id S st tb bv kb hb (.slice a' 1 c') ms mg false) 98)::aB 118 1 (.slice a' 1 c') 1 [ptr rG]::[]) ag ((zV st bd jb q mb t _).trans ?_)
  exact ao.trans (H2:=ae rG (cl (gy d (.pointer none) (-1) 0) 117)::da st bd jb q mb [] t::ae tb (cl [ptr st,ptr jb,tv,.bool false] 156)::aB 158 1 tv ([]:List Tk).length (([]:List Tk).map df)::bC []::ae nb (cl (cy id S st tb bv kb hb (.slice a' 1 c') ms mg false) 98)::aB 118 1 (.slice a' 1 c') 1 [ptr rG]::[]) ag ((ao.bK [_,_,_,_,_] _).trans ag)
end
end Go.Proofs.YtlcoaflddajjcaaGreatDoor
namespace Go.Proofs.YtlcoaflddajjcaaGreatDoor
open Go Go.SL
structure Rt where
 id:Int
 xZ:Int
 w:Bool
deriving DecidableEq
instance:Inhabited Rt:=⟨⟨0,0,false⟩⟩
def rC(x:Rt):List Value:=[.int .i64 x.id,.int .i64 x.xZ,.bool x.w]
def gw(x:Rt):(rC x).length=3:=rfl
def cfR(x y:Rt):Int:=L1 [p' y.xZ x.xZ,p' x.id y.id]
def OY(x:Rt):Bool:=decide (x.id<1) || decide (65536<x.id) || decide (x.xZ<0) || decide (1099511627776<x.xZ)
attribute [local irreducible] J K au Ends ae aB aI bB aW aS a7 aX bF
def D4(x:Rt):au Tryz.prog 269 [.agg (rC x).toArray] [] (fun r H=>r = .bool (!x.w)∧H=[]):=by
 refine au.ak Tryz.func269 Tryz.ntmps269 fun G F R hE=>?_
 refine aD rfl ?_
 refine bu zr zr bh ?_
 intro bx
 refine go ?_
 refine ad hE Tryz.func269 zr zr ⟨rfl,rfl⟩
def EI(x:Rt):au Tryz.prog 361 [.agg (rC x).toArray] [] (fun r H=>r = .bool (OY x)∧H=[]):=by
 refine au.ak Tryz.func361 Tryz.ntmps361 fun G F R hE=>?_
 refine aD rfl ?_
 refine bu zr zr bh ?_
 intro bx
 repeat'(first|(with_reducible intro jg)|refine er ?_|refine dP zr zr zr zr ?_ ?_|fail)
 all_goals((refine ad hE Tryz.func361 zr zr ⟨congrArg Value.bool (by(rw[Bool.eq_iff_iff];simp[OY];omega)),rfl⟩))
def D3(x y:Rt):au Tryz.prog 271 [.agg (rC x).toArray,.agg (rC y).toArray] [] (fun r H=>r = .int .i64 (cfR x y)∧H=[]):=by
 refine au.ak Tryz.func271 Tryz.ntmps271 fun G F R hE=>?_
 refine aD rfl ?_
 refine bu zr zr bh ?_
 intro bx
 refine bu zr zr bh ?_
 intro xZ
 refine go ?_
 refine aL (fun w=>Sat G w ([ae bx (cl (bt (Value.agg (rC x).toArray)) 191),ae xZ (cl (bt (Value.agg (rC y).toArray)) 191)])) (cJ 0 4 (cJ 5 4 (.act 4 (.act 9 (.act 10 (.act 11 (.st 12 .nil))))))) rfl ah ah ah dv ?_
 refine go ?_
 refine bE (uL y.xZ x.xZ) ?_
 refine go ?_
 refine bE (uL x.id y.id) ?_
 refine go ?_
 refine aj (cs:=iV [p' y.xZ x.xZ,p' x.id y.id]) zr zr zr zr zr zr zr zr zr (fun _ w hw=>hw.cu ag) ?_
 intro b
 refine go ?_
 refine bE (ZV _ _ [p' y.xZ x.xZ,p' x.id y.id] (Vw.ae rfl) (by simp)) ?_
 refine go ?_
 refine ad hE Tryz.func271 zr zr ⟨rfl,rfl⟩
def rV(l:List Rt):List Value:=l.flatMap rC
def oA(l:List Rt):rV l=l.flatMap rC:=rfl
def AA(l:List Rt):(rV l).length=l.length*3:=bT gw l
def Yu(l:List Rt):∀v∈rV l,v.oneCell'=true:=by
 intro v hv
 obtain⟨x,_,h⟩:=List.mem_flatMap.1 hv
 simp[rC]at h
 rcases h with rfl|rfl|rfl <;> rfl
def sC(A X:HP)(v:Value)(l:List Rt)(hv:Vw A v l.length (rV l))(hlen:l.length≤1000000000)(g:FuncId)(cap:List Value)(p:Rt→Bool)(hf:∀x∈l,au Tryz.prog g (.agg (rC x).toArray::cap) [X] (fun v H=>v = .bool (p x)∧H=[X])) :
  au Tryz.prog 363 [v,.func (.func g) #[] cap.toArray] [A,X] (fun r H=>r = .int .i64 (gM p l)∧H=[A,X]):=by
 obtain⟨a,c0,rfl⟩:=hv.shape
 refine au.enter Tryz.func363 ah rfl Tryz.ntmps363 zr zr ?_
 intro G F R hR
 refine go ?_
 refine bj (fun i:Nat=>i≤l.length∧∀y∈l.take i,p y=false) (fun i=>l.length-i) (fun i=>[(0,.slice a l.length c0),(1,.func (.func g) #[] cap.toArray),(7,.int .i64 l.length),(8,.int .i64 i)]) (fun _=>[A,X]++F) 0 ⟨by simp,by simp⟩ rfl bS (ao.refl _) ?_
 rintro i⟨hi,hb⟩ ih
 refine go ?_
 refine aq zr zr ?_ ?_
 ·intro cL
  refine go ?_
  have dA:i<l.length:=by omega
  have hx:l[i]?=some l[i]:=by simp[dA]
  generalize YN:l[i]=x at hx
  obtain⟨b,o,eY,dL⟩:=hv.some (by rw[← List.length_pos_iff,oA,bT gw];omega)
  simp only[Value.slice.injEq]at dL
  obtain⟨rfl,_,rfl⟩:=dL
  refine bW i 3 zr zr zr zr zr zr zr zr dA ?_
  refine cd (U:=aU) (es:=rC x) 0 (i*3) zr zr zr hv rfl (fun j v hj=>?_) zr zr zr ?_
  ·have BE:j<3:=by
    rcases Nat.lt_or_ge j 3 with h|h
    ·exact h
    ·rw[List.getElem?_eq_none (by rw[gw];exact h)]at hj;cases hj
   rw[oA,cM gw hx j BE];exact hj
  refine cg [1] zr zr zr zr (hf x (List.mem_of_getElem? hx)) rfl jk ?_
  rintro _ _⟨rfl,rfl⟩
  refine go ?_
  refine dY zr zr ?_ ?_
  ·intro hp
   refine go ?_
   refine aK hR Tryz.func363 rfl _ rfl ⟨by rw[gL hx hp hb];rfl,rfl⟩ (ao.fin [1,0] 0 zr zr)
  ·intro hp
   refine go ?_
   refine aM ih (i+1) rfl ⟨ai,kC hb hx hp⟩ ai bS (ao.pick [1,0] rfl)
 ·intro ep
  refine go ?_
  have:i=l.length:=by omega
  subst this
  refine aK hR Tryz.func363 rfl _ rfl ⟨by rw[iF (fun x hx=>hb x (by simpa using hx))];rfl,rfl⟩ (ao.fin [0,1] 0 zr zr)
def yI(v:Value)(l:List Rt)(X:HP)(g:FuncId)(cap:List Value)(p:Rt→Bool)(hlen:l.length≤1000000000)(hf:∀x∈l,au Tryz.prog g (.agg (rC x).toArray::cap) [X] (fun v H=>v = .bool (p x)∧H=[X])) :
  au Tryz.prog 267 [v,.func (.func g) #[] cap.toArray] [aB 191 3 v l.length (rV l),X]
   (fun r H=>H=[aB 191 3 r (l.filter fun x => !p x).length (rV (l.filter fun x => !p x)),X]):=by
 refine au.ak Tryz.func267 Tryz.ntmps267 fun G F R hE=>?_
 refine db 0 rfl ?_
 rintro a0 c rfl
 refine go ?_
 refine dH 0 rfl ?_
 intro hv
 refine cg [0,1] zr zr zr zr (sC _ X _ l hv hlen g cap p hf) rfl jk ?_
 rintro _ _⟨rfl,rfl⟩
 refine go ?_
 refine aq zr zr ?_ ?_
 ·intro h0
  have lC:l.any p=false:=jQ.1 ai
  have sM:(l.filter fun x => !p x)=l:=List.filter_eq_self.2 fun x hx=>by
   have:=List.any_eq_false.1 lC x hx
   simpa using this
  rw[sM]at hE
  refine go ?_
  refine aK hE Tryz.func267 rfl _ zr zr (ao.fin [0,1] 0 zr zr)
 ·intro h0
  obtain⟨i0,x0,Ea,YQ,Fs,zz⟩:=qB h0
  have acg:i0<l.length:=by
   rcases Nat.lt_or_ge i0 l.length with h|h
   ·exact h
   ·rw[List.getElem?_eq_none h]at YQ;cases YQ
  rw[Ea]
  refine go ?_
  refine qO (fun a mU hn _=>by omega) ?_
  rintro b o c' pre junk sI j8 hnc fY mX
  simp only[Value.slice.injEq,true_and]at sI
  obtain⟨rfl,rfl⟩:=sI
  have h1:l.take (i0+1)=l.take i0++[x0]:=by rw[List.take_add_one,YQ];rfl
  have Ec:(l.take i0).filter (fun x => !p x)=l.take i0:=List.filter_eq_self.2 fun x hx=>by simp[zz x hx]
  refine bj (fun s:Nat × Nat × List Rt=>s.1<s.2.1∧s.2.1≤l.length∧s.2.2.length=l.length∧s.2.2.take s.1=(l.take s.2.1).filter (fun x => !p x)∧s.2.2.drop s.2.1=l.drop s.2.1) (fun s=>l.length-s.2.1)
   (fun s=>[(0,.slice (some ⟨b,o,none⟩) l.length c),(1,.func (.func g) #[] cap.toArray),(5,.int .i64 s.1),(6,.int .i64 s.2.1)])
   (fun s=>ae b (cl (pre++rV s.2.2++junk) 191)::X::F) (i0,i0+1,l) ⟨by simp,by simp only;omega,rfl,by simp only[h1,List.filter_append,Ec];simp[Fs],rfl⟩ rfl bS (ao.refl _) ?_
  rintro⟨i,j,E⟩⟨Jn,KK,Ed,uD,HB⟩ ih
  simp only at Jn KK Ed uD HB
  have ir:(rV E).length=l.length*3:=by rw[oA,bT gw,Ed]
  have hvE:Vw (ae b (cl (pre++rV E++junk) 191)) (.slice (some ⟨b,o,none⟩) l.length c) l.length (rV E):=Vw.ae (by rw[List.append_assoc,← j8,List.drop_left,List.take_left])
  refine go ?_
  refine aq zr zr ?_ ?_
  ·intro cL
   simp only at cL
   have p8:j<l.length:=by omega
   obtain⟨x,hx⟩:∃x,l[j]?=some x:=⟨l[j],by simp[p8]⟩
   have hEx:E[j]?=some x:=by
    have:=congrArg (·[0]?) HB
    simp only[List.getElem?_drop,Nat.add_zero]at this
    rw[this];exact hx
   have eR:=List.mem_of_getElem? hx
   have PA:=hf _ eR
   refine go ?_
   refine bW j 3 zr zr zr zr zr zr zr zr p8 ?_
   refine cd (U:=aU) (es:=rC x) 0 (j*3) zr zr zr hvE rfl (fun q v hq=>?_) zr zr zr ?_
   ·have BE:q<3:=by
     rcases Nat.lt_or_ge q 3 with h|h
     ·exact h
     ·rw[List.getElem?_eq_none (by rw[gw];exact h)]at hq;cases hq
    rw[oA,cM gw hEx q BE];exact hq
   refine az zr zr zr bh ?_
   intro bv
   refine go ?_
   refine bP 0 zr zr zr zr zr zr ?_
   refine cg [2] zr zr zr zr (PA) rfl jk ?_
   rintro _ _⟨rfl,rfl⟩
   refine go ?_
   refine dY zr zr ?_ ?_
   ·intro hp
    have qX:p x=false:=by simpa using hp
    refine go ?_
    refine bP 1 zr zr zr zr zr zr (go ?_)
    refine bW i 3 zr zr zr zr zr zr zr zr ai ?_
    refine lr (U:=aU) (l':=pre++rV (E.set i x)++junk) 2 e8 zr zr zr zr zr zr zr ?_ ?_ rfl ?_
    ·show o+i*3+3≤_
     rw[List.length_append,List.length_append,ir];omega
    ·show _=List.take (o+i*3) (pre++rV E++junk)++rC x++List.drop (o+i*3+(rC x).length) (pre++rV E++junk)
     rw[← j8,qp _ _ _ _ _ (by rw[gw,ir];omega),oA,zL gw ai]
     rfl
    refine go ?_
    refine aM ih (i+1,j+1,E.set i x) rfl ⟨by simp only;omega,by simp only;omega,by simp only[List.length_set];exact Ed,?_,?_⟩ (by simp only;omega) bS (ao.to [2,0] 1 zr zr zr)
    ·simp only
     rw[List.take_add_one,List.take_set_of_le (Nat.le_refl i),uD,List.take_add_one (l:=l),hx,List.getElem?_set_self ai]
     simp[List.filter_append,qX]
    ·simp only
     rw[List.drop_set_of_lt ai,← List.drop_drop,HB,List.drop_drop]
   ·intro hp
    have qX:p x=true:=by simpa using hp
    refine go ?_
    refine aM ih (i,j+1,E) rfl ⟨by simp only;omega,by simp only;omega,Ed,by simp only;rw[uD,List.take_add_one,hx];simp[List.filter_append,qX],by simp only;rw[← List.drop_drop,HB,List.drop_drop]⟩ (by simp only;omega) bS (ao.to [2,0] 1 zr zr zr)
  ·intro ep
   refine go ?_
   simp only at ep
   have QX:j=l.length:=by omega
   subst QX
   rw[List.take_length]at uD
   have wG:(l.filter fun x => !p x).length=i:=by rw[← uD,List.length_take];omega
   refine iH zr zr zr zr zr zr zr ai ai (.inl rfl) ?_
   intro o1 Hi KJ
   simp only[Int.toNat_natCast]at Hi KJ
   have CM:i≠c→o1=o+i*3:=Hi
   have hL:(pre++rV E++junk).length=o+l.length*3+junk.length:=by rw[List.length_append,List.length_append,ir,j8]
   obtain⟨k7,CS,ab9⟩:∃k7,(pre++rV E++junk).take o1++(List.replicate (((l.length:Int).toNat-(i:Int).toNat)) [Value.int .i64 0,.int .i64 0,.bool false]).flatten++(pre++rV E++junk).drop (o1+((l.length:Int).toNat-(i:Int).toNat)*3)=pre++rV (E.take i)++k7∧c*3≤i*3+k7.length:=by
    have MX:i≠c:=by omega
    rw[CM MX,← j8,List.append_assoc pre,List.take_length_add_append,List.take_append_of_le_length (by rw[ir];omega),oA,oA,qH gw E i ai]
    refine⟨_,by rw[List.append_assoc],?_⟩
    rw[List.length_append,List.length_drop,iZ]
    simp only[List.length_append,List.length_cons,List.length_nil,bT gw,Ed,Int.toNat_natCast]
    have:=mX
    omega
   refine vo (U:=aU) (l':=pre++rV (E.take i)++k7) 0 e8 zr zr zr zr zr zr zr zr ?_ ?_ rfl ?_
   ·have MX:i≠c:=by omega
    show o1+((l.length:Int).toNat-(i:Int).toNat)*3≤_
    rw[CM MX,hL];omega
   ·rw[← CS];rfl
   refine go ?_
   refine iH zr zr zr zr zr zr zr ai ai (.inr ai) ?_
   intro o2 ho3 ho4
   have MO:o2=o:=by
    by_cases M5:(0:Int).toNat=c
    ·exact ho4 M5
    ·have:=ho3 M5;rw[this];simp
   subst MO
   refine go ?_
   refine al (gq (sz:=3) (nn:=i) (c:=c) j8 ai (by rw[oA,bT gw,List.length_take];omega) (by rw[oA,bT gw,List.length_take];omega) _) ?_
   rw[← uD,uD,wG,← uD]at hE
   refine aK hE Tryz.func267 rfl _ zr zr (ao.fin [0,1] 0 zr zr)
def N8(A:HP)(v:Value)(W:List Rt)(hv:Vw A v W.length (rV W))(hlen:W.length≤1000000000) :
  au Tryz.prog 268 [v] [A] (fun r H=>H=[aB 191 3 r W.length (rV W),A]):=by
 obtain⟨a,c0,rfl⟩:=hv.shape
 cases a with
 | none =>
  have hb:W=[]:=by
   obtain⟨a,cap,h1,h2|⟨b,o,h2,_⟩⟩:=hv
   ·have:=congrArg List.length h2
    rw[AA]at this
    exact List.eq_nil_of_length_eq_zero (by simp at this;omega)
   ·simp only[Value.slice.injEq]at h1;rw[← h1.1]at h2;cases h2
  subst hb
  refine au.enter Tryz.func268 ah rfl Tryz.ntmps268 zr zr ?_
  intro G F R hR
  refine go ?_
  have he:c0=c0:=rfl
  refine al (bg 191 3 none _) ?_
  refine aK hR Tryz.func268 rfl _ zr zr (ao.fin [0,1] 0 zr zr)
 | some a =>
  refine au.enter Tryz.func268 ah rfl Tryz.ntmps268 zr zr ?_
  intro G F R hR
  refine go ?_
  refine aj (cs:=[]) zr zr zr zr zr zr zr zr zr bh ?_
  intro b0
  refine go ?_
  refine aN (ef 191 3 b0 0 0 [] [] _ rfl (Nat.le_refl _) (by simp)) ?_
  refine aJ (mm:=W.length) (news:=rV W) 0 1 zr zr zr zr zr zr zr zr zr zr zr zr hv (by rw[AA];rfl) (Yu W) ai (by show _*24≤_;omega) (fun _=>rfl) bh ?_
  intro v'
  have e1:(0:Nat)+W.length=W.length:=by omega
  rw[e1,List.nil_append]
  refine go ?_
  refine aK hR Tryz.func268 rfl _ zr zr (ao.fin [0,1] 0 zr zr)
def uV(A X:HP)(v:Value)(l:List Rt)(hv:Vw A v l.length (rV l))(hlen:l.length≤1000000000)(g:FuncId)(cap:List Value)(p:Rt→Bool)(hf:∀x∈l,au Tryz.prog g (.agg (rC x).toArray::cap) [X] (fun v H=>v = .bool (p x)∧H=[X])) :
  au Tryz.prog 362 [v,.func (.func g) #[] cap.toArray] [A,X] (fun r H=>r = .bool (l.any p)∧H=[A,X]):=by
 refine au.ak Tryz.func362 Tryz.ntmps362 fun G F R hE=>?_
 refine go ?_
 refine aw (sC A X v l hv hlen g cap p hf) ?_
 refine go ?_
 refine bq 4 ((.bool (l.any p))) rfl ((congrArg Value.bool (u0 p l))) ?_
 refine ad hE Tryz.func362 zr zr ⟨rfl,rfl⟩
end Go.Proofs.YtlcoaflddajjcaaGreatDoor
namespace Go.Proofs.YtlcoaflddajjcaaGreatDoor
open Go Go.SL
def BV(l:List Int):List (Int × Value):=l.foldl (fun es k=>jG es k (.bool true)) []
def uX(l:List Int)(x:Int):BV (l++[x])=jG (BV l) x (.bool true):=by simp[BV]
def zQ(es:List (Int × Value))(k:Int)(v:Value):(jG es k v).map (·.1)=if k∈es.map (·.1)then es.map (·.1)else es.map (·.1)++[k]:=by
 unfold jG
 split
 ·rw[List.map_map]
  apply List.map_congr_left
  intro x hx
  simp only[Function.comp]
  split
  ·rename_i h;rw[h]
  ·rfl
 ·simp
def Aw{p:List Int→Prop}(h0:p [])(h1:∀l x,p l→p (l++[x]))(l:List Int):p l:=by
 have:∀m:List Int,p m.reverse:=by
  intro m
  induction m with
  | nil=>exact h0
  | cons x m ih=>rw[List.reverse_cons];exact h1 _ _ ih
 have h2:=this l.reverse
 rwa[List.reverse_reverse]at h2
def OC(l:List Int)(k:Int):k∈(BV l).map (·.1)↔k∈l:=by
 induction l using Aw with
 | h0=>simp[BV]
 | h1 l x ih =>
  rw[uX,zQ]
  split
  ·rename_i h
   rw[ih,List.mem_append,List.mem_singleton]
   constructor
   ·exact .inl
   ·rintro(h2|rfl)
    ·exact h2
    ·exact(by have:=h;revert this;induction l using Aw with|h0=>simp[BV]|h1=>exact fun h=>ih.1 h)
  ·rw[List.mem_append,List.mem_append,ih]
def OD(l:List Int):(BV l).length≤l.length∧((BV l).length=l.length↔l.Nodup):=by
 induction l using Aw with
 | h0=>simp[BV]
 | h1 l x ih =>
  have hm:=OC l x
  have hl:(BV (l++[x])).length=if x∈l then(BV l).length else(BV l).length+1:=by
   have h:=congrArg List.length (zQ (BV l) x (.bool true))
   rw[List.length_map]at h
   rw[uX,h]
   by_cases hx:x∈l
   ·rw[if_pos (hm.2 hx),if_pos hx,List.length_map]
   ·rw[if_neg (fun h=>hx (hm.1 h)),if_neg hx,List.length_append,List.length_map];rfl
  rw[hl,List.length_append,List.length_singleton,List.nodup_append]
  by_cases hx:x∈l
  ·rw[if_pos hx]
   refine⟨ai,⟨fun h=>by omega,fun h=>?_⟩⟩
   exact absurd rfl (h.2.2 x hx x (by simp))
  ·rw[if_neg hx]
   refine⟨ai,⟨fun h=>⟨ih.2.1 ai,by simp,?_⟩,fun h=>by have:=ih.2.2 h.1;omega⟩⟩
   rintro a ha b hb rfl
   simp at hb
   subst hb
   exact hx ha
def gh(l:List Rt):Int:=if 64<l.length∨l.any OY=true then 1 else if(l.map Rt.id).Nodup then 0 else 5
attribute [local irreducible] J K au Ends ae aB aI bB aW aS a7 aX bF
def zN(v:Value)(l:List Int)(hl:l.length≤1000000000):au Tryz.prog 154 [v] [aB 3 1 v l.length (iV l)] (fun r H=>r = .tuple #[]∧H=[aB 3 1 v l.length (iV (hJ l))]):=tQ v l hl
def Ha(A:HP)(v:Value)(l:List Rt)(hv:Vw A v l.length (rV l))(hl:l.length≤1000000) :
  au Tryz.prog 274 [v] [A] (fun r H=>H=[aB 3 1 r l.length (iV (hJ (l.map Rt.id))),A]):=by
 obtain⟨a,c0,rfl⟩:=hv.shape
 refine au.ak Tryz.func274 Tryz.ntmps274 fun G F R hE=>?_
 refine go ?_
 refine al (bg 3 1 none _) ?_
 refine bj (fun y:Value × Nat=>y.2≤l.length) (fun y=>l.length-y.2) (fun y=>[(3,y.1),(6,.slice a l.length c0),(7,.int .i64 l.length),(8,.int .i64 (y.2:Int))]) (fun y=>aB 3 1 y.1 y.2 (iV ((l.take y.2).map Rt.id))::A::F) (.slice none 0 0,0) (Nat.zero_le _) rfl bS ag ?_
 rintro⟨w,i⟩ hi ih
 simp only at hi
 refine db 0 rfl ?_
 intro wa wc hw
 simp only at hw
 subst hw
 simp only
 refine go ?_
 refine aq zr zr ?_ ?_
 ·intro cL
  have dA:i<l.length:=by omega
  obtain⟨x,hx⟩:∃x,l[i]?=some x:=⟨l[i],by simp[dA]⟩
  obtain⟨b,o,c',he⟩:=hv.some (by intro e;have:=congrArg List.length e;rw[AA]at this;simp at this;omega)
  simp only[Value.slice.injEq,true_and]at he
  obtain⟨rfl,rfl⟩:=he
  refine go ?_
  refine bW i 3 zr zr zr zr zr zr zr zr dA ?_
  refine cd (U:=aU) (es:=rC x) 1 (i*3) zr zr zr hv rfl (fun q v hq=>?_) zr zr zr ?_
  ·have BE:q<3:=by
    rcases Nat.lt_or_ge q 3 with h|h
    ·exact h
    ·rw[List.getElem?_eq_none (by rw[gw];exact h)]at hq;cases hq
   rw[oA,cM gw hx q BE];exact hq
  refine az zr zr zr bh ?_
  intro bx
  refine go ?_
  refine aj (cs:=iV [x.id]) zr zr zr zr zr zr zr zr zr bh ?_
  intro b1
  refine go ?_
  refine aJ (mm:=1) (news:=iV [x.id]) 2 0 zr zr zr zr zr zr zr zr zr zr zr zr (Vw.ae rfl) rfl (tu _) ai (by show(_+1)*8≤_;omega) (fun _=>rfl) bh ?_
  intro v1
  rw[show iV ((l.take i).map Rt.id)++iV [x.id]=iV ((l.take (i+1)).map Rt.id)from by rw[List.take_add_one,hx];simp[iV]]
  refine aH 2 rfl ?_
  rintro Od Oc rfl
  refine go ?_
  refine aM ih (.slice Od (i+1) Oc,i+1) rfl (by simp only;omega) (by simp only;omega) bS ag
 intro ep
 have jL:i=l.length:=by omega
 subst jL
 rw[List.take_length]
 have QL:=zN (.slice wa l.length wc) (l.map Rt.id) (by rw[List.length_map];omega)
 rw[List.length_map]at QL
 refine go ?_
 refine aw QL ?_
 refine go ?_
 refine aK hE Tryz.func274 rfl _ zr zr ag
def FU(A:HP)(v:Value)(l:List Rt)(hv:Vw A v l.length (rV l))(hl:l.length≤9223372036854775807) :
  au Tryz.prog 266 [v] [A] (fun r H=>r = .int .i64 (gh l)∧H=[A]):=by
 obtain⟨a,c0,rfl⟩:=hv.shape
 have hki:jv Tryz.prog 3 (Value.int .i64):=qy Tryz.underlying3
 refine au.ak Tryz.func266 Tryz.ntmps266 fun G F R hE=>?_
 refine go ?_
 refine dP zr zr zr zr ?_ ?_
 ·intro qE
  refine go ?_
  have:gh l=1:=by unfold gh;rw[if_pos (.inl ai)]
  ((refine ad hE Tryz.func266 zr zr ⟨by rw[this];rfl,rfl⟩))
 intro xW
 refine go ?_
 refine aN (ao.lj _) ?_
 refine aw (uV A emp (.slice a l.length c0) l hv ai 361 [] OY (fun x _=>au.FG emp (EI x))) ?_
 refine go ?_
 refine dY zr zr ?_ ?_
 ·intro lC
  refine go ?_
  have:gh l=1:=by unfold gh;rw[if_pos (.inr lC)]
  ((refine ad hE Tryz.func266 zr zr ⟨by rw[this];rfl,rfl⟩))
 intro lC
 have hr0:gh l=if(l.map Rt.id).Nodup then 0 else 5:=by unfold gh;rw[if_neg (by rintro(h|h);omega;rw[lC]at h;cases h)]
 rw[hr0]at hE
 refine go ?_
 refine eG rfl bh ?_
 intro bm
 refine aN (ao.fold (B:=[_]) (A:=aI (Value.int .i64) bm []) (fun h hs=>⟨h,sub.refl h,gA (Value.int .i64) bm h (dp hs)⟩)) ?_
 refine go ?_
 refine bj (fun i:Nat=>i≤l.length) (fun i=>l.length-i) (fun i=>[(0,.slice a l.length c0),(4,.map (some bm)),(16,.slice a l.length c0),(17,.int .i64 l.length),(18,.int .i64 (i:Int))]) (fun i=>aI (Value.int .i64) bm (BV ((l.take i).map Rt.id))::A::F) 0 (Nat.zero_le _) rfl bS ag ?_
 rintro i hi ih
 refine go ?_
 refine aq zr zr ?_ ?_
 ·intro cL
  have dA:i<l.length:=by omega
  obtain⟨x,hx⟩:∃x,l[i]?=some x:=⟨l[i],by simp[dA]⟩
  obtain⟨b,o,c',he⟩:=hv.some (by intro e;have:=congrArg List.length e;rw[AA]at this;simp at this;omega)
  simp only[Value.slice.injEq,true_and]at he
  obtain⟨rfl,rfl⟩:=he
  refine go ?_
  refine bW i 3 zr zr zr zr zr zr zr zr dA ?_
  refine cd (U:=aU) (es:=rC x) 1 (i*3) zr zr zr hv rfl (fun q v hq=>?_) zr zr zr ?_
  ·have BE:q<3:=by
    rcases Nat.lt_or_ge q 3 with h|h
    ·exact h
    ·rw[List.getElem?_eq_none (by rw[gw];exact h)]at hq;cases hq
   rw[oA,cM gw hx q BE];exact hq
  refine az zr zr zr bh ?_
  intro bx
  refine go ?_
  refine eB (key:=x.id) 1 hki e8 zr zr zr zr zr zr zr zr ?_
  rw[← uX,show(l.take i).map Rt.id++[x.id]=(l.take (i+1)).map Rt.id from by rw[List.take_add_one,hx];simp]
  refine go ?_
  refine aM ih (i+1) rfl ai ai bS ag
 intro ep
 have jL:i=l.length:=by omega
 subst jL
 rw[List.take_length]
 obtain⟨wH,mW⟩:=OD (l.map Rt.id)
 rw[List.length_map]at wH mW
 refine go ?_
 refine N2 (U:=aU) 0 zr zr zr zr zr (go ?_)
 refine aq zr zr ?_ ?_
 ·intro h
  have hn:¬(l.map Rt.id).Nodup:=fun hn=>by have:=mW.2 hn;omega
  rw[if_neg hn]at hE
  refine go ?_
  refine ad hE Tryz.func266 zr zr ⟨rfl,rfl⟩
 intro h
 have hn:(l.map Rt.id).Nodup:=mW.1 ai
 rw[if_pos hn]at hE
 refine go ?_
 refine ad hE Tryz.func266 zr zr ⟨rfl,rfl⟩
end Go.Proofs.YtlcoaflddajjcaaGreatDoor
namespace Go.Proofs.YtlcoaflddajjcaaGreatDoor
open Go Go.Shelf
def yZ:Go.Shelf.Ren:=⟨fun|6=>270|15=>265|14=>364|28=>359|29=>360|20=>427|21=>428|22=>429|23=>430|24=>431|25=>432|26=>433|27=>434|46=>466|47=>423|48=>424|49=>467|50=>468|57=>481|n=>n,fun|22=>183|24=>191|25=>395|3=>3|39=>220|0=>0|53=>221|55=>46|4=>4|46=>449|45=>448|50=>127|5=>5|9=>9|66=>496|70=>499|76=>529|77=>530|n=>n,fun|n=>n⟩
def abx:Go.Proofs.SlLaysF0.n6 Tryz.prog yZ:={
  mixed:=by kernel_rfl,
  f6:=⟨Tryz.f270.name,by decide,Tryz.func270.trans (congrArg some (by kernel_rfl))⟩,
  f14:=⟨Tryz.f364.name,by decide,Tryz.func364.trans (congrArg some (by kernel_rfl))⟩,
  f15:=Tryz.func265.trans (congrArg some (by kernel_rfl)),
  f20:=⟨Tryz.f427.name,by decide,Tryz.func427.trans (congrArg some (by kernel_rfl))⟩,
  f21:=⟨Tryz.f428.name,by decide,Tryz.func428.trans (congrArg some (by kernel_rfl))⟩,
  f22:=⟨Tryz.f429.name,by decide,Tryz.func429.trans (congrArg some (by kernel_rfl))⟩,
  f23:=⟨Tryz.f430.name,by decide,Tryz.func430.trans (congrArg some (by kernel_rfl))⟩,
  f24:=⟨Tryz.f431.name,by decide,Tryz.func431.trans (congrArg some (by kernel_rfl))⟩,
  f25:=⟨Tryz.f432.name,by decide,Tryz.func432.trans (congrArg some (by kernel_rfl))⟩,
  f26:=⟨Tryz.f433.name,by decide,Tryz.func433.trans (congrArg some (by kernel_rfl))⟩,
  f27:=⟨Tryz.f434.name,by decide,Tryz.func434.trans (congrArg some (by kernel_rfl))⟩,
  f28:=Tryz.func359.trans (congrArg some (by kernel_rfl)),
  f29:=Tryz.func360.trans (congrArg some (by kernel_rfl)),
  f46:=⟨Tryz.f466.name,by decide,Tryz.func466.trans (congrArg some (by kernel_rfl))⟩,
  f47:=Tryz.func423.trans (congrArg some (by kernel_rfl)),
  f48:=Tryz.func424.trans (congrArg some (by kernel_rfl)),
  f49:=⟨Tryz.f467.name,by decide,Tryz.func467.trans (congrArg some (by kernel_rfl))⟩,
  f50:=⟨Tryz.f468.name,by decide,Tryz.func468.trans (congrArg some (by kernel_rfl))⟩,
  f57:=⟨Tryz.f481.name,by decide,Tryz.func481.trans (congrArg some (by kernel_rfl))⟩,
  t0:=Tryz.underlying0,
  a0:=Tryz.isAgg0,
  z0:=Tryz.sizeOf0,
  v0:=Tryz.zeroValue0,
  t3:=Tryz.underlying3,
  a3:=Tryz.isAgg3,
  z3:=Tryz.sizeOf3,
  v3:=Tryz.zeroValue3,
  t4:=Tryz.underlying4,
  a4:=Tryz.isAgg4,
  z4:=Tryz.sizeOf4,
  v4:=Tryz.zeroValue4,
  t5:=Tryz.underlying5,
  a5:=Tryz.isAgg5,
  z5:=Tryz.sizeOf5,
  v5:=Tryz.zeroValue5,
  t9:=Tryz.underlying9,
  a9:=Tryz.isAgg9,
  z9:=Tryz.sizeOf9,
  v9:=Tryz.zeroValue9,
  t22:=Tryz.underlying183,
  a22:=Tryz.isAgg183,
  z22:=Tryz.sizeOf183,
  v22:=Tryz.zeroValue183,
  t25:=Tryz.underlying395,
  a25:=Tryz.isAgg395,
  z25:=Tryz.sizeOf395,
  v25:=Tryz.zeroValue395,
  t39:=Tryz.underlying220,
  a39:=Tryz.isAgg220,
  z39:=Tryz.sizeOf220,
  v39:=Tryz.zeroValue220,
  t45:=Tryz.underlying448,
  a45:=Tryz.isAgg448,
  z45:=Tryz.sizeOf448,
  v45:=Tryz.zeroValue448,
  t46:=Tryz.underlying449,
  a46:=Tryz.isAgg449,
  z46:=Tryz.sizeOf449,
  v46:=Tryz.zeroValue449,
  t50:=Tryz.underlying127,
  a50:=Tryz.isAgg127,
  z50:=Tryz.sizeOf127,
  v50:=Tryz.zeroValue127,
  t53:=Tryz.underlying221,
  a53:=Tryz.isAgg221,
  z53:=Tryz.sizeOf221,
  v53:=Tryz.zeroValue221,
  t55:=Tryz.underlying46,
  a55:=Tryz.isAgg46,
  z55:=Tryz.sizeOf46,
  v55:=Tryz.zeroValue46,
  t66:=Tryz.underlying496,
  a66:=Tryz.isAgg496,
  z66:=Tryz.sizeOf496,
  v66:=Tryz.zeroValue496,
  t70:=Tryz.underlying499,
  a70:=Tryz.isAgg499,
  z70:=Tryz.sizeOf499,
  v70:=Tryz.zeroValue499,
  t76:=Tryz.underlying529,
  a76:=Tryz.isAgg529,
  z76:=Tryz.sizeOf529,
  v76:=Tryz.zeroValue529,
  t77:=Tryz.underlying530,
  a77:=Tryz.isAgg530,
  z77:=Tryz.sizeOf530,
  v77:=Tryz.zeroValue530 }
end Go.Proofs.YtlcoaflddajjcaaGreatDoor
namespace Go.SL
open Go.Proofs Go.Shelf Go.RowKit Go.Lib Go.Sort
variable{P:Program}{ρ:Ren}{α:Type}[Inhabited α]
def FW{g:FuncId}{cb:Array Value}{enc:α→List Value}{k:Nat}{cf:α→α→Int}(blk off size:Nat)(w:World)(hc:∀x y,au P g (.agg (enc x).toArray :: .agg (enc y).toArray::cb.toList) [] (fun r H=>r = .int .i64 (cf x y)∧H=[])):CmpLays P g cb enc k cf blk off size w:=by
 intro m os dk hs x y
 generalize sortWorldK enc k w blk off m dk os=W
 have h1:Sat { tape:=W.tape,os:=W.os,output:=W.output,lo:=W.drawn } W ([]++[old W]):=⟨⟨rfl,Nat.le_refl _⟩,rfl,rfl,fun b=>W.heap[b]?,fun _ _ h=>h,dG fun _=>rfl⟩
 have h2:=(hc x y).2 _ W [old W] h1
 have he:(Value.agg (enc x).toArray::Value.agg (enc y).toArray::cb.toList).toArray = #[.agg (enc x).toArray,.agg (enc y).toArray]++cb:=by
  apply Array.ext';simp
 rw[he]at h2
 refine h2.mono ?_
 rintro e w'⟨v,H,rfl,⟨rfl,rfl⟩,QN⟩
 exact⟨rfl,CZ QN⟩
def wX(enc:α→List Value)(k:Nat)(hk:∀x,(enc x).length=k)(d:Array α):Sort.flatK enc k d=(d.toList.flatMap enc).toArray:=by
 refine Sort.ext_get! (by simp[bT hk]) fun t ht=>?_
 have ht':t<d.size*k:=by simpa using ht
 rw[Sort.get_flatK _ _ _ _ ht']
 have hk0:0<k:=by
  rcases Nat.eq_zero_or_pos k with h|h
  ·subst h;simp at ht'
  ·exact h
 have hq:t/k<d.size:=Nat.div_lt_of_lt_mul (by rw[Nat.mul_comm];exact ht')
 have hx:d.toList[t/k]?=some d[t/k]! := by
  rw[getElem!_pos d (t/k) hq];simp[hq]
 have h1:=cM hk hx (t%k) (Nat.mod_lt _ hk0)
 rw[Nat.div_add_mod' t k]at h1
 have cL:t%k<(enc d[t/k]!).length:=by rw[hk];exact Nat.mod_lt _ hk0
 have Jj:t<(d.toList.flatMap enc).length:=by rw[bT hk];simpa using ht'
 rw[getElem!_pos (enc d[t/k]!) (t%k) cL,getElem!_pos (d.toList.flatMap enc).toArray t (by simpa using Jj)]
 rw[List.getElem?_eq_getElem Jj,List.getElem?_eq_getElem cL]at h1
 exact(Option.some.inj h1).symm
def Am(L:SlLaysF0.n6 P ρ)(k:Nat)(aE:∀w,(isAgg (ρ.t 24)).run P w = .ok true w)(zE:∀w,(Go.sizeOf (ρ.t 24)).run P w = .ok k w)(enc:α→List Value)(hk:∀x,(enc x).length=k)(h1:∀x,∀v∈enc x,v.oneCell'=true)(cf:α→α→Int)(hO:SWO (ltOf cf))(g:FuncId)(e:TypeId)(v:Value)(l:List α)(KN:P.funcs[ρ.f 6]?.map jf=some true)(eg:∀args w,(callFunc g args).run P w = .ok (.enter g args) w)(hc:∀x y,au P g [.agg (enc x).toArray,.agg (enc y).toArray] [] (fun r H=>r = .int .i64 (cf x y)∧H=[]))(iJ:l.length<4611686018427387904)(hT:∀x y,(ltOf cf) x y=false→(ltOf cf) y x=false→x=y) :
  au P (ρ.f 6) [v,.func (.func g) #[] #[]] [aB e k v l.length (l.flatMap enc)] (fun r H=>r = .tuple #[]∧H=[aB e k v l.length ((l.mergeSort fun x y => !(ltOf cf) y x).flatMap enc)]):=by
 refine⟨KN,fun G w F hs=>?_⟩
 obtain⟨t,o,u,hp,BC,hA,hB,⟨hl,ig⟩,Jz,hd,he⟩:=hs
 rcases ig with⟨a0,rfl,hn,wM⟩|⟨b,oo,cap,pre,junk,rfl,j8,hn,fY,u5⟩
 ·have QW:l=[]:=List.eq_nil_of_length_eq_zero hn
  subst QW
  refine(AnyF.slices_SortFunc_none (P:=P) (ρ:=ρ) { L with } a0 0 (.func (.func g) #[] #[]) w).mono ?_
  rintro e' w'⟨rfl,rfl⟩
  exact⟨_,_,rfl,⟨rfl,rfl⟩,t,o,u,hp,BC,hA,hB,⟨by simp,.inl ⟨a0,rfl,rfl,wM⟩⟩,Jz,hd,he⟩
 ·have u3:Sat G w (ae b (cl (pre++l.flatMap enc++junk) e)::F):=⟨t,o,u,hp,BC,hA,hB,u5,Jz,hd,he⟩
  have hb:=u3.get (i:=0) rfl
  have cL:=u3.lt (i:=0) rfl
  subst j8
  have hH:Sort.HoldsK enc k w b pre.length l.toArray:=by
   unfold Sort.HoldsK
   rw[wX enc k hk]
   exact tx hb
  have hS:=AnyQ.slices_SortFunc_total L k aE zE enc hk h1 cf hO g #[] b pre.length cap l.toArray w eg (FW b pre.length l.toArray.size w hc) hH cL (by simpa using iJ) hT
  refine(by simpa using hS:Calls P (ρ.f 6) #[.slice (some ⟨b,pre.length,none⟩) l.length cap,.func (.func g) #[] #[]] w _).mono ?_
  rintro e' w'⟨rfl,n,os,rfl⟩
  refine⟨_,_,rfl,⟨rfl,rfl⟩,?_⟩
  have uB:(l.mergeSort fun x y => !(ltOf cf) y x).length=l.length:=List.length_mergeSort _
  have h3:=(u3.ahead n).YF (Sort.putCells id pre.length (Sort.flatK enc k (l.mergeSort fun x y => !(ltOf cf) y x).toArray)) (l':=pre++(l.mergeSort fun x y => !(ltOf cf) y x).flatMap enc++junk) (by
   rw[wX enc k hk]
   exact nq _ _ _ _ (by rw[bT hk,bT hk,uB]))
  have h4:=h3.grown os
  refine h4.cu ?_
  exact gq rfl hn (by rw[bT hk,uB,← hl];exact fY) (by rw[bT hk,uB]) F
end Go.SL
namespace Go.Proofs.YtlcoaflddajjcaaGreatDoor
open Go Go.SL
structure Wt where
 id:Int
 xZ:Int
deriving DecidableEq
instance:Inhabited Wt:=⟨⟨0,0⟩⟩
def Wt.rt(x:Wt):Rt:=⟨x.id,x.xZ,true⟩
def wC(x:Wt):List Value:=rC x.rt
def K0(x:Wt):(wC x).length=3:=rfl
def cfW(x y:Wt):Int:=cfR x.rt y.rt
def before(x y:Wt):Bool:=decide (y.xZ<x.xZ∨(x.xZ=y.xZ∧x.id<y.id))
def ZN(a b c d:Int):L1 [p' b a,p' c d]<0↔(b<a∨(a=b∧c<d)):=by
 simp only[L1,p']
 by_cases h1:b<a
 ·simp[h1]
 ·by_cases h2:a<b
  ·simp[h1,h2];omega
  ·have h3:a=b:=by omega
   by_cases h4:c<d
   ·simp[h3,h4]
   ·by_cases h5:d<c
    ·simp[h3,h4,h5]
    ·simp[h3,h4,h5]
def FX:Go.Proofs.ltOf cfW=before:=by
 funext x y
 exact decide_eq_decide.2 (ZN x.xZ y.xZ x.id y.id)
def F6:Go.Sort.SWO before where
 irrefl x:=by simp[before]
 trans x y z h1 h2:=by simp[before]at *;omega
 ntrans x y z h1 h2:=by simp[before]at *;omega
def F5(x y:Wt)(h1:before x y=false)(h2:before y x=false):x=y:=by
 cases x;cases y;simp[before]at *;omega
def og(l:List Rt):List Wt:=(l.filter (·.w)).map fun x=>⟨x.id,x.xZ⟩
def BJ(l:List Rt):rV (l.filter fun x => !!x.w)=(og l).flatMap wC∧(l.filter fun x => !!x.w).length=(og l).length:=by
 simp only[Bool.not_not]
 refine⟨?_,by simp[og]⟩
 unfold rV og
 rw[List.flatMap_map]
 induction l with
 | nil=>rfl
 | cons x l ih =>
  rw[List.filter_cons]
  split
  ·rename_i h
   rw[List.flatMap_cons,List.flatMap_cons,ih]
   congr 1
   unfold wC Wt.rt rC
   simp only
   rw[h]
  ·exact ih
def fF(l:List Rt):List Wt:=(og l).mergeSort fun x y => !before y x
def v7(l:List Rt):(fF l).length=(og l).length:=List.length_mergeSort _
def yO(l:List Rt):(og l).length≤l.length:=by unfold og;rw[List.length_map];exact List.length_filter_le _ _
def Qs(s:List Wt):s.flatMap wC=rV (s.map Wt.rt):=by unfold rV;rw[List.flatMap_map];rfl
def toNat_lt{z:Int}(h:0≤z∧z<18446744073709551616):z.toNat<18446744073709551616:=by omega
def O2(z:Int):(oG z).toNat<18446744073709551616:=toNat_lt (nw z)
abbrev Res:=List Int × Int × Int
def oW(l:List Rt)(bG:Int):List Int:=hJ (((fF l).take (min (bG-1) (fF l).length).toNat).map Wt.id)
def iq(l:List Rt)(bG:Int):List Int:=hJ (((fF l).drop (min (bG-1) (fF l).length).toNat).map Wt.id)
def HE(seed:Int)(n:Nat):Nat:=gW (oG (gz seed)).toNat n
def lY(o:List Int)(fL:Int)(turn:Bool)(seed:Int):Int:=if turn=true∨fL ∉ o then o.getD (HE seed o.length) 0 else fL
def c7(l:List Rt)(bG fL:Int)(turn:Bool)(seed:Int):Res :=
 if bG<1∨16<bG then([],0,1)else if gh l≠0 then([],0,gh l)else
 if iq l bG=[]then(oW l bG,0,0)else
 (hJ (oW l bG++[lY (iq l bG) fL turn seed]),lY (iq l bG) fL turn seed,0)
attribute [local irreducible] J K au Ends ae aB aI bB aW aS a7 aX bF gW oG gz
def Bj(v:Value)(l:List Wt)(hl:l.length≤1000000000) :
  au Tryz.prog 270 [v,.func (.func 271) #[] #[]] [aB 191 3 v l.length (l.flatMap wC)] (fun r H=>r = .tuple #[]∧H=[aB 191 3 v l.length ((l.mergeSort fun x y => !before y x).flatMap wC)]):=by
 have h:=Am (ρ:=yZ) abx 3 Tryz.isAgg191 Tryz.sizeOf191 wC (fun _=>rfl) (fun x v hv=>by simp[wC,rC]at hv;rcases hv with rfl|rfl|rfl <;> rfl) cfW (by rw[FX];exact F6) 271 191 v l ah (enters_of Tryz.func271 ah rfl) (fun x y=>D3 x.rt y.rt) ai (by rw[FX];exact F5)
 rw[FX]at h
 exact h
def Gx(A:HP)(v:Value)(l:List Rt)(bG fL:Int)(turn:Bool)(seed:Int)(hv:Vw A v l.length (rV l))(hl:l.length≤9223372036854775807)(hs:i64 bG)(ht:i64 fL) :
  au Tryz.prog 156 [v,.int .i64 bG,.int .i64 fL,.bool turn,.int .u64 seed] [A]
   (fun r H=>∃w,r = .tuple #[w,.int .i64 (c7 l bG fL turn seed).2.1,.int .i64 (c7 l bG fL turn seed).2.2]∧H=[aB 3 1 w (c7 l bG fL turn seed).1.length (iV (c7 l bG fL turn seed).1),A]):=by
 obtain⟨a,c0,rfl⟩:=hv.shape
 obtain⟨res,ly⟩:∃res,res=c7 l bG fL turn seed:=⟨_,rfl⟩
 rw[← ly]
 unfold c7 at ly
 refine au.ak Tryz.func156 Tryz.ntmps156 fun G F R hE=>?_
 refine go ?_
 refine dP zr zr zr zr ?_ ?_
 ·intro h
  rw[if_pos (.inl h)]at ly
  subst ly
  refine go ?_
  refine al (bg 3 1 none _) ?_
  refine ad hE Tryz.func156 zr zr ⟨_,rfl,rfl⟩
 intro h1
 refine go ?_
 refine aq zr zr ?_ ?_
 ·intro h
  rw[if_pos (.inr h)]at ly
  subst ly
  refine go ?_
  refine al (bg 3 1 none _) ?_
  refine ad hE Tryz.func156 zr zr ⟨_,rfl,rfl⟩
 intro h2
 rw[if_neg ai]at ly
 refine go ?_
 refine aw (FU A (.slice a l.length c0) l hv hl) ?_
 refine go ?_
 refine aq zr zr ?_ ?_
 ·intro h
  rw[if_pos h]at ly
  subst ly
  refine go ?_
  refine al (bg 3 1 none _) ?_
  refine ad hE Tryz.func156 zr zr ⟨_,rfl,rfl⟩
 intro h3
 rw[if_neg h3]at ly
 have Na:l.length≤64:=by
  rcases Nat.lt_or_ge 64 l.length with h|h
  ·exact absurd (show gh l≠0 from by unfold gh;rw[if_pos (.inl h)];decide) h3
  ·exact h
 have ir:=yO l
 refine go ?_
 refine aF (N8 A (.slice a l.length c0) l hv ai) ?_
 rintro w1 _ rfl
 refine aH 0 rfl ?_
 rintro wa wc rfl
 refine go ?_
 refine aN (ao.lj _) ?_
 refine aF (yI (.slice wa l.length wc) l emp 269 [] (fun x => !x.w) ai (fun x _=>au.FG emp (D4 x))) ?_
 rintro w2 _ rfl
 rw[(BJ l).1,(BJ l).2]
 refine aH 0 rfl ?_
 rintro va vc rfl
 refine go ?_
 refine aw (Bj (.slice va (og l).length vc) (og l) ai) ?_
 change J _ _ _ _ _ _ _ _ _ _ (aB _ 3 _ _ ((fF l).flatMap wC)::_)
 refine go ?_
 rw[← v7 l]
 have Jd:=v7 l
 refine Qj 0 rfl ?_
 intro hle mX cW
 obtain⟨k,hk⟩:∃k:Nat,(k:Int)=min (bG-1) (fF l).length:=⟨(min (bG-1) (fF l).length).toNat,ai⟩
 have Pw:k≤(fF l).length:=by omega
 have hf:oW l bG=hJ (((fF l).take k).map Wt.id):=by unfold oW;rw[← hk,Int.toNat_natCast]
 have ho:iq l bG=hJ (((fF l).drop k).map Wt.id):=by unfold iq;rw[← hk,Int.toNat_natCast]
 have mH:Vw (aB 191 3 (.slice va (fF l).length vc) (fF l).length ((fF l).flatMap wC)) (.slice (sliceAt va vc 0 3) k vc) (((fF l).take k).map Wt.rt).length (rV (((fF l).take k).map Wt.rt)):=by
  have:=cW.acG (s:=3) k
  rw[← qH K0 (fF l) k Pw,Qs ((fF l).take k)]at this
  rwa[List.length_map,List.length_take,Nat.min_eq_left Pw]
 have pN:Vw (aB 191 3 (.slice va (fF l).length vc) (fF l).length ((fF l).flatMap wC)) (.slice (sliceAt va vc k 3) ((fF l).length-k) (vc-k)) (((fF l).drop k).map Wt.rt).length (rV (((fF l).drop k).map Wt.rt)):=by
  have:=cW.JM mX hle k Pw
  have hd:((fF l).flatMap wC).drop (k*3)=((fF l).drop k).flatMap wC:=by
   have h1:(fF l).flatMap wC=((fF l).take k).flatMap wC++((fF l).drop k).flatMap wC:=by rw[← List.flatMap_append,List.take_append_drop]
   have h2:(((fF l).take k).flatMap wC).length=k*3:=by rw[bT K0,List.length_take,Nat.min_eq_left Pw]
   rw[h1,← h2,List.drop_left]
  rw[hd,Qs ((fF l).drop k)]at this
  rwa[List.length_map,List.length_drop]
 have KL:=Ha _ _ _ mH (by rw[List.length_map,List.length_take];omega)
 have hi2:=Ha _ _ _ pN (by rw[List.length_map,List.length_drop];omega)
 rw[List.map_map,show Rt.id ∘ Wt.rt=Wt.id from rfl,List.length_map]at KL hi2
 rw[← hf]at KL
 rw[← ho]at hi2
 have sM:(oW l bG).length=((fF l).take k).length:=by rw[hf,fD,List.length_map]
 have QS:(iq l bG).length=((fF l).drop k).length:=by rw[ho,fD,List.length_map]
 rw[← sM]at KL
 rw[← QS]at hi2
 rw[List.length_take]at sM
 rw[List.length_drop]at QS
 clear hf ho
 generalize oW l bG=first at *
 generalize iq l bG=others at *
 refine bq 15 ((.int .i64 (k:Int))) rfl ((congrArg (Value.int .i64) ai)) ?_
 refine aL (fun w=>Sat G w ([aB 191 3 (.slice va (fF l).length vc) (fF l).length ((fF l).flatMap wC)])) (cJ 0 3 (cJ 4 3 (.act 3 (.act 7 (.st 8 (.st 9 .nil)))))) rfl ah ah ah dv ?_
 refine go ?_
 refine bw zr zr zr zr zr zr zr ai ai (.inr ai) ?_
 ((refine aG 41 ((.slice (sliceAt va vc 0 3) k vc)) rfl ((by simp;rfl)) ?_))
 refine go ?_
 refine bw zr zr zr zr zr zr zr ai ai (.inl rfl) ?_
 ((refine aG 45 ((.slice (sliceAt va vc k 3) ((fF l).length-k) (vc-k))) rfl ((by simp;rfl)) ?_))
 refine go ?_
 refine cT KL ?_
 rintro q1 _ rfl
 refine go ?_
 refine cT hi2 ?_
 rintro q2 _ rfl
 refine aH 0 rfl ?_
 rintro oa oc rfl
 refine aH 2 rfl ?_
 rintro fa fc rfl
 refine go ?_
 refine aq zr zr ?_ ?_
 ·intro h0
  have ho0:others=[]:=List.eq_nil_of_length_eq_zero ai
  rw[if_pos ho0]at ly
  subst ly
  refine go ?_
  refine ad hE Tryz.func156 zr zr ⟨_,rfl,rfl⟩
 intro h0
 have ML:0<others.length:=by omega
 rw[if_neg (fun e=>by rw[e]at ML;simp at ML)]at ly
 refine gG rfl ?_
 refine sl 2 (fun t:Int=>t=lY others fL turn seed) (fun t=>[(2,.int .i64 t),(16,.slice fa first.length fc)]) (fun t=>aB 3 1 (.slice fa first.length fc) first.length (iV first)::A::F) rfl ?_ ?_
 ·rintro t rfl
  generalize lY others fL turn seed=t at *
  subst ly
  refine go ?_
  refine aj (cs:=iV [t]) zr zr zr zr zr zr zr zr zr bh ?_
  intro b1
  refine go ?_
  refine aJ (mm:=1) (news:=iV [t]) 1 0 zr zr zr zr zr zr zr zr zr zr zr zr (Vw.ae rfl) rfl (tu _) ai (by show(_+1)*8≤_;omega) (fun _=>rfl) bh ?_
  intro v1
  rw[show iV first++iV [t]=iV (first++[t])from by simp[iV],show first.length+1=(first++[t]).length from by simp]
  refine aH 1 rfl ?_
  rintro Od Oc rfl
  refine go ?_
  have QL:=zN (.slice Od (first++[t]).length Oc) (first++[t]) (by simp;omega)
  rw[← fD (first++[t])]at QL
  rw[← fD (first++[t])]
  refine aw QL ?_
  refine go ?_
  refine ad hE Tryz.func156 zr zr ⟨_,rfl,rfl⟩
 ·intro tail
  have oN:=tM (x:=(oG (gz seed)).toNat) (n:=others.length) (O2 _) ML
  have Jw:=fun b=>tX b seed others.length ai
  generalize hd:gW (oG (gz seed)).toNat others.length=d at oN Jw
  obtain⟨x,hx⟩:∃x,others[d]?=some x:=⟨others[d],by simp[oN]⟩
  have hxd:others.getD (HE seed others.length) 0=x:=by
   rw[show HE seed others.length=d from hd,List.getD_eq_getElem?_getD,hx];rfl
  have Q1:turn=true∨fL ∉ others→x=lY others fL turn seed:=fun h=>by unfold lY;rw[if_pos h,hxd]
  refine jJ 0 rfl ML ?_
  intro ob oo EW he yn rQ mG
  simp only[Value.slice.injEq,true_and]at he
  obtain⟨rfl,rfl⟩:=he
  cases turn with
  | true =>
   have AS:=Q1 (.inl rfl)
   refine go ?_
   refine aF (lR seed) ?_
   rintro _ _⟨bs,rfl,rfl⟩
   refine go ?_
   refine aw (Jw bs) ?_
   refine go ?_
   refine bp d zr zr zr zr zr zr zr zr oN ?_
   refine aQ 1 d zr zr zr mG rfl (jE hx) zr zr ?_
   refine oe ?_
   refine mi tail x rfl AS bS ag
  | false =>
   refine go ?_
   refine aw (qm _ (.slice (some ⟨ob,oo,none⟩) others.length oc) others fL mG ai) ?_
   by_cases eR:fL∈others
   ·rw[decide_eq_true eR]
    have AS:fL=lY others fL false seed:=by unfold lY;rw[if_neg (by rintro(h|h);cases h;exact h eR)]
    refine oe ?_
    refine kD zr zr ?_
    refine mi tail fL rfl AS bS ag
   ·rw[decide_eq_false eR]
    have AS:=Q1 (.inr eR)
    refine go ?_
    refine aF (lR seed) ?_
    rintro _ _⟨bs,rfl,rfl⟩
    refine go ?_
    refine aw (Jw bs) ?_
    refine go ?_
    refine bp d zr zr zr zr zr zr zr zr oN ?_
    refine aQ 1 d zr zr zr mG rfl (jE hx) zr zr ?_
    refine oe ?_
    refine mi tail x rfl AS bS ag
end Go.Proofs.YtlcoaflddajjcaaGreatDoor
