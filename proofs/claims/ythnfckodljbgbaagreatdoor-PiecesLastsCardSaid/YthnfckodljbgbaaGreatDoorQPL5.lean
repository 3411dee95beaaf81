import Derived.Test.YthnfckodljbgbaaGreatDoorQPL2
import Derived.Test.YthnfckodljbgbaaGreatDoorQPL3
import Derived.Test.YthnfckodljbgbaaGreatDoorQPL4
import Derived.WideKeyRuns
set_option linter.unusedSectionVars false
set_option linter.unusedSimpArgs false
set_option linter.unusedVariables false
set_option maxRecDepth 20000
set_option linter.defProp false
namespace Go.Proofs.YthnfckodljbgbaaGreatDoor
open Go Go.SL
variable{b n s stay:List UInt8}{f i j:Nat}
attribute [local irreducible] J K aD Ends ae aF aL bU bo aU bh
def Bv(bd:Nat)(D:Dk)(A:Ab)(hR:Rel D A) :
    aD Tryz.prog 67 [ptr bd] [gY bd D] (fun v H=>∃D',Rel D' A.cp.2∧H=[gY bd D']∧v = .int .i64 A.cp.1):=by
  refine aD.aw Tryz.func67 Tryz.ntmps67 fun G F R hE=>?_
  refine go ?_
  refine cO [0] zr zr zr zr (zA bd D A hR true) rfl nq ?_
  rintro _ _⟨D',gD,rfl,rfl⟩
  refine go ?_
  refine fZ zr zr ?_ ?_
  · intro h0
    have p5:¬(A.meet true).1=0:=by have:=of_decide_eq_true h0;omega
    have hf:A.cp=((A.meet true).1,(A.meet true).2):=by simp[Ab.cp,p5]
    rw[hf]at hE
    refine go ?_
    refine aO hE Tryz.func67 rfl _ rfl ⟨D',gD,rfl,rfl⟩ (ak.fin [0] 0 zr zr)
  · intro h0
    have p5:(A.meet true).1=0:=by have:=of_decide_eq_false h0;omega
    have hf:A.cp=(0,{ (A.meet true).2 with aj:=[(A.meet true).2.names] }):=by simp[Ab.cp,p5]
    rw[hf]at hE
    obtain⟨room,bm,ly,ml,od,off,maps,ej,files,gI,wl⟩:=D'
    refine ai (iU _ _ _ _ _ _ _ _ _ _ _ _ _) (go ?_)
    refine ao zr zr zr zr zr zr zr zr zr bE ?_
    intro b0
    refine go ?_
    refine ai (eS 57 1 b0 1 1 [.map (some bm)] [] _ rfl (Nat.le_refl _) (by simp)) ?_
    refine ai (ak.pick [1,2,3,4,0,6] rfl) ?_
    refine ai (ew bd room bm _ ml od off maps ej files [bm] wl _) ?_
    have Ri:Rel ⟨room,bm,.slice (some ⟨b0,0,none⟩) 1 1,ml,od,off,maps,ej,files,[bm],wl⟩ { (A.meet true).2 with aj:=[(A.meet true).2.names] } :=
      { room:=gD.room,off:=gD.off,names:=gD.names,aj:=fD.one gD.names,fs:=gD.fs,writes:=gD.writes,ec:=gD.ec,ids:=gD.ids
        known:=fun st bP=>gD.known st (by simp only[List.mem_cons,List.not_mem_nil,or_false]at bP;rcases bP with rfl|rfl <;> exact List.mem_cons_self ..)
        eg:=gD.eg
        nodup:=fun st bP=>gD.nodup st (by simp only[List.mem_cons,List.not_mem_nil,or_false]at bP;rcases bP with rfl|rfl <;> exact List.mem_cons_self ..)
        gC:=gD.gC,ib:=gD.ib
        fF:=fun st bP=>gD.fF st (by simp only[List.mem_cons,List.not_mem_nil,or_false]at bP;rcases bP with rfl|rfl <;> exact List.mem_cons_self ..)
        ie:=gD.ie,kr:=gD.kr,full:=by simp }
    refine aO hE Tryz.func67 rfl _ rfl ⟨_,Ri,rfl,rfl⟩ (ak.fin [0] 1 zr zr)
theorem fD.filter{α β:Type}{q:α→β→Prop}{l:List α}{r:List β}(h:fD q l r){p1:α→Bool}{p2:β→Bool}(hp:∀x y,q x y→p1 x=p2 y):fD q (l.filter p1) (r.filter p2):=by
 induction l generalizing r with
 | nil =>
  have:r=[]:=List.eq_nil_of_length_eq_zero h.1.symm
  grind
 | cons x l ih =>
  cases r with
  | nil=>exact absurd h.1 (by simp)
  | cons y r =>
   have h0:=h.2 0 x y zr zr
   have ht:fD q l r:=⟨by have:=h.1;simpa using this,fun i a b ha hb=>h.2 (i+1) a b (by simpa using ha) (by simpa using hb)⟩
   rw[List.filter_cons,List.filter_cons,hp x y h0]
   split
   ·exact(ih ht).cons h0
   grind
theorem O9{fs:List (Nat × List UInt8 × List UInt8)}(hn:(fs.map (·.1)).Nodup){x:List UInt8 × List UInt8}(hi:fs[i]?=some (f,x)):Ab.nV fs f=fs.set i (f,x.1,x.1):=by
 induction fs generalizing i with
 | nil=>simp at hi
 | cons y l ih =>
  simp only[List.map_cons,List.nodup_cons]at hn
  cases i with
  | zero =>
   simp at hi
   subst hi
   simp only[Ab.nV,List.map_cons,if_true,List.set_cons_zero,List.cons.injEq,true_and]
   rw[List.map_congr_left (g:=id) (fun z hz=>?_),List.map_id]
   grind
  | succ i =>
   simp at hi
   have df:y.1≠f:=fun e=>hn.1 (List.mem_map.2 ⟨_,List.mem_of_getElem? hi,e.symm⟩)
   have:=ih hn.2 hi
   simp only[Ab.nV]at this
   simp only[Ab.nV,List.map_cons,df,if_false,List.set_cons_succ,this]
theorem yO(fs:List (Nat × List UInt8 × List UInt8))(f:Nat):(Ab.nV fs f).map (·.1)=fs.map (·.1):=by
 simp only[Ab.nV,List.map_map]
 apply List.map_congr_left
 grind
theorem Rel.synced{D:Dk}{A:Ab}(h:Rel D A){v1 v2 w:Value}(hi:D.files[i]?=some (f,v1,v2))(ha:A.fs[i]?=some (f,A.now f,A.sure f)) :
  Rel { D with files:=D.files.set i (f,v1,v1),ml:=w,wl:=D.wl.filter fun x => !decide (x.1=f) } { A with fs:=Ab.nV A.fs f,writes:=A.writes.filter fun x => !decide (x.1=f) } where
 room:=h.room
 off:=h.off
 names:=h.names
 aj:=h.aj
 fs:=by
  rw[O9 h.ids ha]
  have h2:=h.fs.2 i _ _ hi ha
  exact fD.set h.fs i ⟨rfl,h2.2.1,h2.2.1⟩
 writes:=fD.filter h.writes (fun x y tP=>by rw[tP.1])
 ec:=h.ec
 ids:=by simp only[yO];exact h.ids
 known:=by simp only[yO];exact h.known
 eg:=by
  simp only[yO]
  exact fun x hx=>h.eg x (List.mem_filter.1 hx).1
 nodup:=h.nodup
 gC:=by
  intro x hx
  simp only[Ab.nV,List.mem_map]at hx
  obtain⟨y,hy,rfl⟩:=hx
  have:=h.gC y hy
  grind
 ib:=fun x hx=>h.ib x (List.mem_filter.1 hx).1
 fF:=h.fF
 ie:=h.ie
 kr:=h.kr
 full:=h.full
theorem RO(bd:Nat)(D:Dk)(A:Ab)(hR:Rel D A)(name:ByteArray)(eW:A.writes.length≤1000000000) :
  aD Tryz.prog 97 [ptr bd,.string name] [gY bd D]
   (fun v H=>∃D',Rel D' (A.sync (isName name) name).2∧H=[gY bd D']∧v = .int .i64 (A.sync (isName name) name).1):=by
 refine aD.aw Tryz.func97 Tryz.ntmps97 fun G F R hE=>?_
 refine go ?_
 refine ao zr zr zr zr zr zr zr zr zr bE ?_
 intro b0
 refine go ?_
 refine cO [0] zr zr zr zr (jZ _ _ [name] (Vw.ae rfl) (by simp)) rfl nq ?_
 rintro _ _⟨rfl,rfl⟩
 have e1:[name].all isName=isName name:=by simp
 rw[e1]
 refine go ?_
 refine cO [1] zr zr zr zr (kF bd D A hR name (isName name)) rfl nq ?_
 generalize iJ:isName name=ok at hE ⊢
 rintro _ _⟨D',gD,rfl,rfl⟩
 by_cases p5:(A.find name ok).1=0
 ·obtain⟨ZB,fl,oH,gp⟩:=mX p5
  have hw:A.sync ok name=(0,{ (A.find name ok).2.2 with fs:=Ab.nV (A.find name ok).2.2.fs fl,writes:=(A.find name ok).2.2.writes.filter fun x => !decide (x.1=fl) }):=by simp[Ab.sync,p5,oH]
  rw[hw]at hE
  rw[oH,p5]
  have aeb:(A.find name ok).2.2.writes.length≤1000000000:=by rw[(oL A name ok).2.2.2.1];exact eW
  generalize (A.find name ok).2.2=A1 at *
  obtain⟨room,bm,ly,ml,od,off,maps,ej,files,gI,wl⟩:=D'
  obtain⟨i,v1,v2,hi,rX,nr,wx⟩:=gD.file (f:=fl) (gD.known _ (List.mem_cons_self ..) _ gp)
  obtain⟨a,cap,rfl,kj⟩:=nr.shape
  refine go ?_
  refine aC zr zr zr bE ?_
  intro c5
  refine go ?_
  refine ai (ak.pick [1] rfl) ?_
  refine ai (iU _ _ _ _ _ _ _ _ _ _ _ _ _) ?_
  refine ai (ak.pick [3] rfl) ?_
  refine ai (iB fA hi _) ?_
  refine aG (fun w=>Sat G w ([ae c5 (cl [ptr fl] 95),ae fl (cl [.slice a (A1.now fl).length cap,v2] 101)])) (dj 0 7 (.act 7 .nil)) rfl aq aq aq (fun w hw=>hw.cL (ak.bF ([7,0]) rfl)) ?_
  refine go ?_
  refine aJ (oq fA (y:=(fl,.slice a (A1.now fl).length cap,.slice a (A1.now fl).length cap)) hi _) ?_
  refine aJ (ak.pick [6,0] rfl) ?_
  refine aJ (ak.join _ _ _) ?_
  have ji:(files.set i (fl,.slice a (A1.now fl).length cap,.slice a (A1.now fl).length cap)).map (·.1)=files.map (·.1):=by
   rw[List.map_set]
   apply List.ext_getElem?
   grind
  have hfi:=gD.adp
  simp only at hfi
  have hwx:∀x∈wl,(∃a n c,x.2.2 = .slice a n c)∧x.1∈files.map (·.1):=fun x hx=>by
   obtain⟨j,hj⟩:=List.getElem?_of_mem hx
   obtain⟨y,hy,h1,_,h3⟩:=gD.writes.left hj
   obtain⟨a,c,h4,_⟩:=h3.shape
   refine⟨⟨_,_,_,h4⟩,?_⟩
   rw[hfi,h1]
   exact gD.eg y (List.mem_of_getElem? hy)
  refine cO [5,0] zr zr zr zr (yh ml wl (star (ae c5 (cl [ptr fl] 95)) (aU fA (files.set i (fl,.slice a (A1.now fl).length cap,.slice a (A1.now fl).length cap)))) 158 [ptr c5] (fun x=>decide (x.1=fl)) (by have:=gD.writes.1;simp only at this;omega) (fun x hx=>(hwx x hx).1)
   (fun x hx=>N2 c5 fl x.1 x.2.1 x.2.2 _ (by rw[ji,hfi];exact List.mem_map.2 ⟨_,List.mem_of_getElem? rX,rfl⟩) (by rw[ji];exact(hwx x hx).2) (by obtain⟨⟨a,n,c,h⟩,_⟩:=hwx x hx;rw[h];rfl))) rfl nq ?_
  rintro r _ rfl
  refine aP 0 rfl ?_
  rintro ar cr rfl
  refine go ?_
  refine ai (ak.pick [1] rfl) ?_
  refine ai (ak.part _ _ _) ?_
  refine ai (ak.pick [3,4,5,1,6,2] rfl) ?_
  refine ai (ew bd room bm ly _ od off maps ej _ gI _ _) ?_
  refine aO hE Tryz.func97 rfl _ rfl ⟨_,gD.synced hi rX,rfl,rfl⟩ (ak.fin [0] 2 zr zr)
 ·have hw:A.sync ok name=((A.find name ok).1,(A.find name ok).2.2):=by simp[Ab.sync,p5]
  rw[hw]at hE
  cases EC:(A.find name ok).2.1 with
  | none =>
   refine go ?_
   refine aC zr zr zr bE ?_
   intro c5
   refine go ?_
   refine fZ zr zr ?_ ?_
   ·intro _
    refine go ?_
    refine aO hE Tryz.func97 rfl _ rfl ⟨D',gD,rfl,rfl⟩ (ak.fin [1] 2 zr zr)
   ·intro h;exfalso;have:=of_decide_eq_false h;omega
  | some fl =>
   refine go ?_
   refine aC zr zr zr bE ?_
   intro c5
   refine go ?_
   refine fZ zr zr ?_ ?_
   ·intro _
    refine go ?_
    refine aO hE Tryz.func97 rfl _ rfl ⟨D',gD,rfl,rfl⟩ (ak.fin [1] 2 zr zr)
   ·intro h;exfalso;have:=of_decide_eq_false h;omega
abbrev O2:=List (Nat × List UInt8 × List UInt8)
structure kO(CF ej:fW)(files:List (Nat × Value × Value))(fs:O2)(ids:List Nat):Prop where
 all:fD (fun x y=>x.1=y.1∧lr ej x.2.1 y.2.1∧lr ej x.2.2 y.2.2) files fs
 sub:∀x∈CF,x∈ej
 ids:fs.map (·.1)=ids
 small:∀x∈fs,x.2.1.length≤1048576∧x.2.2.length≤1048576
def sP(stay:List UInt8)(i:Nat):Bool:=decide (i/8<stay.length∧((stay.getD (i/8) 0).toNat/2 ^ (i%8))%2=1)
theorem KR(g:Nat × List UInt8 × List UInt8→Nat × List UInt8 × List UInt8){fs:O2}(hn:(fs.map (·.1)).Nodup){x:List UInt8 × List UInt8}(hi:fs[i]?=some (f,x)):(fs.map fun y=>if y.1=f then g y else y)=fs.set i (g (f,x)):=by
 induction fs generalizing i with
 | nil=>simp at hi
 | cons y l ih =>
  simp only[List.map_cons,List.nodup_cons]at hn
  cases i with
  | zero =>
   simp at hi
   subst hi
   simp only[List.map_cons,if_true,List.set_cons_zero,List.cons.injEq,true_and]
   rw[List.map_congr_left (g:=id) (fun z hz=>?_),List.map_id]
   grind
  | succ i =>
   grind
def kO.get{CF ej:fW}{files:List (Nat × Value × Value)}{fs:O2}{ids:List Nat}(h:kO CF ej files fs ids)(hn:ids.Nodup)(hf:f∈ids) :
  ∃(j:Nat) (v1 v2:Value) (n s:List UInt8),files[j]?=some (f,v1,v2)∧fs[j]?=some (f,n,s)∧lr ej v1 n∧lr ej v2 s∧n.length≤1048576∧s.length≤1048576∧(fs.find? fun x=>decide (x.1=f))=some (f,n,s):=by
 rw[← h.ids]at hf hn
 obtain⟨⟨f',n,s⟩,hm,rfl⟩:=List.mem_map.1 hf
 obtain⟨i,hi⟩:=List.getElem?_of_mem hm
 obtain⟨⟨f2,v1,v2⟩,hx,h1,h2,h3⟩:=h.all.right hi
 simp only at h1 h2 h3
 subst h1
 exact⟨i,v1,v2,n,s,hx,hi,h2,h3,(h.small _ hm).1,(h.small _ hm).2,tD hn hi⟩
theorem kO.put{CF ej arrs':fW}{files:List (Nat × Value × Value)}{fs:O2}{ids:List Nat}(h:kO CF ej files fs ids)(hs:∀x∈ej,x∈arrs'){v1 v2:Value}{y:List UInt8 × List UInt8}(hj:fs[j]?=some (f,y))(h1:lr arrs' v1 n)(h2:lr arrs' v2 s)(hl:n.length≤1048576∧s.length≤1048576):kO CF arrs' (files.set j (f,v1,v2)) (fs.set j (f,n,s)) ids where
 all:=fD.set (h.all.mono fun x y tP=>⟨tP.1,tP.2.1.mono hs,tP.2.2.mono hs⟩) j ⟨rfl,h1,h2⟩
 sub x hx:=hs x (h.sub x hx)
 ids:=by
  rw[← h.ids,List.map_set]
  apply List.ext_getElem?
  grind
 small x hx:=by
  rcases List.mem_or_eq_of_mem_set hx with h'|rfl
  ·exact h.small x h'
  ·exact hl
theorem drop_cons{α:Type}{l:List α}{x:α}(h:l[i]?=some x):l.drop i=x::l.drop (i+1):=by
 have dJ:i<l.length:=by
  grind
 rw[List.drop_eq_getElem_cons dJ]
 grind
theorem zD{cq cut:Int}{ws:List (Nat × Nat × List UInt8)}{fs:O2}{a:Nat}{c:List UInt8}(h:ws[i]?=some (f,a,b))(hn:(fs.map (·.1)).Nodup)(hj:fs[j]?=some (f,n,s))(hk:Ab.kept stay cq cut i b=some c):Ab.jJ stay cq cut i (ws.drop i) fs=Ab.jJ stay cq cut (i+1) (ws.drop (i+1)) (fs.set j (f,n,bJ s a c)):=by
 rw[drop_cons h]
 simp only[Ab.jJ,hk]
 rw[tD hn hj]
 have:=KR (fun y=>(y.1,y.2.1,bJ s a c)) hn hj
 unfold Ab.lu
 grind
def zE{cq cut:Int}{ws:List (Nat × Nat × List UInt8)}{fs:O2}{a:Nat}(h:ws[i]?=some (f,a,b))(hk:Ab.kept stay cq cut i b=none):Ab.jJ stay cq cut i (ws.drop i) fs=Ab.jJ stay cq cut (i+1) (ws.drop (i+1)) fs:=by
 rw[drop_cons h]
 simp only[Ab.jJ,hk]
theorem Cf{cq cut:Int}{c:Nat}(hi:(i:Int)=cq)(hc:max 0 (min cut b.length)=(c:Int)):Ab.kept stay cq cut i b=if c=0 then none else some (b.take c):=by
 unfold Ab.kept
 rw[if_pos hi]
 have e:(max 0 (min cut (b.length:Int))).toNat=c:=by omega
 simp only[e]
 have VE:c≤b.length:=by omega
 by_cases h0:c=0
 ·simp[h0]
 ·have hlen:(b.take c).length=c:=by rw[List.length_take];omega
  grind
theorem MQ{cq cut:Int}(hi:(i:Int)≠cq):Ab.kept stay cq cut i b=if sP stay i=true then some b else none:=by
 unfold Ab.kept sP
 grind
def mark(S:List Nat)(fs:O2):O2:=fs.map fun x=>if x.1∈S then(x.1,x.2.2,x.2.2)else x
def Qn(fs:O2):mark [] fs=fs:=by simp[mark]
theorem Qp{S S':List Nat}(fs:O2)(h:∀x,x∈S↔x∈S'):mark S fs=mark S' fs:=by
 grind [mark]
def Qo(S:List Nat)(fs:O2):(mark S fs).map (·.1)=fs.map (·.1):=by
 unfold mark;rw[List.map_map];apply List.map_congr_left;intro x _;simp only[Function.comp];split <;> rfl
theorem Qm{S:List Nat}{fs:O2}(hn:(fs.map (·.1)).Nodup)(hj:(mark S fs)[j]?=some (f,n,s)):(mark S fs).set j (f,s,s)=mark (f::S) fs:=by
 have h1:=KR (fun y=>(y.1,y.2.2,y.2.2)) (by rw[Qo];exact hn) hj
 rw[← h1]
 unfold mark
 rw[List.map_map]
 apply List.map_congr_left
 grind
def Rel.crashed{D:Dk}{A:Ab}(h:Rel D A){last cq cut:Int}{q b1 b0:Nat}{nm:List (ByteArray × Nat)}{arrs':fW}{Rm:List (Nat × Value × Value)}{w p:Value}(hw:w = .slice none 0 0)(hp:p = .slice none 0 0)(hq:max 0 (min last ((A.aj.length:Int)-1))=q)(oG:A.aj[q]?=some nm)(hb:(b1,ff nm)∈D.maps)(hF:kO D.ej arrs' Rm (mark (Ab.reach (A.aj++[nm])) (Ab.jJ stay cq cut 0 A.writes A.fs)) (A.fs.map (·.1))) :
    Rel ⟨D.room,b1,.slice (some ⟨b0,0,none⟩) 1 1,w,p,false,D.maps,arrs',Rm,[b1],[]⟩ (A.dZ last stay cq cut):=by
  subst hw hp
  have bP:nm∈A.aj:=List.mem_of_getElem? oG
  have e:A.dZ last stay cq cut={ A with names:=nm,aj:=[nm],writes:=[],ec:=[],off:=false,fs:=mark (Ab.reach (A.aj++[nm])) (Ab.jJ stay cq cut 0 A.writes A.fs) }:=by
    have e1:(max 0 (min last ((A.aj.length:Int)-1))).toNat=q:=by omega
    have e2:A.aj.getD (max 0 (min last ((A.aj.length:Int)-1))).toNat []=nm:=by rw[e1,List.getD_eq_getElem?_getD,oG];rfl
    simp only[Ab.dZ,e2];rfl
  rw[e]
  have dU:∀st∈nm::[nm],st∈A.names::A.aj:=fun st hs=>by
    simp only[List.mem_cons,List.not_mem_nil,or_false]at hs
    rcases hs with rfl|rfl <;> exact List.mem_cons_of_mem _ bP
  exact
  { room:=h.room,off:=rfl,names:=hb,aj:=fD.one hb,fs:=hF.all,writes:=fD.nil,ec:=lr.nil _ _ _
    ids:=by simp only;rw[hF.ids];exact h.ids
    known:=fun st hs x hx=>by simp only;rw[hF.ids];exact h.known st (dU st hs) x hx
    eg:=by simp
    nodup:=fun st hs=>h.nodup st (dU st hs)
    gC:=hF.small
    ib:=by simp
    fF:=fun st hs=>h.fF st (dU st hs)
    ie:=h.ie,kr:=by simp,full:=by simp }
theorem OA(bd:Nat)(D:Dk)(A:Ab)(hR:Rel D A)(last cq cut:Int)(X:HP)(bv:Value)(stay:List UInt8)(hv:Vw X bv stay.length (bV stay))(fL:stay.length≤9223372036854775807)(bP:A.aj.length≤1000000000)(eW:A.writes.length≤1000000000)(h1 : -9223372036854775808≤last∧last≤9223372036854775807)(h2 : -9223372036854775808≤cq∧cq≤9223372036854775807)(h3 : -9223372036854775808≤cut∧cut≤9223372036854775807) :
  aD Tryz.prog 14 [ptr bd,.int .i64 last,bv,.int .i64 cq,.int .i64 cut] [gY bd D,X] (fun v H=>∃D',Rel D' (A.dZ last stay cq cut)∧H=[gY bd D',X]):=by
 obtain⟨a0,c0,rfl⟩:=hv.shape
 obtain⟨room,bm,ly,ml,od,off,maps,ej,files,gI,wl⟩:=D
 have hlen:=hR.aj.1
 have ach:=hR.writes.1
 have Gp:=hR.full
 have lY:0<A.aj.length:=List.length_pos_iff.2 Gp
 simp only at hlen ach
 refine aD.aw Tryz.func14 Tryz.ntmps14 fun G F R hE=>?_
 refine ai (iU _ _ _ _ _ _ _ _ _ _ _ _ _) ?_
 refine dN 4 rfl ?_
 rintro sa cs rfl
 refine aG (fun w=>Sat G w ([ae bd (cl [.int .i64 room,.map (some bm),.slice sa gI.length cs,ml,od,.bool off] 61),aF 57 1 (.slice sa gI.length cs) gI.length (gI.map fun b => .map (some b))])) (dj 0 18 (.act 18 .nil)) rfl aq aq aq (fun w hw=>hw.cL (ak.bF ([0,4]) rfl)) ?_
 refine go ?_
 refine LH 4 rfl ag ?_
 rintro bs os lA hs hvs
 simp only[Value.slice.injEq,true_and]at hs
 obtain⟨rfl,rfl⟩:=hs
 obtain⟨q,hq⟩:∃q:Nat,max 0 (min last ((gI.length:Int)-1))=q:=Int.eq_ofNat_of_zero_le ag
 have hqs:q<gI.length:=by omega
 refine bR q zr zr zr zr zr zr zr hq hqs ?_
 obtain⟨b1,pZ⟩:∃b1,gI[q]?=some b1:=⟨gI[q],by simp⟩
 refine bW 1 q zr zr zr hvs rfl (c := .map (some b1)) (by simp[pZ]) zr zr (go ?_)
 refine aJ (ak.pick [5] rfl) ?_
 refine aP 0 rfl ?_
 rintro wa wc rfl
 refine go ?_
 refine bB (fun s:Nat × fW × List (Nat × Value × Value) × List (Nat × List UInt8 × List UInt8)=>s.1≤wl.length∧kO ej s.2.1 s.2.2.1 s.2.2.2 (A.fs.map (·.1))∧Ab.jJ stay cq cut s.1 (A.writes.drop s.1) s.2.2.2=Ab.jJ stay cq cut 0 A.writes A.fs) (fun s=>wl.length-s.1)
  (fun s=>[(0,ptr bd),(2,.slice a0 stay.length c0),(3,.int .i64 cq),(4,.int .i64 cut),(38,.slice wa wl.length wc),(39,.int .i64 wl.length),(40,.int .i64 s.1)])
  (fun s=>aF 97 3 (.slice wa wl.length wc) wl.length (fE wl)::ae bd (cl [.int .i64 room,.map (some b1),.slice (some ⟨bs,os,none⟩) gI.length cs,.slice wa wl.length wc,od,.bool off] 61)::aU lH maps::bh 5 s.2.1::aU fA s.2.2.1::aF 57 1 (.slice (some ⟨bs,os,none⟩) gI.length cs) gI.length (gI.map fun b => .map (some b))::X::F)
  (0,ej,files,A.fs) ⟨by simp,⟨hR.fs,fun x h=>h,rfl,hR.gC⟩,rfl⟩ rfl ck (ak.refl _) ?_
 rintro⟨i,na,JB,VM⟩⟨hi,hF,hL⟩ ih
 simp only at hi hF hL
 refine go ?_
 refine au zr zr ?_ ?_
 ·intro dJ
  simp only at dJ
  have gz:i<wl.length:=by omega
  obtain⟨⟨fx,ax,bx⟩,hx⟩:∃x,wl[i]?=some x:=⟨wl[i],by simp[gz]⟩
  obtain⟨⟨fy,ay,sF⟩,hy,acf,ace,Zg⟩:=hR.writes.left hx
  simp only at acf ace Zg
  subst acf ace
  have SA:=Zg.mono hF.sub
  obtain⟨ba,bc,rfl,Re⟩:=Zg.shape
  refine go ?_
  refine jt 0 rfl ?_
  intro dO
  obtain⟨bw,ow,cw,hsw⟩:=dO.some (by rw[← List.length_pos_iff,gK,cE eL];omega)
  simp only[Value.slice.injEq,true_and]at hsw
  obtain⟨rfl,rfl⟩:=hsw
  refine bZ i 3 zr zr zr zr zr zr zr zr gz ?_
  refine cI (U:=aR) (es:=zC (fx,ax,.slice ba sF.length bc)) 0 (i*3) zr zr zr dO rfl (fun q v hq=>?_) zr zr zr ?_
  ·have Cm:q<3:=by
    grind [eL]
   rw[gK,cU eL hx q Cm];exact hq
  refine aC zr zr zr bE ?_
  intro bw1
  refine go ?_
  refine jN zr zr zr ag ?_
  refine az 46 (.int .i64 ((i/8:Nat):Int)) rfl (congrArg (Value.int .i64) (by show(i:Int)/8=((i/8:Nat):Int);omega)) ?_
  refine go ?_
  refine hJ zr zr zr zr ?_ ?_
  case' refine_2 =>
   intro zN
   refine go ?_
   refine bj 12 (.bool (sP stay i)) rfl (congrArg Value.bool (by
    unfold sP
    exact(decide_eq_false ag).symm)) ?_
  case' refine_1 =>
   intro zN
   obtain⟨bst,ost,cst,acp⟩:=hv.some (by rw[← List.length_pos_iff,bM];omega)
   simp only[Value.slice.injEq,true_and]at acp
   obtain⟨rfl,rfl⟩:=acp
   refine go ?_
   refine jN zr zr zr ag ?_
   refine az 53 (.int .i64 ((i/8:Nat):Int)) rfl (congrArg (Value.int .i64) (by show(i:Int)/8=((i/8:Nat):Int);omega)) ?_
   have H9:i/8<stay.length:=by omega
   refine go ?_
   refine bR (i/8) zr zr zr zr zr zr zr zr H9 (go ?_)
   obtain⟨sx,M1⟩:∃x,stay[i/8]?=some x:=⟨stay[i/8]'H9,by simp⟩
   refine vv (U:=aR) 7 zr zr zr (hv.cell (pP M1)) zr zr (go ?_)
   refine az 57 (.int .i64 ((i%2 ^ 3:Nat):Int)) rfl (congrArg (Value.int .i64) (pQ i 3 ag ag)) (go ?_)
   refine jN zr zr zr ag ?_
   have hsh:(sx.toNat:Int)/2 ^ (min (((i%2 ^ 3:Nat):Int).toNat) IntKind.u8.bits)=((sx.toNat/2 ^ (i%8):Nat):Int):=by
    have e1:min (((i%2 ^ 3:Nat):Int).toNat) IntKind.u8.bits=i%8:=by show min (i%8) 8=i%8;omega
    grind
   refine az 58 (.int .u8 ((sx.toNat/2 ^ (i%8):Nat):Int)) rfl (congrArg (Value.int .u8) hsh) ?_
   have hsb:sx.toNat/2 ^ (i%8)<256:=Nat.lt_of_le_of_lt (Nat.div_le_self _ _) sx.toNat_lt
   refine go ?_
   refine bj 12 (.bool (sP stay i)) rfl (congrArg Value.bool (by
    have:=JW _ hsb
    unfold sP
    rw[decide_eq_decide,List.getD_eq_getElem?_getD,M1]
    show IntKind.u8.wrap _=1↔_
    rw[this]
    simp only[Option.getD_some]
    omega)) ?_
  all_goals(
   generalize TA:sP stay i=told
   clear zN
   refine go ?_
   refine au zr zr ?_ ?_
   ·intro zM
    refine go ?_
    obtain⟨c,hc⟩:∃c:Nat,max 0 (min cut (sF.length:Int))=c:=Int.eq_ofNat_of_zero_le ag
    have VE:c≤sF.length:=by omega
    refine bt (p:=0) (q:=max 0 (min cut (sF.length:Int))) zr zr zr zr zr zr zr (Int.le_refl _) ag (.inr ag) ?_
    refine az 73 (.slice (sliceAt ba bc 0 1) c bc) rfl (by simp only[hc];rfl) ?_
    refine go ?_
    refine au zr zr ?_ ?_
    ·intro Lc
     have aac:c≠0:=by intro e;subst e;simp at Lc
     have hk:Ab.kept stay cq cut i sF=some (sF.take c):=by rw[Cf zM hc,if_neg aac]
     have Le:lr na (.slice (sliceAt ba bc 0 1) c bc) (sF.take c):=SA.cut 0 c ag
     have kQ:(sF.take c).length=c:=by rw[List.length_take];omega
     (obtain⟨j,v1,v2,n,s,hj,Vv,T9,Jt,H6,TB,Cp⟩:=hF.get hR.ids (hR.eg _ (List.mem_of_getElem? hy));have hwb:=hR.ib _ (List.mem_of_getElem? hy);simp only at hwb;have ZG:(VM.map (·.1)).Nodup:=(by rw[hF.ids];exact hR.ids);have aea:=gA s ax (sF.take c);refine ai (ak.pick [5] rfl) ?_;refine ai (iB fA hj _) ?_;refine aG (fun w=>Sat G w ([ae bw1 (cl [ptr fx,.int .i64 ax,(.slice (sliceAt ba bc 0 1) c bc)] 97),ae fx (cl [v1,v2] 101)])) (dj 0 11 (.act 11 (.st 12 (.st 13 (.act 14 .nil))))) rfl aq aq aq (fun w hw=>hw.cL (ak.bF ([2,0]) rfl)) ?_;refine go ?_;refine cO [6] rfl rfl rfl rfl (vL (bh 5 na) v2 _ s (sF.take c) ax (Jt.view _) (Le.view _) ag) rfl (fun _ _ w hp hw=>by obtain⟨_,_,_,_,rfl⟩:=hp;exact hw.cL (ak.bF [4,2] rfl)) ?_;rintro _ _⟨bl,pM,rfl,Gu,rfl⟩;refine go ?_;refine ai (ak.pick [2,3] rfl) ?_;refine ai (oq fA (y:=(fx,v1,.slice (some ⟨bl,0,none⟩) (bJ s ax (sF.take c)).length pM)) hj _) ?_;refine ai (ak.pick [1,2] rfl) ?_;refine ai (Az 5 bl _ na _) ?_;have VK:=hF.put (arrs':=(bl,bV (bJ s ax (sF.take c)))::na) (v1:=v1) (v2 := .slice (some ⟨bl,0,none⟩) (bJ s ax (sF.take c)).length pM) (n:=n) (s:=bJ s ax (sF.take c)) (fun x h=>List.mem_cons_of_mem _ h) Vv (T9.mono fun x h=>List.mem_cons_of_mem _ h) (lr.row Gu) ⟨H6,ag⟩;refine aM ih (i+1,_,_,_) rfl ⟨gz,VK,by rw[← hL];exact(zD hy ZG Vv hk).symm⟩ (by show _-(_+1)<_;omega) ck (ak.to [3,4,5,0,1,6,7] 1 zr zr zr))
    ·intro Lc
     have aac:c=0:=by rcases Nat.eq_zero_or_pos c with h|h;exact h;exact absurd (by simp;exact h) Lc
     have hk:Ab.kept stay cq cut i sF=none:=by rw[Cf zM hc,if_pos aac]
     refine go ?_
     (refine aM ih (i+1,na,JB,VM) rfl ⟨gz,hF,by rw[← hL];exact(zE hy hk).symm⟩ (by show _-(_+1)<_;omega) ck (ak.drop _ _))
   ·intro zM
    refine go ?_
    have hkk:=MQ (stay:=stay) (cut:=cut) (b:=sF) zM
    cases told with
    | false => 
     have hk:Ab.kept stay cq cut i sF=none:=by rw[hkk,TA];rfl
     refine go ?_
     (refine aM ih (i+1,na,JB,VM) rfl ⟨gz,hF,by rw[← hL];exact(zE hy hk).symm⟩ (by show _-(_+1)<_;omega) ck (ak.drop _ _))
    | true =>
     have hk:Ab.kept stay cq cut i sF=some sF:=by rw[hkk,TA];rfl
     have Le:lr na (.slice ba sF.length bc) sF:=SA
     have kQ:sF.length=sF.length:=rfl
     have VE:sF.length≤sF.length:=Nat.le_refl _
     refine go ?_
     (obtain⟨j,v1,v2,n,s,hj,Vv,T9,Jt,H6,TB,Cp⟩:=hF.get hR.ids (hR.eg _ (List.mem_of_getElem? hy));have hwb:=hR.ib _ (List.mem_of_getElem? hy);simp only at hwb;have ZG:(VM.map (·.1)).Nodup:=(by rw[hF.ids];exact hR.ids);have aea:=gA s ax sF;refine ai (ak.pick [5] rfl) ?_;refine ai (iB fA hj _) ?_;refine aG (fun w=>Sat G w ([ae bw1 (cl [ptr fx,.int .i64 ax,(.slice ba sF.length bc)] 97),ae fx (cl [v1,v2] 101)])) (dj 0 11 (.act 11 (.st 12 (.st 13 (.act 14 .nil))))) rfl aq aq aq (fun w hw=>hw.cL (ak.bF ([2,0]) rfl)) ?_;refine go ?_;refine cO [6] rfl rfl rfl rfl (vL (bh 5 na) v2 _ s sF ax (Jt.view _) (Le.view _) ag) rfl (fun _ _ w hp hw=>by obtain⟨_,_,_,_,rfl⟩:=hp;exact hw.cL (ak.bF [4,2] rfl)) ?_;rintro _ _⟨bl,pM,rfl,Gu,rfl⟩;refine go ?_;refine ai (ak.pick [2,3] rfl) ?_;refine ai (oq fA (y:=(fx,v1,.slice (some ⟨bl,0,none⟩) (bJ s ax sF).length pM)) hj _) ?_;refine ai (ak.pick [1,2] rfl) ?_;refine ai (Az 5 bl _ na _) ?_;have VK:=hF.put (arrs':=(bl,bV (bJ s ax sF))::na) (v1:=v1) (v2 := .slice (some ⟨bl,0,none⟩) (bJ s ax sF).length pM) (n:=n) (s:=bJ s ax sF) (fun x h=>List.mem_cons_of_mem _ h) Vv (T9.mono fun x h=>List.mem_cons_of_mem _ h) (lr.row Gu) ⟨H6,ag⟩;refine aM ih (i+1,_,_,_) rfl ⟨gz,VK,by rw[← hL];exact(zD hy ZG Vv hk).symm⟩ (by show _-(_+1)<_;omega) ck (ak.to [3,4,5,0,1,6,7] 1 zr zr zr)))
 ·intro fO
  simp only at fO
  have hiw:i=wl.length:=by omega
  subst hiw
  have ae4:VM=Ab.jJ stay cq cut 0 A.writes A.fs:=by rw[← hL,List.drop_of_length_le ag];rfl
  obtain⟨nm,oG,hbm⟩:=hR.aj.left pZ
  have iy:fD (fun b es=>(b,ff es)∈maps) (gI++[b1]) (A.aj++[nm]):=fD.snoc hR.aj hbm
  refine aG (fun w=>Sat G w ([ae bd (cl [.int .i64 room,.map (some b1),.slice (some ⟨bs,os,none⟩) gI.length cs,.slice wa wl.length wc,od,.bool off] 61)])) (dj 0 8 (.st 11 (.act 8 (.act 9 (.st 10 .nil))))) rfl aq aq aq (fun w hw=>hw.cL (ak.bF ([1]) rfl)) ?_
  refine go ?_
  refine ao zr zr zr zr zr zr zr zr zr (fun _ w hw=>hw.cL (ak.bF ([2]) rfl)) ?_
  intro b0
  refine aT (mm:=1) (news:=[.map (some b1)]) 6 0 zr zr zr zr zr zr zr zr zr zr zr zr (Vw.ae rfl) rfl (by simp[Value.oneCell']) ag (by show _*8≤_;omega) (fun _=>rfl) (fun _ w hw=>hw.cL (ak.bF ([2]) rfl)) ?_
  intro v'
  have e1:(gI.map fun b=>Value.map (some b))++[.map (some b1)]=(gI++[b1]).map fun b=>Value.map (some b):=by simp
  have e2:gI.length+1=(gI++[b1]).length:=by simp
  have e3:(gI++[b1]).length≤1000000001:=by rw[← e2];omega
  rw[e1,e2]
  refine aP 6 rfl ?_
  rintro av cv rfl
  refine go ?_
  refine bB (fun s:Nat × List (Nat × Value × Value) × List Nat=>s.1≤(gI++[b1]).length∧kO ej na s.2.1 (mark s.2.2 VM) (A.fs.map (·.1))∧∀x,x∈s.2.2↔x∈Ab.reach ((A.aj++[nm]).take s.1)) (fun s=>(gI++[b1]).length-s.1)
   (fun s=>[(0,ptr bd),(104,.slice av (gI++[b1]).length cv),(105,.int .i64 (gI++[b1]).length),(106,.int .i64 s.1)])
   (fun s=>aF 57 1 (.slice av (gI++[b1]).length cv) (gI++[b1]).length ((gI++[b1]).map fun b => .map (some b))::ae bd (cl [.int .i64 room,.map (some b1),.slice (some ⟨bs,os,none⟩) gI.length cs,.slice wa wl.length wc,od,.bool off] 61)::aU lH maps::bh 5 na::aU fA s.2.1::X::F)
   (0,JB,[]) ⟨Nat.zero_le _,by rw[Qn];exact hF,by simp[Ab.reach]⟩ rfl ck (ak.to [6,2,3,4,5,7] 2 zr zr zr) ?_
  rintro⟨i,Rl,S⟩⟨OW,VK,VJ⟩ Tw
  simp only at OW VK VJ
  refine go ?_
  refine au zr zr ?_ ?_
  ·intro dJ
   simp only at dJ
   have x8:i<(gI++[b1]).length:=by omega
   obtain⟨bi,hbi⟩:∃x,(gI++[b1])[i]?=some x:=⟨(gI++[b1])[i],by rw[List.getElem?_eq_getElem]⟩
   obtain⟨es,tA,hm⟩:=iy.left hbi
   have ac7:es∈A.names::A.aj:=by
    grind
   refine go ?_
   refine LH 0 rfl ag ?_
   rintro bn on cn OS KY
   simp only[Value.slice.injEq,true_and]at OS
   obtain⟨rfl,rfl⟩:=OS
   refine bR i zr zr zr zr zr zr zr zr x8 ?_
   refine aX 0 i zr zr zr KY rfl (c := .map (some bi)) (by simp only[List.getElem?_map,hbi,Option.map_some]) zr zr ?_
   refine go ?_
   obtain⟨jm,hjm⟩:=List.getElem?_of_mem hm
   refine aJ (ak.pick [2] rfl) ?_
   refine aJ (iB lH hjm _) ?_
   refine yC (kv:=Value.string) (es:=ff es) (U:=aR) 0 zr zr zr zr zr (fun _=>rfl) bE ?_
   intro it
   refine go ?_
   have acH:=hR.nodup _ ac7
   have Gm:(ff es).map (·.1)=es.map (·.1):=by simp[ff,Function.comp_def]
   refine bB (fun s:List ByteArray × List (Nat × Value × Value) × List Nat=>(s.1.Nodup∧∀x∈s.1,x∈es.map (·.1))∧kO ej na s.2.1 (mark s.2.2 VM) (A.fs.map (·.1))∧∀x,x∈s.2.2↔x∈S∨∃k∈s.1,(k,x)∈es) (fun s=>es.length-s.1.length)
    (fun s=>[(111,.pointer (some ⟨it,0,none⟩)),(0,ptr bd),(104,.slice (some ⟨bn,on,none⟩) (gI++[b1]).length cv),(105,.int .i64 (gI++[b1]).length),(106,.int .i64 i)])
    (fun s=>bU Value.string bi it (ff es) s.1::aU lH (maps.eraseIdx jm)::aF 57 1 (.slice (some ⟨bn,on,none⟩) (gI++[b1]).length cv) (gI++[b1]).length ((gI++[b1]).map fun b => .map (some b))::ae bd (cl [.int .i64 room,.map (some b1),.slice (some ⟨bs,os,none⟩) gI.length cs,.slice wa wl.length wc,od,.bool off] 61)::bh 5 na::aU fA s.2.1::X::F)
    ([],Rl,S) ⟨⟨List.nodup_nil,by simp⟩,VK,by simp⟩ rfl ck (ak.refl _) ?_
   rintro⟨dn,aai,S3⟩⟨⟨uP,aco⟩,hF3,hS3⟩ ih3
   simp only at uP aco hF3 hS3
   refine go ?_
   refine Ek (kv:=Value.string) (es:=ff es) 0 rfl xY.inj zr zr (fun _=>rfl) gf bE ?_ ?_
   ·intro afG
    refine go ?_
    refine ai ((ak.head (B:=[lH (bi,ff es)]) (fun h hs=>by obtain⟨h',s,hm⟩:=rC h hs;exact⟨h',s,gu hm⟩)).trans (qm lH hjm _)) ?_
    have hS4:∀x,x∈S3↔x∈Ab.reach ((A.aj++[nm]).take (i+1)):=by
     intro x
     rw[hS3 x,VJ x,List.take_add_one,tA]
     simp only[Ab.reach,Option.toList_some,List.flatMap_append,List.flatMap_cons,List.flatMap_nil,List.append_nil,List.mem_append]
     grind
    refine go ?_
    have ih:=Tw
    refine aM ih (i+1,aai,S3) rfl ⟨x8,hF3,hS4⟩ (by show _-(_+1)<_;omega) ck (ak.to [1,2,0,3,4,5] 0 zr zr zr)
   ·intro key v gp zP
    obtain⟨⟨k',f⟩,hx,OR⟩:=List.mem_map.1 gp
    simp only[Prod.mk.injEq]at OR
    obtain⟨rfl,rfl⟩:=OR
    refine go ?_
    refine yG (kv:=Value.string) (es:=ff es) 0 rfl xY.inj zr zr gp (go ?_)
    obtain⟨j,v1,v2,n,s,hj,Vv,T9,Jt,H6,TB,Cp⟩:=hF3.get hR.ids (hR.known _ ac7 _ hx)
    obtain⟨a2,c2,rfl,_⟩:=Jt.shape
    refine aJ (ak.pick [5] rfl) ?_
    refine aJ (iB fA hj _) (go ?_)
    refine ai (oq fA (y:=(f,.slice a2 s.length c2,.slice a2 s.length c2)) hj _) ?_
    have hF4:=hF3.put (v1 := .slice a2 s.length c2) (v2 := .slice a2 s.length c2) (n:=s) (s:=s) (fun _ h=>h) Vv Jt Jt ⟨TB,TB⟩
    rw[Qm (by rw[hF.ids];exact hR.ids) Vv]at hF4
    have ZI:k'∈es.map (·.1):=List.mem_map.2 ⟨_,hx,rfl⟩
    have La:(k'::dn).Nodup:=List.nodup_cons.2 ⟨zP,uP⟩
    have wz:∀x∈k'::dn,x∈es.map (·.1):=fun x hx=>by
     grind
    have zS:=wj La wz
    rw[List.length_map,List.length_cons]at zS
    have hS4:∀x,x∈f::S3↔x∈S∨∃k∈k'::dn,(k,x)∈es:=by
     intro x
     rw[List.mem_cons,hS3 x]
     constructor
     ·grind
     ·rintro(h|⟨k,hk,hkx⟩)
      ·grind
      ·rcases List.mem_cons.1 hk with rfl|hk
       ·left
        have h1:=pC acH hx
        rw[pC acH hkx]at h1
        grind
       grind
    have ih:=ih3
    refine aM ih (k'::dn,_,f::S3) rfl ⟨⟨La,wz⟩,hF4,hS4⟩ (by simp only[List.length_cons];omega) ck (ak.to [1,2,3,4,5,0,6] 0 zr zr zr)
  ·intro ac4
   simp only at ac4
   have tR:i=(gI++[b1]).length:=by omega
   subst tR
   rw[iy.1,List.take_length]at VJ
   rw[Qp VM VJ,ae4]at VK
   refine go ?_
   refine ao zr zr zr zr zr zr zr zr zr bE ?_
   intro b2
   refine go ?_
   refine ai (eS 57 1 b2 1 1 [.map (some b1)] [] _ rfl (Nat.le_refl _) (by simp)) ?_
   refine ai (bK 97 3 none _) ?_
   refine ai (ak.pick [3,4,5,6,1,0,7] rfl) ?_
   refine ai (ew bd room b1 (.slice (some ⟨b2,0,none⟩) 1 1) (.slice none 0 0) (.slice none 0 0) false maps na Rl [b1] [] _) ?_
   have Ri:=hR.crashed (b0:=b2) zr zr (by rw[← hlen];exact hq) oG hbm VK
   refine cd hE Tryz.func14 rfl _ rfl ⟨_,Ri,rfl⟩ (ak.fin [0,1] 1 zr zr)
def J3(bd:Nat)(D:Dk)(A:Ab)(hR:Rel D A)(old name:ByteArray)(bP:A.aj.length≤1000000000) :
  aD Tryz.prog 163 [ptr bd,.string old,.string name] [gY bd D]
   (fun v H=>∃D',Rel D' (A.rename ([old,name].all isName) old name).2∧H=[gY bd D']∧v = .int .i64 (A.rename ([old,name].all isName) old name).1):=by
 refine aD.aw Tryz.func163 Tryz.ntmps163 fun G F R hE=>?_
 refine go ?_
 refine bG zr zr bE ?_
 intro Av
 refine bG zr zr bE ?_
 intro Au
 refine go ?_
 cases EC:(A.find old ([old,name].all isName)).2.1 with
 | none =>
  refine aG (fun w=>Sat G w ([ae Au (cl [.string name] 9),ae Av (cl [.string old] 9)])) (dj 0 4 (.fork (.act 4 (.fork (.act 5 (.fork (.act 6 (dj 7 3 (.act 10 (.act 11 (.st 12 .nil))))) (.act 10 (.act 6 (dj 7 3 (.act 11 (.st 12 .nil))))))) (.act 10 (.act 5 (.act 6 (dj 7 3 (.act 11 (.st 12 .nil)))))))) (.act 10 (.act 4 (.act 5 (.act 6 (dj 7 3 (.act 11 (.st 12 .nil))))))))) rfl aq aq aq (fun w hw=>hw.cL (ak.bF ([0,1]) rfl)) ?_
  repeat'(first|(with_reducible intro p6)|refine eZ ?_|refine rh ?_ ?_|refine au zr zr ?_ ?_|(refine ao zr zr zr zr zr zr zr zr zr (fun _ w hw=>hw.cL (by first|exact ak.bF [1,2] rfl|exact ak.bF [2,3] rfl)) ?_;intro _)|(refine aC zr zr zr (fun _ w hw=>hw.cL (by first|exact ak.bF [1,2] rfl|exact ak.bF [2,3] rfl|exact ak.bF [3,4] rfl)) ?_;intro _)|(refine cO [0] rfl rfl rfl rfl (jZ _ _ [old,name] (Vw.ae rfl) (by simp)) rfl (fun _ _ w hp hw=>by obtain⟨_,rfl⟩:=hp;exact(fun _ w hw=>hw.cL (by first|exact ak.bF [1,2] rfl|exact ak.bF [2,3] rfl)) 0 w hw) ?_;rintro _ _⟨rfl,rfl⟩)|(refine cO [1] rfl rfl rfl rfl (jZ _ _ [old,name] (Vw.ae rfl) (by simp)) rfl (fun _ _ w hp hw=>by obtain⟨_,rfl⟩:=hp;exact(fun _ w hw=>hw.cL (by(exact ak.bF [2,3] rfl))) 0 w hw) ?_;rintro _ _⟨rfl,rfl⟩)|(refine cO [3] rfl rfl rfl rfl (kF bd D A hR old ([old,name].all isName)) rfl (fun _ _ w hp hw=>by obtain⟨_,_,rfl,_⟩:=hp;exact(fun _ w hw=>hw.cL (by(exact ak.bF [2,3] rfl))) 0 w hw) ?_;rintro _ _⟨D',gD,rfl,rfl⟩;rw[EC])|(refine cO [4] rfl rfl rfl rfl (kF bd D A hR old ([old,name].all isName)) rfl (fun _ _ w hp hw=>by obtain⟨_,_,rfl,_⟩:=hp;exact(fun _ w hw=>hw.cL (by(exact ak.bF [3,4] rfl))) 0 w hw) ?_;rintro _ _⟨D',gD,rfl,rfl⟩;rw[EC])|(refine aV ?_;first|refine cF 0 (fun w hw=>(fun _ w hw=>hw.cL (by(exact ak.bF [3,4] rfl))) 0 w hw) zr zr zr zr zr zr zr zr zr ?_|refine cF 1 (fun w hw=>(fun _ w hw=>hw.cL (by(exact ak.bF [3,4] rfl))) 0 w hw) zr zr zr zr zr zr zr zr zr ?_|refine cF 2 (fun w hw=>(fun _ w hw=>hw.cL (by(exact ak.bF [3,4] rfl))) 0 w hw) zr zr zr zr zr zr zr zr zr ?_))
  all_goals(
   have p5:¬(A.find old ([old,name].all isName)).1=0:=fun h=>by obtain⟨_,fl,h1,_⟩:=mX h;rw[EC]at h1;cases h1
   have hw:A.rename ([old,name].all isName) old name=((A.find old ([old,name].all isName)).1,(A.find old ([old,name].all isName)).2.2):=by
    unfold Ab.rename
    generalize A.find old ([old,name].all isName)=z at p5 EC ⊢
    obtain⟨e,fo,A1⟩:=z
    simp only at EC
    subst EC
    cases e <;> rfl
   rw[hw]at hE
   first|(exfalso;omega)|refine aO hE Tryz.func163 rfl _ rfl ⟨D',gD,rfl,rfl⟩ (ak.fin [0] 4 zr zr)|refine aO hE Tryz.func163 rfl _ rfl ⟨D',gD,rfl,rfl⟩ (ak.fin [1] 4 zr zr))
 | some fl =>
  refine aG (fun w=>Sat G w ([ae Au (cl [.string name] 9),ae Av (cl [.string old] 9)])) (dj 0 4 (.fork (.act 4 (.fork (.act 5 (.fork (.act 6 (dj 7 3 (.act 10 (.act 11 (.st 12 .nil))))) (.act 10 (.act 6 (dj 7 3 (.act 11 (.st 12 .nil))))))) (.act 10 (.act 5 (.act 6 (dj 7 3 (.act 11 (.st 12 .nil)))))))) (.act 10 (.act 4 (.act 5 (.act 6 (dj 7 3 (.act 11 (.st 12 .nil))))))))) rfl aq aq aq (fun w hw=>hw.cL (ak.bF ([0,1]) rfl)) ?_
  repeat'(first|(with_reducible intro p6)|refine eZ ?_|refine rh ?_ ?_|refine au zr zr ?_ ?_|(refine ao zr zr zr zr zr zr zr zr zr (fun _ w hw=>hw.cL (by first|exact ak.bF [1,2] rfl|exact ak.bF [2,3] rfl)) ?_;intro _)|(refine aC zr zr zr (fun _ w hw=>hw.cL (by first|exact ak.bF [1,2] rfl|exact ak.bF [2,3] rfl|exact ak.bF [3,4] rfl)) ?_;intro _)|(refine cO [0] rfl rfl rfl rfl (jZ _ _ [old,name] (Vw.ae rfl) (by simp)) rfl (fun _ _ w hp hw=>by obtain⟨_,rfl⟩:=hp;exact(fun _ w hw=>hw.cL (by first|exact ak.bF [1,2] rfl|exact ak.bF [2,3] rfl)) 0 w hw) ?_;rintro _ _⟨rfl,rfl⟩)|(refine cO [1] rfl rfl rfl rfl (jZ _ _ [old,name] (Vw.ae rfl) (by simp)) rfl (fun _ _ w hp hw=>by obtain⟨_,rfl⟩:=hp;exact(fun _ w hw=>hw.cL (by(exact ak.bF [2,3] rfl))) 0 w hw) ?_;rintro _ _⟨rfl,rfl⟩)|(refine cO [3] rfl rfl rfl rfl (kF bd D A hR old ([old,name].all isName)) rfl (fun _ _ w hp hw=>by obtain⟨_,_,rfl,_⟩:=hp;exact(fun _ w hw=>hw.cL (by(exact ak.bF [2,3] rfl))) 0 w hw) ?_;rintro _ _⟨D',gD,rfl,rfl⟩;rw[EC])|(refine cO [4] rfl rfl rfl rfl (kF bd D A hR old ([old,name].all isName)) rfl (fun _ _ w hp hw=>by obtain⟨_,_,rfl,_⟩:=hp;exact(fun _ w hw=>hw.cL (by(exact ak.bF [3,4] rfl))) 0 w hw) ?_;rintro _ _⟨D',gD,rfl,rfl⟩;rw[EC])|(refine aV ?_;first|refine cF 0 (fun w hw=>(fun _ w hw=>hw.cL (by(exact ak.bF [3,4] rfl))) 0 w hw) zr zr zr zr zr zr zr zr zr ?_|refine cF 1 (fun w hw=>(fun _ w hw=>hw.cL (by(exact ak.bF [3,4] rfl))) 0 w hw) zr zr zr zr zr zr zr zr zr ?_|refine cF 2 (fun w hw=>(fun _ w hw=>hw.cL (by(exact ak.bF [3,4] rfl))) 0 w hw) zr zr zr zr zr zr zr zr zr ?_))
  all_goals(
   have p5:(A.find old ([old,name].all isName)).1=0:=by
    rcases Nat.eq_zero_or_pos (A.find old ([old,name].all isName)).1 with h|h
    ·exact h
    ·exfalso
     unfold Ab.find at EC h
     split at EC
     ·rename_i h1
      rw[if_pos h1]at h
      cases hl:(A.meet ([old,name].all isName)).2.look old with
      | none=>rw[hl]at EC;cases EC
      | some f=>rw[hl]at h;simp at h
     ·cases EC)
  any_goals (exfalso;omega)
  all_goals(
   obtain⟨_,fl',ac5,gp⟩:=mX p5
   rw[EC]at ac5
   cases ac5
   have hw:A.rename ([old,name].all isName) old name=(0,(A.find old ([old,name].all isName)).2.2.n7 (Ab.jT (Ab.ef (A.find old ([old,name].all isName)).2.2.names old) name fl)):=by
    unfold Ab.rename
    generalize A.find old ([old,name].all isName)=z at p5 EC ⊢
    obtain⟨e,fo,A1⟩:=z
    simp only at p5 EC
    subst p5 EC
    rfl
   rw[hw]at hE
   have QK:(A.find old ([old,name].all isName)).2.2.aj.length≤1000000000:=by rw[(oL A old _).2.2.1];exact bP
   generalize (A.find old ([old,name].all isName)).2.2=A1 at *
   have QJ:D'.gI.length≤1000000000:=by rw[gD.aj.1];exact QK
   have hN:=gD.fF _ (List.mem_cons_self ..)
   have dJ:=Ux gp
   have zR:=Py (Ab.ef A1.names old) name fl
   have aaa:∀b' v,Rel { D' with bm:=b',maps:=(b',ff (Ab.jT (Ab.ef A1.names old) name fl))::D'.maps,ly:=v,gI:=D'.gI++[b'] } (A1.n7 (Ab.jT (Ab.ef A1.names old) name fl)):=fun b' v=>gD.n7
    (fun x hx=>by
     rcases Px hx with rfl|hx
     ·have:=gD.known _ (List.mem_cons_self ..) _ gp;exact this
     ·exact gD.known _ (List.mem_cons_self ..) _ (GS hx).1)
    (Iv (Aj (gD.nodup _ (List.mem_cons_self ..)) old) name fl) ag
   first|(refine aJ (ak.pick ([4,0,3,1]) rfl) ?_;refine aJ (ak.bX [_,_,_] _) ?_;refine cO [1,0] zr zr zr zr (mY (α:=Unit) bd D' A1.names gD.names 206 #[ptr Av,ptr _,ptr Au] _ (fun _=>Ab.jT (Ab.ef A1.names old) name fl) (fun _=>emp) (fun _=>True) (fun b'=>aD.post (qS b' Av _ Au fl A1.names old name) (fun v H h=>⟨(),trivial,h⟩)) QJ) rfl nq ?_;rintro _ _⟨_,b',v,_,rfl⟩;refine go ?_;refine aO hE Tryz.func163 rfl _ rfl ⟨_,aaa b' v,rfl,rfl⟩ (ak.fin [0] 2 zr zr))|(refine aJ (ak.pick ([4,1,3,0]) rfl) ?_;refine aJ (ak.bX [_,_,_] _) ?_;refine cO [1,0] zr zr zr zr (mY (α:=Unit) bd D' A1.names gD.names 206 #[ptr Av,ptr _,ptr Au] _ (fun _=>Ab.jT (Ab.ef A1.names old) name fl) (fun _=>emp) (fun _=>True) (fun b'=>aD.post (qS b' Av _ Au fl A1.names old name) (fun v H h=>⟨(),trivial,h⟩)) QJ) rfl nq ?_;rintro _ _⟨_,b',v,_,rfl⟩;refine go ?_;refine aO hE Tryz.func163 rfl _ rfl ⟨_,aaa b' v,rfl,rfl⟩ (ak.fin [0] 2 zr zr))|(refine aJ (ak.pick ([4,2,3,0]) rfl) ?_;refine aJ (ak.bX [_,_,_] _) ?_;refine cO [1,0] zr zr zr zr (mY (α:=Unit) bd D' A1.names gD.names 206 #[ptr Av,ptr _,ptr Au] _ (fun _=>Ab.jT (Ab.ef A1.names old) name fl) (fun _=>emp) (fun _=>True) (fun b'=>aD.post (qS b' Av _ Au fl A1.names old name) (fun v H h=>⟨(),trivial,h⟩)) QJ) rfl nq ?_;rintro _ _⟨_,b',v,_,rfl⟩;refine go ?_;refine aO hE Tryz.func163 rfl _ rfl ⟨_,aaa b' v,rfl,rfl⟩ (ak.fin [0] 2 zr zr)))
end Go.Proofs.YthnfckodljbgbaaGreatDoor
namespace Go.SL
def EG(M:fW)(s:Nat)(v:Value)(n:Nat)(cs:List Value):Prop :=
 cs.length=n*s∧∃a cap,v = .slice a n cap∧n≤cap∧(n=0∨∃b o row,a=Option.some ⟨b,o,none⟩∧(b,row)∈M∧(row.drop o).take cs.length=cs)
def EG.mono{M M':fW}{s n:Nat}{v:Value}{cs:List Value}(h:EG M s v n cs)(hs:∀x∈M,x∈M'):EG M' s v n cs:=by
 obtain⟨hl,a,cap,hv,hc,h0|⟨b,o,row,ha,hm,ht⟩⟩:=h
 ·exact⟨hl,a,cap,hv,hc,.inl h0⟩
 ·exact⟨hl,a,cap,hv,hc,.inr ⟨b,o,row,ha,hs _ hm,ht⟩⟩
theorem EG.nil(M:fW)(s:Nat)(a:Option Addr)(cap:Nat):EG M s (.slice a 0 cap) 0 []:=⟨by simp,a,cap,rfl,Nat.zero_le _,.inl rfl⟩
def EG.shape{M:fW}{s n:Nat}{v:Value}{cs:List Value}(h:EG M s v n cs):∃a cap,v = .slice a n cap∧n≤cap:=by
 obtain⟨_,a,cap,hv,hc,_⟩:=h;exact⟨a,cap,hv,hc⟩
def EG.view{M:fW}{s n:Nat}{v:Value}{cs:List Value}(h:EG M s v n cs)(e:TypeId):Vw (bh e M) v n cs:=by
 obtain⟨hl,a,cap,rfl,hc,h0|⟨b,o,row,ha,hm,ht⟩⟩:=h
 ·have:cs=[]:=List.eq_nil_of_length_eq_zero (by rw[hl,h0,Nat.zero_mul])
  subst h0 this;exact⟨a,cap,rfl,.inl rfl⟩
 ·have h1:Vw (ae b (cl row e)) (.slice a n cap) n cs:=by rw[ha];exact Vw.ae ht
  exact h1.mono fun h hs=>D9 (List.mem_map.2 ⟨(b,row),hm,rfl⟩) hs
theorem Fg(e:TypeId)(s n:Nat)(v:Value)(cs:List Value)(M:fW):∀h,star (aF e s v n cs) (bh e M) h→∃M',(EG M' s v n cs∧∀x∈M,x∈M')∧Sep [bh e M'] h:=by
 rintro h⟨h1,h2,⟨hl,⟨a,rfl,hn,he⟩|⟨b,o,cap,pre,cf,rfl,hp,hn,hc,wD⟩⟩,hM,hd,hj⟩
 ·have:cs=[]:=List.eq_nil_of_length_eq_zero (by rw[hl,hn,Nat.zero_mul])
  subst hn this
  exact⟨M,⟨EG.nil M s a 0,fun _ h=>h⟩,gu (Ah ⟨h1,h2,he,hM,hd,hj⟩)⟩
 ·refine⟨(b,pre++cs++cf)::M,⟨⟨hl,_,cap,rfl,hn,.inr ⟨b,o,pre++cs++cf,rfl,by simp,?_⟩⟩,fun x hx=>by simp[hx]⟩,gu ⟨h1,h2,wD,hM,hd,hj⟩⟩
  grind
def aD.conv{P:Program}{f:FuncId}{args:List Value}{Pre RV:List HP}{Post xV:Value→List HP→Prop}(c:aD P f args Pre Post)(h:ak RV Pre)(hp:∀v H,Post v H→∃H',xV v H'∧ak H H'):aD P f args RV xV :=
 ⟨c.1,fun G w F hw=>(c.2 G w F (hw.cL (ak.append F h))).mono fun e w' h'=>let ⟨v,H,he,TJ,hs⟩:=h';let ⟨H',hq,hE⟩:=hp v H TJ;⟨v,H',he,hq,hs.cL (ak.append F hE)⟩⟩
def aD.frame{P:Program}{f:FuncId}{args:List Value}{Pre:List HP}{Post:Value→List HP→Prop}(X:List HP)(c:aD P f args Pre Post):aD P f args (Pre++X) (fun v H=>∃H',Post v H'∧H=H'++X) :=
 ⟨c.1,fun G w F hw=>(c.2 G w (X++F) (by rw[List.append_assoc]at hw;exact hw)).mono fun e w' h'=>let ⟨v,H,he,TJ,hs⟩:=h';⟨v,H++X,he,⟨H,TJ,rfl⟩,by rw[List.append_assoc];exact hs⟩⟩
end Go.SL
namespace Go.Proofs.YthnfckodljbgbaaGreatDoor
open Go Go.SL
def gi{σ:Type}:List (σ→Nat→σ→Prop)→σ→Nat→σ→Prop
 | [],x,e,y=>e=0∧y=x
 | s::ss,x,e,y=>∃e1 x1,s x e1 x1∧((e1≠0∧e=e1∧y=x1)∨(e1=0∧gi ss x1 e y))
attribute [local irreducible] J K aD Ends ae aF aL bU bo aU bh
def aE(bd:Nat)(A:Ab):HP:=fun h=>∃D,Rel D A∧gY bd D h
def gR{bd:Nat}{D:Dk}{A:Ab}(h:Rel D A)(H:List HP):ak (gY bd D::H) (aE bd A::H):=ak.fold (B:=[_]) fun h' hs=>⟨h',sub.refl h',D,h,ez hs⟩
def Mb{G:cQ}{w:World}{bd:Nat}{A:Ab}{H:List HP}(hs:Sat G w (aE bd A::H)):∃D,Rel D A∧Sat G w (gY bd D::H):=by
 obtain⟨t,o,u,hp,OT,h1,h2,⟨D,hR,hA⟩,hH,hd,he⟩:=hs
 exact⟨D,hR,t,o,u,hp,OT,h1,h2,hA,hH,hd,he⟩
end Go.Proofs.YthnfckodljbgbaaGreatDoor
namespace Go.Proofs.YthnfckodljbgbaaGreatDoor
open Go Go.SL
def iz{P:Program}{f:FuncId}{args:List Value}{bd:Nat}{A:Ab}{Pre:List HP}{Post xV:Value→List HP→Prop}(hc:P.funcs[f]?.map mZ=some true)(h:∀D,Rel D A→aD P f args (gY bd D::Pre) Post)(hp:∀v H,Post v H→∃H',xV v H'∧ak H H'):aD P f args (aE bd A::Pre) xV :=
  ⟨hc,fun G w F hw=>by
    obtain⟨D,hR,Ch⟩:=Mb hw
    exact((h D hR).2 G w F Ch).mono fun e w' h'=>let ⟨v,H,he,TJ,hs⟩:=h';let ⟨H',hq,hE⟩:=hp v H TJ;⟨v,H',he,hq,hs.cL (ak.append F hE)⟩⟩
attribute [local irreducible] J K aD Ends ae aF aL bU bo aU bh
def J6(bd:Nat)(A:Ab):aD Tryz.prog 15 [ptr bd] [aE bd A] (fun v H=>v = .bool A.off∧H=[aE bd A]):=by
 refine iz aq (Post:=fun v H=>v = .bool A.off∧H=[aE bd A]) (fun D hR=>?_) (fun v H h=>⟨H,h,ak.refl _⟩)
 obtain⟨room,bm,ly,ml,od,off,maps,ej,files,gI,wl⟩:=D
 have iw:=hR.off
 simp only at iw
 subst iw
 refine aD.aw Tryz.func15 Tryz.ntmps15 fun G F R hE=>?_
 refine ai (iU _ _ _ _ _ _ _ _ _ _ _ _ _) (go ?_)
 refine ai ((ak.pick [0,1,2,3,4,5] rfl).trans (ew _ _ _ _ _ _ _ _ _ _ _ _ _)) ?_
 refine ai (gR hR _) ?_
 refine ad hE Tryz.func15 zr zr ⟨rfl,rfl⟩
def J7(room:Nat)(h1:1≤room)(h2:room≤1073741824):aD Tryz.prog 6 [.int .i64 room] [] (fun v H=>∃bd,v = .tuple #[ptr bd,.int .i64 0]∧H=[aE bd (Ab.new room)]) :=
 (RY room h1 h2).conv (ak.refl _) (by rintro v H⟨bd,D,hR,rfl,rfl⟩;exact⟨_,⟨bd,rfl,rfl⟩,gR hR _⟩)
def vl(bd:Nat)(A:Ab)(name:ByteArray):aD Tryz.prog 123 [ptr bd,.string name] [aE bd A] (fun v H=>H=[aE bd A]∧v = .tuple #[.int .i64 (A.size name).1,.int .i64 (A.size name).2]) :=
 iz aq (Post:=fun v H=>∃D,Rel D A∧H=[gY bd D]∧v = .tuple #[.int .i64 (A.size name).1,.int .i64 (A.size name).2]) (fun D hR=>(RP bd D A hR name).conv (ak.refl _) (by rintro v H⟨rfl,rfl⟩;exact⟨_,⟨D,hR,rfl,rfl⟩,ak.refl _⟩)) (by rintro v H⟨D,hR,rfl,rfl⟩;exact⟨_,⟨rfl,rfl⟩,gR hR _⟩)
def Ed(bd:Nat)(A:Ab)(name:ByteArray)(at_ n:Int):aD Tryz.prog 124 [ptr bd,.string name,.int .i64 at_,.int .i64 n] [aE bd A]
  (fun v H=>∃r,H=[aE bd A,aF 5 1 r (A.read name at_ n).1.length (bV (A.read name at_ n).1)]∧v = .tuple #[r,.int .i64 (A.read name at_ n).2]) :=
 iz aq (Post:=fun v H=>∃D r,Rel D A∧H=[aF 5 1 r (A.read name at_ n).1.length (bV (A.read name at_ n).1),gY bd D]∧v = .tuple #[r,.int .i64 (A.read name at_ n).2])
  (fun D hR=>(RT bd D A hR name at_ n).conv (ak.refl _) (by rintro v H⟨r,rfl,rfl⟩;exact⟨_,⟨D,r,hR,rfl,rfl⟩,ak.refl _⟩)) (by rintro v H⟨D,r,hR,rfl,rfl⟩;exact⟨_,⟨r,rfl,rfl⟩,(ak.pick [1,0] rfl).trans (gR hR _)⟩)
def xg(bd:Nat)(A:Ab)(name:ByteArray)(bP:A.aj.length≤1000000000):aD Tryz.prog 82 [ptr bd,.string name] [aE bd A]
  (fun v H=>∃f,f ∉ A.fs.map (·.1)∧H=[aE bd (A.create (isName name) name f).2]∧v = .int .i64 (A.create (isName name) name f).1) :=
 iz aq (fun D hR=>Ke bd D A hR name bP) (by rintro v H⟨f,D',hf,hR,rfl,rfl⟩;exact⟨_,⟨f,hf,rfl,rfl⟩,gR hR _⟩)
def wY(bd:Nat)(A:Ab)(name:ByteArray)(bP:A.aj.length≤1000000000):aD Tryz.prog 106 [ptr bd,.string name] [aE bd A]
  (fun v H=>H=[aE bd (A.remove (isName name) name).2]∧v = .int .i64 (A.remove (isName name) name).1) :=
 iz aq (fun D hR=>J4 bd D A hR name bP) (by rintro v H⟨D',hR,rfl,rfl⟩;exact⟨_,⟨rfl,rfl⟩,gR hR _⟩)
def vj(bd:Nat)(A:Ab)(name:ByteArray)(at_:Int)(X:HP)(bv:Value)(b:List UInt8)(hv:Vw X bv b.length (bV b))(eW:A.writes.length≤1000000000)(kQ:b.length≤1000000000)(SB : -9223372036854775808≤at_∧at_≤9223372036854775807) :
  aD Tryz.prog 95 [ptr bd,.string name,.int .i64 at_,bv] [aE bd A,X]
   (fun v H=>H=[aE bd (A.write (fK name at_ b) name at_.toNat b).2,X]∧v = .int .i64 (A.write (fK name at_ b) name at_.toNat b).1) :=
 iz aq (fun D hR=>NX bd D A hR name at_ X bv b hv eW kQ SB) (by rintro v H⟨D',hR,rfl,rfl⟩;exact⟨_,⟨rfl,rfl⟩,gR hR _⟩)
def vk(bd:Nat)(A:Ab)(name:ByteArray)(eW:A.writes.length≤1000000000):aD Tryz.prog 97 [ptr bd,.string name] [aE bd A]
  (fun v H=>H=[aE bd (A.sync (isName name) name).2]∧v = .int .i64 (A.sync (isName name) name).1) :=
 iz aq (fun D hR=>RO bd D A hR name eW) (by rintro v H⟨D',hR,rfl,rfl⟩;exact⟨_,⟨rfl,rfl⟩,gR hR _⟩)
def pT(bd:Nat)(A:Ab):aD Tryz.prog 67 [ptr bd] [aE bd A]
  (fun v H=>H=[aE bd A.cp.2]∧v = .int .i64 A.cp.1) :=
 iz aq (fun D hR=>Bv bd D A hR) (by rintro v H⟨D',hR,rfl,rfl⟩;exact⟨_,⟨rfl,rfl⟩,gR hR _⟩)
def CO(bd:Nat)(A:Ab)(old name:ByteArray)(bP:A.aj.length≤1000000000):aD Tryz.prog 163 [ptr bd,.string old,.string name] [aE bd A]
  (fun v H=>H=[aE bd (A.rename ([old,name].all isName) old name).2]∧v = .int .i64 (A.rename ([old,name].all isName) old name).1) :=
 iz aq (fun D hR=>J3 bd D A hR old name bP) (by rintro v H⟨D',hR,rfl,rfl⟩;exact⟨_,⟨rfl,rfl⟩,gR hR _⟩)
def Sk(bd:Nat)(A:Ab)(last cq cut:Int)(X:HP)(bv:Value)(stay:List UInt8)(hv:Vw X bv stay.length (bV stay))(fL:stay.length≤9223372036854775807)(bP:A.aj.length≤1000000000)(eW:A.writes.length≤1000000000)(h1 : -9223372036854775808≤last∧last≤9223372036854775807)(h2 : -9223372036854775808≤cq∧cq≤9223372036854775807)(h3 : -9223372036854775808≤cut∧cut≤9223372036854775807) :
  aD Tryz.prog 14 [ptr bd,.int .i64 last,bv,.int .i64 cq,.int .i64 cut] [aE bd A,X] (fun v H=>H=[aE bd (A.dZ last stay cq cut),X]) :=
 iz aq (fun D hR=>OA bd D A hR last cq cut X bv stay hv fL bP eW h1 h2 h3) (by rintro v H⟨D',hR,rfl⟩;exact⟨_,rfl,gR hR _⟩)
end Go.Proofs.YthnfckodljbgbaaGreatDoor
namespace Go.Proofs.YthnfckodljbgbaaGreatDoor
open Go Go.SL
def kM(A B:Ab):Prop:=B.aj.length≤A.aj.length+1∧B.writes.length≤A.writes.length+1
theorem rK(A:Ab)(n:ByteArray)(ok:Bool):(A.find n ok).2.2.aj.length=A.aj.length∧(A.find n ok).2.2.writes.length=A.writes.length:=by
 grind [oL]
theorem Cs(A:Ab)(ok:Bool):(A.meet ok).2.aj.length=A.aj.length∧(A.meet ok).2.writes.length=A.writes.length:=by
 unfold Ab.meet
 grind
def qH(A:Ab)(ok:Bool)(n:ByteArray):kM A (A.remove ok n).2:=by
 have h:=rK A n ok
 unfold Ab.remove
 split
 ·rename_i f A1 he
  rw[he]at h
  simp only at h
  constructor <;> simp[Ab.n7] <;> omega
 ·rename_i e o A1 _ he
  rw[he]at h
  simp only at h
  constructor <;> simp only <;> omega
def qG(A:Ab)(ok:Bool)(o n:ByteArray):kM A (A.rename ok o n).2:=by
 have h:=rK A o ok
 unfold Ab.rename
 split
 ·rename_i f A1 he
  rw[he]at h
  simp only at h
  constructor <;> simp[Ab.n7] <;> omega
 ·rename_i e o A1 _ he
  rw[he]at h
  simp only at h
  constructor <;> simp only <;> omega
theorem qI(A:Ab)(ok:Bool)(n:ByteArray)(f:Nat):kM A (A.create ok n f).2:=by
 have h:=Cs A ok
 unfold Ab.create
 split
 ·split
  ·constructor <;> simp only <;> omega
  split
  ·constructor <;> simp only <;> omega
  ·constructor <;> simp[Ab.n7] <;> omega
 ·constructor <;> simp only <;> omega
def lk(A:Ab)(ok:Bool)(n:ByteArray)(at_:Nat)(b:List UInt8):kM A (A.write ok n at_ b).2:=by
 have h:=rK A n ok
 unfold Ab.write
 split
 ·split
  ·split
   ·constructor <;> simp only <;> omega
   ·constructor <;> simp <;> omega
  ·constructor <;> simp only <;> omega
 ·constructor <;> simp only <;> omega
theorem ll(A:Ab)(ok:Bool)(n:ByteArray):kM A (A.sync ok n).2:=by
 have h:=rK A n ok
 unfold Ab.sync
 split
 ·split
  ·constructor
   ·grind
   grind
  ·constructor <;> simp only <;> omega
 ·constructor <;> simp only <;> omega
def kD(A:Ab):kM A A.cp.2:=by
 have h:=Cs A true
 unfold Ab.cp
 split
 ·constructor <;> simp only[List.length_singleton] <;> omega
 ·constructor <;> simp only <;> omega
instance ad1(n:ByteArray)(K:List ByteArray):Decidable (n∈K):=decidable_of_iff (K.any (fun x=>decide (x=n))=true) (by rw[List.any_eq_true];exact⟨fun⟨x,hx,h⟩=>of_decide_eq_true h ▸ hx,fun h=>⟨n,h,decide_eq_true rfl⟩⟩)
def eP(A:Ab):List ByteArray:=A.names.map (·.1)
def IW{α:Type}{a b:List α}(ha:a.Nodup)(hb:b.Nodup)(h:∀n,n∈a↔n∈b):a.length=b.length :=
 ((List.perm_ext_iff_of_nodup ha hb).2 h).length_eq
def qs(l:List ByteArray):List (List UInt8):=(l.map fun b=>b.data.toList).mergeSort fun x y=>decide (x≤y)
def ug(l:List ByteArray):(qs l).Pairwise (·≤·) :=
 (List.pairwise_mergeSort (le:=fun x y:List UInt8=>decide (x≤y)) (fun a b c h1 h2=>decide_eq_true (List.le_trans (of_decide_eq_true h1) (of_decide_eq_true h2))) (fun a b=>by simpa using List.le_total a b) _).imp fun h=>of_decide_eq_true h
def nB(l:List ByteArray):(qs l).Perm (l.map fun b=>b.data.toList):=List.mergeSort_perm _ _
def Iu{a b:List ByteArray}(h:a.Perm b):qs a=qs b :=
 List.Perm.eq_of_pairwise (fun x y _ _ h1 h2=>List.le_antisymm h1 h2) (ug a) (ug b) ((nB a).trans ((h.map _).trans (nB b).symm))
def vU(l:List ByteArray):(qs l).length=l.length:=by rw[(nB l).length_eq,List.length_map]
def kS:List UInt8:=[115,45]
def kB:List UInt8:=[98,45]
def kN:List UInt8:=[110,45]
def kI:List UInt8:=[105,45]
def pK(A:Ab)(nm:ByteArray):Bool:=(A.look nm).isSome
def eN(A:Ab)(nm:ByteArray):Option (List UInt8):=match A.look nm with
 | none=>none
 | some f=>if A.off then none else some (A.now f)
def pF(A:Ab)(d:Dg):Option (List Bl):=(eN A (dv kI d)).bind Ak
def jS(A:Ab)(d:Dg):Bool:=match eN A (dv kB d)with
 | none=>false
 | some b=>decide (dW b=d)
def gk(A:Ab)(d:Dg):Bool:=match pF A d with
 | none=>false
 | some x=>decide (zx x=d) && x.all fun y=>jS A y.d
def tW(A:Ab):Nat:=(A.names.map fun x=>if(j0 kB x.1).isSome then(A.now x.2).length else 0).sum
def gh(A:Ab):List ByteArray:=(qs (eP A)).map strOf
abbrev Bw:=Ab→Nat→Ab→Prop
def gm(nm:ByteArray):Bw:=fun A e B=>∃f,f ∉ A.fs.map (·.1)∧(e,B)=A.create (isName nm) nm f
def gL(nm:ByteArray):Bw:=fun A e B=>(e,B)=A.remove (isName nm) nm
def fh(nm:ByteArray)(at_:Nat)(b:List UInt8):Bw:=fun A e B=>(e,B)=A.write (fK nm at_ b) nm at_ b
def fR(nm:ByteArray):Bw:=fun A e B=>(e,B)=A.sync (isName nm) nm
def iN(o n:ByteArray):Bw:=fun A e B=>(e,B)=A.rename ([o,n].all isName) o n
def cP:Bw:=fun A e B=>(e,B)=A.cp
def nh(kind:List UInt8)(right:Ab→Dg→Bool):List ByteArray→Bw
 | [],A,e,B=>e=0∧B=A
 | nm::l,A,e,B=>match j0 kind nm with
  | none=>nh kind right l A e B
  | some d=>if right A d then nh kind right l A e B else ∃e1 A1,gL nm A e1 A1∧((e1≠0∧e=e1∧B=A1)∨(e1=0∧nh kind right l A1 e B))
def eQ(kind:List UInt8)(right:Ab→Dg→Bool):Bw:=fun A=>nh kind right (gh A) A
def sH:Bw:=fun A e B=>∃e1 A1,gi [eQ kB jS,eQ kN (fun _ _=>false),eQ kI gk] A e1 A1 ∧
 if e1=0∧A1.names.length<A.names.length then cP A1 e B else e=e1∧B=A1
structure fg where
 A:Ab
 bz:List (Dg × Bl)
 brk:Bool
def gT(l:List (Dg × Bl))(d:Dg):Option Bl:=(l.find? fun x=>decide (x.1=d)).map (·.2)
def KI(s:fg)(x:Bl):Bool:=decide (gT s.bz x.d=some x)
def mG(s:fg):Int:=tW s.A+(s.bz.map (·.2.size)).sum
def Bt(ss:List Bw)(s:fg)(e:Nat)(t:fg):Prop:=∃B,gi ss s.A e B∧t=⟨B,s.bz,s.brk || decide (e≠0)⟩
def lf(s:fg)(x:Bl):Nat:=if s.brk then 10 else if KI s x then 0 else 4
def fS(x:Bl):ByteArray:=dv kS x.d
def fB(x:Bl):ByteArray:=dv kB x.d
def FQ(o n:ByteArray):List Bw:=[fR o,iN o n,cP]
def eh(q:Int)(x:Bl)(s:fg)(e:Nat)(t:fg):Prop :=
 if s.brk then e=10∧t=s else if bI x=false then e=1∧t=s else if(gT s.bz x.d).isSome∨pK s.A (fB x)then e=5∧t=s
 else if q<mG s+x.size then e=11∧t=s
 else if pK s.A (fS x)then e=0∧t=⟨s.A,s.bz++[(x.d,x)],s.brk⟩
 else ∃e1 s1,Bt [gm (fS x),cP] s e1 s1∧((e1≠0∧e=e1∧t=s1)∨(e1=0∧e=0∧t=⟨s1.A,s1.bz++[(x.d,x)],s1.brk⟩))
def mh(x:Bl)(i:Int)(b:List UInt8)(s:fg)(e:Nat)(t:fg):Prop :=
 if lf s x≠0 then e=lf s x∧t=s else match dI x i with
  | none=>e=1∧t=s
  | some (at_,n)=>if(b.length:Int)≠n then e=1∧t=s else Bt [fh (fS x) at_.toNat b] s e t
def kY(x:Bl)(s:fg)(e:Nat)(t:fg):Prop:=if lf s x≠0 then e=lf s x∧t=s else Bt [fR (fS x)] s e t
def qL(l:List (Dg × Bl))(d:Dg):List (Dg × Bl):=l.filter fun x => !decide (x.1=d)
def iq(x:Bl)(s:fg)(e:Nat)(t:fg):Prop :=
 if lf s x≠0 then e=lf s x∧t=s else ∃s1,Bt [gL (fS x)] s e s1∧t=if e≠0 then s1 else⟨s1.A,qL s1.bz x.d,s1.brk⟩
def fC(x:Bl)(s:fg)(e:Nat)(t:fg):Prop :=
 if lf s x≠0 then e=lf s x∧t=s
 else if jz x ((eN s.A (fS x)).getD [])=false then ∃e1,iq x s e1 t∧e=if e1≠0 then e1 else 8
 else ∃s1,Bt (FQ (fS x) (fB x)) s e s1∧t=if e≠0 then s1 else⟨s1.A,qL s1.bz x.d,s1.brk⟩
end Go.Proofs.YthnfckodljbgbaaGreatDoor
namespace Go.SL
section
variable{P:Program}{U:Tr}[hU:gq P U]{f:FuncId}{n:Nat}{R:Ending→World→Prop}{G:cQ}{k:List Item}{L:fY}{H H':List HP}{S:World→Prop}{all:Array Oper}{rest:Pl}{ty:TypeId}{pos:String}{af:Array Edge}{gd:Option (Nat × Bool)}{m:Bool}{d:Tmp}
theorem e8{Hs:List HP}{t:TypeId}{x:Operand}{b o off nn cap:Nat}{bY:Ty}{es cs:List Value}{A:HP}(i idx:Nat)(hd:Nat.blt d n=true)(hx:ev L x=some (.pointer (some ⟨b,off,none⟩)))(hi:cM Hs i=some A)(hv:Vw A (.slice (some ⟨b,o,none⟩) nn cap) nn cs)(iw:off=o+idx)(tA:∀j v,es[j]?=some v→cs[idx+j]?=some v)(ht:U.get t=some bY)(hg:bY.isAgg=true)(hl:Nat.beq es.length bY.info.size=true)(h:J P f n R G (fun w=>Sat G w Hs) all rest k ((d,.agg es.toArray)::L) H):J P f n R G (fun w=>Sat G w Hs) all (.cons true true ⟨some d,.load t x,ty,pos,af,gd⟩ rest) k L H :=
 mi hd (fun a w ha hw=>by
  have hc:∀j v,es[j]?=some v→w.cell? ⟨b,off+j,none⟩=some v:=fun j v hj=>by
   obtain⟨h,hh,hA⟩:=Sat.lN hw hi
   have:=hv.cell (tA j v hj) h hA
   grind [ep]
  simp[execOp,ha.ev hx,iP (P:=P) ht hg (Nat.eq_of_beq_eq_true hl) hc]) h
end
end Go.SL
namespace Go.SL
open Go
def fM(l:List jR):iV (wV l)=true:=by
 induction l with
 | nil=>rfl
 | cons x l ih =>
  show(Value.oneCell' (u32 x) && iV (wV l))=true
  rw[ih];rfl
section
variable{P:Program}{U:Tr}[hU:gq P U]{f:FuncId}{n:Nat}{R:Ending→World→Prop}{G:cQ}{k:List Item}{L:fY}{H H':List HP}{S:World→Prop}{all:Array Oper}{rest:Pl}{ty:TypeId}{pos:String}{af:Array Edge}{gd:Option (Nat × Bool)}{m:Bool}{d:Tmp}
def aaB{t:TypeId}{x:Operand}{j:IntKind}{p:Int}(hd:Nat.blt d n=true)(hx:ev L x=some (.int j p))(hr:gy j (-p))(h:J P f n R G S all rest k ((d,.int j (-p))::L) H):J P f n R G S all (.cons m true ⟨some d,.unOp .neg t x,ty,pos,af,gd⟩ rest) k L H :=
 dF hd (fun a ha w=>by
  have e:j.wrap (0-p) = -p:=by rw[Int.zero_sub];exact cV hr
  simp only[execOp,ha.ev hx,Sem.run_bind,Result.andThen_ok,Op.unary,Op.intArith]
  simp
  simpa using e) h
def aH{t:TypeId}{x:Operand}{b:Nat}{bY:Ty}{l:List Value}{e:TypeId}(i:Nat)(hd:Nat.blt d n=true)(hx:ev L x=some (.pointer (some ⟨b,0,none⟩)))(hi:cM H i=some (ae b (cl l e)))(ht:U.get t=some bY)(hg:bY.isAgg=true)(hl:l.length=bY.info.size)(h:J P f n R G S all rest k ((d,.agg l.toArray)::L) H):J P f n R G S all (.cons false true ⟨some d,.load t x,ty,pos,af,gd⟩ rest) k L H :=
 AT (U:=U) hd hx ht hg (by rw[hl];exact Nat.beq_refl _) (fun w hw j v hj=>by rw[ea (hw.uV hi),Nat.zero_add];exact hj) h
def bT{Hs:List HP}{t:TypeId}{x:Operand}{b:Nat}{bY:Ty}{l:List Value}{e:TypeId}(i:Nat)(hd:Nat.blt d n=true)(hx:ev L x=some (.pointer (some ⟨b,0,none⟩)))(hi:cM Hs i=some (ae b (cl l e)))(ht:U.get t=some bY)(hg:bY.isAgg=true)(hl:l.length=bY.info.size)(h:J P f n R G (fun w=>Sat G w Hs) all rest k ((d,.agg l.toArray)::L) H):J P f n R G (fun w=>Sat G w Hs) all (.cons true true ⟨some d,.load t x,ty,pos,af,gd⟩ rest) k L H :=
 mi hd (fun a w ha hw=>by
  have hw:Sat G w Hs:=hw
  simp[execOp,ha.ev hx,iP (P:=P) ht hg hl (fun j v hj=>by rw[ea (hw.uV hi),Nat.zero_add];exact hj)]) h
def cH{t:TypeId}{x y:Operand}{b:Nat}{bY:Ty}{l l':List Value}{e:TypeId}(i:Nat)(hS:∀w,Sat G w H'→Sx rest S w)(hx:ev L x=some (.pointer (some ⟨b,0,none⟩)))(hy:ev L y=some (.agg l'.toArray))(ht:U.get t=some bY)(iY:l'.length=bY.info.size)(df:l'≠[])(fq:iV l'=true)(hi:cM H i=some (ae b (cl l e)))(ZL:l.length=l'.length)(hp:l7 i (ae b (cl l' e)) H [] = .mk H')(h:J P f n R G S all rest k L H'):J P f n R G S all (.cons false true ⟨none,.store t x y,ty,pos,af,gd⟩ rest) k L H:=by
 have hc:bu (.agg l'.toArray)=l':=by simp[bu]
 refine lq (U:=U) (l':=l') i hS hx hy ht (by rw[hc,iY];exact Nat.beq_refl _) (by rw[hc];cases l' with|nil=>exact absurd rfl df|cons _ _=>rfl) (by rw[hc];exact fq) hi (by rw[hc];omega) (by rw[hc];simp[ZL]) hp h
def hG{t:TypeId}{x y:Operand}{b off:Nat}{bY:Ty}{l:List Value}{u:Value}{e:TypeId}(i:Nat)(hS:∀w,Sat G w H'→Sx rest S w)(hx:ev L x=some (.pointer (some ⟨b,off,none⟩)))(hy:ev L y=some u)(ht:U.get t=some bY)(iY:Nat.beq bY.info.size 1=true)(hc:bu u=[u])(fq:iV [u]=true)(hi:cM H i=some (ae b (cl l e)))(hq:off<l.length)(hp:l7 i (ae b (cl (l.set off u) e)) H [] = .mk H')(h:J P f n R G S all rest k L H'):J P f n R G S all (.cons false true ⟨none,.store t x y,ty,pos,af,gd⟩ rest) k L H:=by
 refine lq (U:=U) (l':=l.set off u) i hS hx hy ht (by rw[hc,Nat.eq_of_beq_eq_true iY];rfl) (by rw[hc];rfl) (by rw[hc];exact fq) hi (by rw[hc];simp;omega) ?_ hp h
 rw[hc,List.set_eq_take_append_cons_drop,if_pos hq]
 simp
def eE{t elem:TypeId}{bY te:Ty}{x y:Operand}{j:IntKind}{b o len:Nat}{p:Int}(q:Nat)(hd:Nat.blt d n=true)(ht:U.get t=some bY)(hu:bY.gH = .array len elem)(he:U.get elem=some te)(hs:Nat.beq te.info.size 1=true)(hx:ev L x=some (.pointer (some ⟨b,o,none⟩)))(hy:ev L y=some (.int j p))(hq:p=(q:Int))(dJ:q<len)(h:J P f n R G S all rest k ((d,.pointer (some ⟨b,o+q,none⟩))::L) H):J P f n R G S all (.cons m true ⟨some d,.indexAddr t x y,ty,pos,af,gd⟩ rest) k L H:=by
 subst hq
 refine AU hd ht hu he hx hy ag ag ?_
 rw[Nat.eq_of_beq_eq_true hs,Int.toNat_natCast,Nat.mul_one]
 exact h
def ni{t:TypeId}{x:Operand}{b off:Nat}{bY:Ty}{l:List Value}{e:TypeId}{v:Value}(i q:Nat)(hd:Nat.blt d n=true)(hx:ev L x=some (.pointer (some ⟨b,off,none⟩)))(hi:cM H i=some (ae b (cl l e)))(hq:off=q)(hv:l[q]?=some v)(ht:U.get t=some bY)(hg:bY.isAgg=false)(h:J P f n R G S all rest k ((d,v)::L) H):J P f n R G S all (.cons false true ⟨some d,.load t x,ty,pos,af,gd⟩ rest) k L H:=by
 subst hq
 exact fz (U:=U) i hd hx hi (by rw[ed];exact hv) ht hg h
def e9{Hs:List HP}{t:TypeId}{x:Operand}{b off:Nat}{bY:Ty}{l:List Value}{e:TypeId}{v:Value}(i q:Nat)(hd:Nat.blt d n=true)(hx:ev L x=some (.pointer (some ⟨b,off,none⟩)))(hi:cM Hs i=some (ae b (cl l e)))(hq:off=q)(hv:l[q]?=some v)(ht:U.get t=some bY)(hg:bY.isAgg=false)(h:J P f n R G (fun w=>Sat G w Hs) all rest k ((d,v)::L) H):J P f n R G (fun w=>Sat G w Hs) all (.cons true true ⟨some d,.load t x,ty,pos,af,gd⟩ rest) k L H:=by
 subst hq
 exact iI (U:=U) i hd hx hi (by rw[ed];exact hv) ht hg h
def nj{t e:TypeId}{bY te:Ty}{nn:Nat}{z:Array Value}{parts:Array (Nat × Operand)}{cs:List Value}(hd:Nat.blt d n=true)(ht:U.get t=some bY)(hu:bY.gH = .array nn e)(he:U.get e=some te)(hz:bY.info.zero=some (.agg z))(hb:wR L te.info.size z.toList parts.toList = .mk cs)(h:J P f n R G S all rest k ((d,.agg cs.toArray)::L) H):J P f n R G S all (.cons m true ⟨some d,.build t parts,ty,pos,af,gd⟩ rest) k L H:=by
 have kh:∀a w,Has n L a→(execOp a.eval ⟨some d,.build t parts,ty,pos,af,gd⟩).run P w = .ok (.value (.agg cs.toArray)) w:=fun a w ha=>by
  have hf:=xS ha te.info.size parts.toList z.toList cs hb
  rw[Array.toArray_toList]at hf
  simp only[execOp,Instr.build,Sem.run_bind,dX ht hz,run_underlying ht,Result.andThen_ok,hu,run_sizeOf he,Value.cells,Array.toList_map,hf,Sem.run_pure]
 cases m with
 | false=>exact kJ hd (fun a w ha _=>kh a w ha) h
 | true=>exact mi hd (fun a w ha _=>kh a w ha) h
end
end Go.SL
namespace Go.SL
open Go
def R3{P:Program}{f:FuncId}{n:Nat}{R:Ending→World→Prop}{G:cQ}{ds:List Nat}{k k0:List Item}{L:fY}{H H':List HP}{fn:Func}{F:List HP}{Post:Value→List HP→Prop}{v:Value}{Hq:List HP}(hR:Ends R G F Post)(hf:P.funcs[f]?=some fn)(hk:iE 1000 k0 = .mk (.code .ret::k))(he:ak H (ds.map (fun r=>ae r (.deferred (some [])))++H'))(I':∀a w,Has n L a→Sat { G with ds:=ds } w H'→(results fn a.tmps).run P w = .ok v w)(fU:Post v Hq)(Jl:ak H' (Hq++F)):K P f n R { G with ds:=ds } k0 L H:=by
 refine gW 1000 hk ?_
 intro a w ha hw cs
 have QO:({ G with ds:=ds }:cQ).ro=none:=hR.1.1
 rw[QO]
 obtain⟨w',lg,hs⟩:=qD (P:=P) ds { bf none f a (.code .ret::k)with mode := .returning } cs w rfl ha.2 ⟨H',hw.cL he,rfl⟩
 exact⟨_,w',_,hR.2 _ _ w' fU (by have:=lg.cL Jl;exact this),Steps.trans (.one (stepR_ret rfl)) hs,rfl,rfl,rfl,rfl,fn,hf,I' a w' ha.1 lg⟩
def zf{P:Program}{U:Tr}[hU:gq P U]{n:Nat}{L:fY}{a:Act}{p b:Nat}{t e:TypeId}{bY:Ty}{u:Value}{G:cQ}{w:World}{H:List HP}(i:Nat)(ha:Has n L a)(hw:Sat G w H)(hp:ek L p=some (.pointer (some ⟨b,0,none⟩)))(ht:U.get t=some bY)(hg:bY.isAgg=false)(hi:cM H i=some (ae b (cl [u] e))):(Df a.tmps (.cell p t)).run P w = .ok u w:=by
 have hc:w.cell? ⟨b,0,none⟩=some u:=by rw[ea (hw.uV hi)];rfl
 have TR:=po (P:=P) (w:=w) ht hg hc
 have g1:a.tmps.getD p undef = .pointer (some ⟨b,0,none⟩):=by simp[Array.getD_eq_getD_getElem?,ha.2.2 p _ hp]
 simp only[Df,g1,asAddr,Sem.run_bind,Sem.run_pure,Result.andThen_ok]
 simpa[Instr.loadAt,Instr.sureAddr]using TR
def tL{P:Program}{U:Tr}[hU:gq P U]{f:FuncId}{n:Nat}{R:Ending→World→Prop}{G:cQ}{ds:List Nat}{k k0:List Item}{L:fY}{H H':List HP}{fn:Func}{F:List HP}{Post:Value→List HP→Prop}{p q b1 b2:Nat}{t1 t2 e1 e2:TypeId}{ty1 ty2:Ty}{u1 u2:Value}{Hq:List HP}(i j:Nat)(hR:Ends R G F Post)(hf:P.funcs[f]?=some fn)(hk:iE 1000 k0 = .mk (.code .ret::k))(Bp:fn.results.toList=[.cell p t1,.cell q t2])(hp:ek L p=some (.pointer (some ⟨b1,0,none⟩)))(hq:ek L q=some (.pointer (some ⟨b2,0,none⟩)))(rU:U.get t1=some ty1)(Sz:ty1.isAgg=false)(Zn:U.get t2=some ty2)(Q':ty2.isAgg=false)(he:ak H (ds.map (fun r=>ae r (.deferred (some [])))++H'))(hi:cM H' i=some (ae b1 (cl [u1] e1)))(hj:cM H' j=some (ae b2 (cl [u2] e2)))(fU:Post (.tuple #[u1,u2]) Hq)(Jl:ak H' (Hq++F)):K P f n R { G with ds:=ds } k0 L H:=by
 refine R3 hR hf hk he (fun a w ha hw=>?_) fU Jl
 have h1:=zf (P:=P) i ha hw hp rU Sz hi
 have h2:=zf (P:=P) j ha hw hq Zn Q' hj
 rw[pw,Array.mapM_eq_mapM_toList,Bp]
 simp_all
def aZ{P:Program}{f:FuncId}{n:Nat}{R:Ending→World→Prop}{G:cQ}{k:List Item}{L:fY}{H F:List HP}{Post:Value→List HP→Prop}(hE:Ends R G F Post)(h:K P f n R { G with ds:=[] } k L H):K P f n R G k L H:=by
 have:({ G with ds:=[] }:cQ)=G:=by have:=hE.1.2;cases G;simp_all
 rw[this]at h
 exact h
def qW{P:Program}{f:FuncId}{n:Nat}{R:Ending→World→Prop}{G:cQ}{k:List Item}{L:fY}{H:List HP}{ps:Array Tmp}{assign body:Code}{k0:List Item}{g:Operand}{gid:FuncId}{cap:Array Value}{Pre:Nat→Nat→List HP}{Fr:List HP}(Post:Nat→Nat→(LoopState→Option Code→HP)→Value→List HP→Prop)(hk:iE 1000 k0 = .mk (.code (.rangeFunc g ps assign body)::k))(QO:G.ro=none)(hg:ev L g=some (.func (.func gid) #[] cap))(c:∀l r,aD P gid (.func (.yield l) #[] #[]::cap.toList) (bq l .ready none f n L ps assign body r::Pre l r) (Post l r (fun st pd=>bq l st pd f n L ps assign body r)))(he:∀l r,ak H (Pre l r++Fr))(ij:∀l r v H',Post l r (fun st pd=>bq l st pd f n L ps assign body r) v H'→∃st pd H'',H'=bq l st pd f n L ps assign body r::H''∧st ≠ .busy ∧
   K P f n R { G with ds:=r::G.ds } ((pd.map Item.code).toList++k) L (H''++(ae r (.deferred (some []))::Fr))):K P f n R G k0 L H :=
 yB hk QO hg c he ij
def dg{P:Program}{f:FuncId}{n:Nat}{R:Ending→World→Prop}{G:cQ}{k:List Item}{L:fY}{H:List HP}{e:TypeId}{sz nn:Nat}{v:Value}{cs:List Value}(i:Nat)(hi:cM H i=some (aF e sz v nn cs))(h:Vw (aF e sz v nn cs) v nn cs→K P f n R G k L H):K P f n R G k L H :=
 sK fun⟨w,hw⟩=>by
  obtain⟨h1,_,hA⟩:=hw.lN hi
  exact h (Vw.pz e sz v nn cs ⟨h1,hA⟩)
theorem Kw{e:TypeId}{sz nn c:Nat}{a:Option Addr}{cs:List Value}{h:Hp}(hs:aF e sz (.slice a nn c) nn cs h):nn≤c:=by
 obtain⟨_,⟨a',hv,hn,_⟩|⟨b,o,cap,pre,cf,hv,hp,hn,hc,_⟩⟩:=hs
 ·omega
 grind
def UT{P:Program}{f:FuncId}{n:Nat}{R:Ending→World→Prop}{G:cQ}{k:List Item}{L:fY}{H:List HP}{S:World→Prop}{all:Array Oper}{rest:Pl}{e:TypeId}{sz nn c:Nat}{a:Option Addr}{cs:List Value}(i:Nat)(hi:cM H i=some (aF e sz (.slice a nn c) nn cs))(h:Vw (aF e sz (.slice a nn c) nn cs) (.slice a nn c) nn cs→nn≤c→J P f n R G S all rest k L H):J P f n R G S all rest k L H :=
 AS fun w hw=>by
  obtain⟨h1,_,hA⟩:=hw.lN hi
  exact h (Vw.pz e sz _ nn cs ⟨h1,hA⟩) (Kw hA)
def Md{P:Program}{U:Tr}[hU:gq P U]{n:Nat}{G:cQ}{L:fY}{H:List HP}{fn:Func}{p b:Nat}{t e:TypeId}{bY:Ty}{cs:List Value}{a:Act}{w:World}(i:Nat)(ha:tN G n L a)(hw:Sat G w H)(Bp:fn.results.toList=[.cell p t])(hp:ek L p=some (.pointer (some ⟨b,0,none⟩)))(ht:U.get t=some bY)(hg:bY.isAgg=true)(hl:cs.length=bY.info.size)(hi:cM H i=some (ae b (cl cs e))):(results fn a.tmps).run P w = .ok (.agg cs.toArray) w:=by
 have hc:∀j v,cs[j]?=some v→w.cell? ⟨b,0+j,none⟩=some v:=fun j v hj=>by rw[ea (hw.uV hi),Nat.zero_add];exact hj
 have TR:=iP (P:=P) (w:=w) ht hg hl hc
 have ZN:(loadVar t ⟨b,0,none⟩).run P w = .ok (.agg cs.toArray) w:=by simpa[Instr.loadAt,Instr.sureAddr]using TR
 have g1:a.tmps.getD p undef = .pointer (some ⟨b,0,none⟩):=by simp[Array.getD_eq_getD_getElem?,ha.get hp]
 rw[pw,Array.mapM_eq_mapM_toList,Bp]
 simp only[Sem.run_bind,Sem.run_map,List.mapM_cons,List.mapM_nil,Df,g1,asAddr,Sem.run_pure,Result.andThen_ok,ZN]
 simp
def jY{P:Program}{U:Tr}[hU:gq P U]{f:FuncId}{n:Nat}{R:Ending→World→Prop}{G:cQ}{k k0:List Item}{L:fY}{H:List HP}{fn:Func}{F:List HP}{Post:Value→List HP→Prop}{p b:Nat}{t e:TypeId}{bY:Ty}{cs:List Value}(i:Nat)(hR:Ends R G F Post)(hf:P.funcs[f]?=some fn)(hk:iE 1000 k0 = .mk (.code .ret::k))(Bp:fn.results.toList=[.cell p t])(hp:ek L p=some (.pointer (some ⟨b,0,none⟩)))(ht:U.get t=some bY)(hg:bY.isAgg=true)(hl:cs.length=bY.info.size)(hi:cM H i=some (ae b (cl cs e))){Hq:List HP}(fU:Post (.agg cs.toArray) Hq)(he:ak H (Hq++F)):K P f n R G k0 L H:=by
 refine gW 1000 hk ?_
 intro a w ha hw lA
 have kh:=Md (P:=P) i ha hw Bp hp ht hg hl hi
 rw[hR.1.1]
 exact⟨_,w,_,hR.2 _ _ w fU (hw.cL he),.one (stepR_ret rfl),rfl,rfl,by show a.defers=[];rw[ha.2,hR.1.2];rfl,rfl,fn,hf,kh⟩
end Go.SL
namespace Go.Proofs.YthnfckodljbgbaaGreatDoor
open Go Go.SL
attribute [local irreducible] J K aD Ends ae aF aL bU bo aU bh bq cg
def PG(n:Nat)(h1:1≤n)(h2:n≤31):IntKind.u64.wrap ((BitVec.ofInt IntKind.u64.bits (IntKind.u64.wrap (-(n:Int))) &&& BitVec.ofInt IntKind.u64.bits 31).toNat:Int)=((32-n:Nat):Int):=by
 have:∀n:Nat,n<32→1≤n→IntKind.u64.wrap ((BitVec.ofInt 64 (IntKind.u64.wrap (-(n:Int))) &&& BitVec.ofInt 64 31).toNat:Int)=((32-n:Nat):Int):=by decide
 exact this n ag h1
def wX(x:jR)(n:Nat)(h1:1≤n)(h2:n≤31):aD Tryz.prog 237 [u32 x,.int .i64 (-(n:Int))] [] (fun r H=>r=u32 (Sha.vH x n)∧H=[]):=by
 unfold u32
 refine aD.aw Tryz.func237 Tryz.ntmps237 fun G F R hE=>?_
 refine go ?_
 refine fb ?_
 refine jv zr zr zr zr zr zr ?_
 refine ln ?_
 refine bj 5 ((.int .u64 ((32-n:Nat):Int))) rfl ((congrArg (Value.int .u64) (PG n h1 h2))) (go ?_)
 refine Ka (32-n) zr zr zr zr ag ?_
 (repeat(first|refine eZ ?_|refine qY n zr zr zr ag ag ?_|refine Hv zr zr zr ?_))
 refine ad hE Tryz.func237 zr zr ⟨rfl,rfl⟩
def jD(x:jR)(n:Nat)(h1:1≤n)(h2:n≤31):aD Tryz.prog 213 [u32 x,.int .i64 (n:Int)] [] (fun r H=>r=u32 (Sha.vH x n)∧H=[]):=by
 refine aD.aw Tryz.func213 Tryz.ntmps213 fun G F R hE=>?_
 refine go ?_
 refine aaB zr zr (by simp only[gy];omega) ?_
 refine aN (wX x n h1 h2) ?_
 refine go ?_
 refine ad hE Tryz.func213 zr zr ⟨rfl,rfl⟩
theorem Is(A:HP)(v:Value)(b:List UInt8)(hv:eO A v b)(SF:64≤b.length) :
  aD Tryz.prog 212 [v] [A] (fun r H=>r = .agg (wV (Sha.sched b 64)).toArray∧H=[A]):=by
 obtain⟨a,c,rfl,hc⟩:=hv.2
 have hf:=hv.front 64 SF
 refine aD.aw Tryz.func212 Tryz.ntmps212 fun G F R hE=>?_
 refine aB rfl ?_
 refine aC zr zr zr bE ?_
 intro b2
 refine ln ?_
 (refine aB rfl ?_;refine ln ?_)
 refine aC zr zr zr bE ?_
 intro b3
 refine go ?_
 refine bt (p:=0) (q:=64) zr zr zr zr zr zr zr ag ag (.inr ag) ?_
 refine az 10 ((.slice (sliceAt a c 0 1) 64 c)) rfl (rfl) (go ?_)
 refine bB (fun i:Nat=>i≤64) (fun i=>64-i)
  (fun i=>[(2,ptr b2),(3,ptr b3),(10,.slice (sliceAt a c 0 1) 64 c),(11,.int .i64 64),(12,.int .i64 (i:Int))])
  (fun i=>ae b3 (cl (wV (Sha.nL b i)) 209)::ae b2 (cl (wV (List.replicate 64 0)) 209)::A::F) 0 (Nat.zero_le _) rfl ck (by rw[Sha.Jz];exact ah) ?_
 rintro i hi ih
 refine go ?_
 refine au zr zr ?_ ?_
 ·intro dJ
  have Gn:i<64:=by omega
  obtain⟨x,hx⟩:∃x,b[i]?=some x:=⟨b[i]' ag,by simp⟩
  have hxd:b.getD i 0=x:=by rw[List.getD_eq_getElem?_getD,hx];rfl
  have yp:(bV (b.take 64))[i]?=some (u8 x):=by
   grind [pP]
  obtain⟨bb,oo,cc,fL⟩:=hf.1.some (by intro e;rw[e]at yp;simp at yp)
  simp only[Value.slice.injEq,true_and]at fL
  obtain⟨fL,-,rfl⟩:=fL
  have hlen:(b.take 64).length=64:=by rw[List.length_take];omega
  have Vy:=hf.1
  rw[fL,hlen]at Vy
  rw[fL]
  refine go ?_
  refine bR i zr zr zr zr zr zr zr zr Gn ?_
  refine aK ?_
  refine aX 2 i zr zr zr Vy rfl yp zr zr (go ?_)
  refine aG (fun w=>Sat G w ([ae b3 (cl (wV (Sha.nL b i)) 209)])) (dj 0 13 (.act 13 .nil)) rfl aq aq aq eo ?_
  refine go ?_
  have hg:=Sha.mB b i (i/4) ag
  have hq:(i:Int)/4=((i/4:Nat):Int):=by omega
  have hr:24-8*((i:Int)%4)=((24-8*(i%4):Nat):Int):=by omega
  have af0:(wV (Sha.nL b i)).length=64:=by rw[lT,Sha.mA]
  (repeat(first|refine eZ ?_|refine lP zr zr zr ag ag (by simp only[gy];omega) ?_|refine nT zr zr zr ag ag ?_|refine iA zr zr zr (by simp only[gy];omega) ?_|refine eE (U:=aR) (i/4) zr zr zr zr zr zr zr hq ag ?_|(refine aK ?_;refine e9 (U:=aR) 0 (i/4) zr zr zr (Nat.zero_add _) (iL hg) zr zr ?_)|(refine fb ?_;refine qX (U:=aR) zr zr zr zr zr zr ?_)|refine Ka (24-8*(i%4)) zr zr zr hr ag ?_|refine Hv zr zr zr ?_))
  refine aV ?_
  refine hG (U:=aR) 0 gf zr zr zr zr zr zr zr (by rw[lT,Sha.mA];omega) rfl ?_
  rw[show 0+i/4=i/4 from Nat.zero_add _]
  refine go ?_
  have bP:=Sha.JA b i Gn
  rw[hxd]at bP
  have jA:(wV (Sha.nL b i)).set (i/4) (.int .u32 (((Sha.part b (i/4) (min 4 (i-4*(i/4))) ||| wB x <<< (24-8*(i%4))).toNat:Nat):Int))=wV (Sha.nL b (i+1)):=by
   rw[← bP,show min 4 (i-4*(i/4))=i%4 from by omega]
   exact yK _ _ _
  rw[jA,← fL]
  refine aM ih (i+1) rfl ag ag ck ah
 intro fO
 have Ni:i=64:=by omega
 subst Ni
 clear ih
 refine go ?_
 refine bB (fun t:Nat=>16≤t∧t≤64) (fun t=>64-t)
  (fun t=>[(2,ptr b2),(3,ptr b3),(6,.int .i64 (t:Int))])
  (fun t=>ae b3 (cl (wV (Sha.eX b t)) 209)::ae b2 (cl (wV (List.replicate 64 0)) 209)::A::F) 16 ⟨ag,ag⟩ rfl ck (by rw[Sha.Nw];exact ah) ?_
 rintro t⟨rU,Zn⟩ ih
 have hlen:=Sha.sU b t Zn
 refine go ?_
 refine au zr zr ?_ ?_
 ·intro dJ
  have ht:t<64:=by omega
  have g2:=Sha.iO b t (t-2) ag
  have g7:=Sha.iO b t (t-7) ag
  have g15:=Sha.iO b t (t-15) ag
  have g16:=Sha.iO b t (t-16) ag
  refine go ?_
  refine aG (fun w=>Sat G w ([ae b3 (cl (wV (Sha.eX b t)) 209)])) (dj 0 10 .nil) rfl aq aq aq eo ?_
  refine go ?_
  (repeat(first|refine eZ ?_|refine eE (U:=aR) (t-2) zr zr zr zr zr zr zr ag ag ?_|refine eE (U:=aR) (t-15) zr zr zr zr zr zr zr ag ag ?_|(refine aK ?_;first|refine e9 (U:=aR) 0 (t-2) zr zr zr (Nat.zero_add _) (iL g2) zr zr ?_|refine e9 (U:=aR) 0 (t-15) zr zr zr (Nat.zero_add _) (iL g15) zr zr ?_)))
  refine aN (jD _ 17 ag ag) ?_
  refine go ?_
  refine aN (jD _ 19 ag ag) ?_
  (repeat(first|refine eZ ?_|refine jC zr zr zr ?_|refine qY 10 zr zr zr zr ag ?_))
  refine aN (jD _ 7 ag ag) ?_
  refine go ?_
  refine aN (jD _ 18 ag ag) ?_
  (repeat(first|refine eZ ?_|refine jC zr zr zr ?_|refine qY 3 zr zr zr zr ag ?_))
  refine aG (fun w=>Sat G w ([ae b3 (cl (wV (Sha.eX b t)) 209)])) (dj 0 15 (.act 15 .nil)) rfl aq aq aq eo ?_
  refine go ?_
  (repeat(first|refine eZ ?_|refine eE (U:=aR) (t-16) zr zr zr zr zr zr zr ag ag ?_|refine eE (U:=aR) (t-7) zr zr zr zr zr zr zr ag ag ?_|refine eE (U:=aR) t zr zr zr zr zr zr zr zr ht ?_|(refine aK ?_;first|refine e9 (U:=aR) 0 (t-16) zr zr zr (Nat.zero_add _) (iL g16) zr zr ?_|refine e9 (U:=aR) 0 (t-7) zr zr zr (Nat.zero_add _) (iL g7) zr zr ?_)|refine kL zr zr zr ?_))
  refine aV ?_
  refine hG (U:=aR) 0 gf zr zr zr zr zr zr zr (by rw[lT,hlen];omega) rfl ?_
  rw[show 0+t=t from Nat.zero_add _]
  refine go ?_
  have jA:=(yK (Sha.eX b t) t _).trans (congrArg wV (Sha.xr b t rU ht))
  refine ai (H':=ae b3 (cl (wV (Sha.eX b (t+1))) 209)::ae b2 (cl (wV (List.replicate 64 0)) 209)::A::F) (by rw[← jA];exact ak.refl _) ?_
  refine aM ih (t+1) rfl ⟨ag,ag⟩ ag ck ah
 intro fO
 have I9:t=64:=by omega
 subst I9
 rw[Sha.zb]
 have GD:(wV (Sha.sched b 64)).length=64:=by rw[lT,Sha.eG]
 have fq:iV (wV (Sha.sched b 64))=true:=fM _
 generalize wV (Sha.sched b 64)=W at GD fq hE ⊢
 refine go ?_
 refine aH (U:=aR) 0 zr zr zr zr zr GD ?_
 refine cH (U:=aR) 1 gf rfl rfl rfl GD (by intro e;rw[e]at GD;cases GD) fq rfl (by rw[GD];simp[lT]) rfl ?_
 refine go ?_
 refine jY (U:=aR) 1 hE Tryz.func212 zr zr zr zr zr GD rfl ⟨rfl,rfl⟩ ah
def oZ(X:HP):Prop:=Vw X (.slice (some ⟨0,0,none⟩) 64 64) 64 (wV Sha.ks)
def oZ.mono{A B:HP}(h:oZ A)(hAB:∀h,B h→∃h',sub h' h∧A h'):oZ B:=Vw.mono h hAB
def Qz{t:Nat}(h:t<64):Sha.ks[t]?=some (Sha.ks.getD t 0):=by
 rw[List.getD_eq_getElem?_getD,List.getElem?_eq_getElem (show t<Sha.ks.length from h)];rfl
def Sn(s:Sha.St):Value := .agg (wV s.l).toArray
def EV(A:HP)(hK:oZ A)(v:Value)(b:List UInt8)(hv:eO A v b)(SF:64≤b.length)(s:Sha.St) :
  aD Tryz.prog 179 [Sn s,v] [A] (fun r H=>r=Sn (Sha.chunk s b)∧H=[A]):=by
 have iC:=Is A v b hv SF
 obtain⟨a,c,rfl,hc⟩:=hv.2
 unfold oZ at hK
 have eW:(Sha.sched b 64).length=64:=Sha.eG b 64
 have Gt:Sha.chunk s b=Sha.plus s (Sha.rounds s (Sha.sched b 64) 64):=rfl
 rw[Gt]
 generalize Sha.sched b 64=W at iC eW ⊢
 obtain⟨s1,s2,s3,s4,s5,s6,s7,s8⟩:=s
 dsimp only [Sn,Sha.St.l,wV,List.map_cons,List.map_nil]
 refine aD.aw Tryz.func179 Tryz.ntmps179 fun G F R hE=>?_
 refine go ?_
 refine bG zr zr bE ?_
 intro b2
 refine go ?_
 refine aC zr zr zr bE ?_
 intro b4
 refine go ?_
 refine aG (fun w=>Sat G w ([ae b2 (cl [u32 s1,u32 s2,u32 s3,u32 s4,u32 s5,u32 s6,u32 s7,u32 s8] 217)])) (dj 0 24 .nil) rfl aq aq aq eo ?_
 refine go ?_
 (repeat(first|refine eZ ?_|refine ju zr zr zr zr zr zr ag ag ?_))
 refine aN iC ?_
 refine go ?_
 generalize hs:(⟨s1,s2,s3,s4,s5,s6,s7,s8⟩:Sha.St)=s at hE
 refine bB (fun t:Nat=>t≤64) (fun t=>64-t)
  (fun t=>[(2,ptr b2),(4,ptr b4),(34,.agg (wV W).toArray),(35,.int .i64 (t:Int)),(5,u32 (Sha.rounds s W t).a),(6,u32 (Sha.rounds s W t).b),(7,u32 (Sha.rounds s W t).c),(8,u32 (Sha.rounds s W t).d),(9,u32 (Sha.rounds s W t).e),(10,u32 (Sha.rounds s W t).f),(11,u32 (Sha.rounds s W t).g),(12,u32 (Sha.rounds s W t).h)])
  (fun _=>ae b4 (cl (wV (List.replicate 8 0)) 217)::ae b2 (cl [u32 s1,u32 s2,u32 s3,u32 s4,u32 s5,u32 s6,u32 s7,u32 s8] 217)::A::F) 0 (Nat.zero_le _) rfl (by subst hs;repeat(first|exact F6|refine Cg rfl ?_)) ah ?_
 rintro t ht ih
 refine go ?_
 refine au zr zr ?_ ?_
 ·intro dJ
  have rU:t<64:=by omega
  have hr:Sha.rounds s W (t+1)=Sha.round (Sha.rounds s W t) (Sha.ks.getD t 0) (W.getD t 0):=rfl
  generalize Sha.rounds s W t=T at hr ⊢
  obtain⟨ta,tb,tc,td,te,tf,tg,th⟩:=T
  have MZ:(wV W).toArray.toList[((t:Nat):Int).toNat]?=some (u32 (W.getD t 0)):=by
   rw[Int.toNat_natCast]
   exact iL (by rw[List.getD_eq_getElem?_getD,List.getElem?_eq_getElem ag];rfl)
  have hkg:=iL (Qz rU)
  generalize Sha.ks.getD t 0=kt at hr hkg
  generalize W.getD t 0=wt at hr MZ
  simp only
  refine go ?_
  refine AV (U:=aR) zr zr zr zr zr zr zr zr ag ag MZ (go ?_)
  refine aG (fun w=>Sat G w ([A])) (.st 0 (.st 1 (.st 3 (.st 6 (dj 10 7 (dj 18 3 (.st 22 (.act 2 (.act 4 (.st 5 (.act 7 (.st 8 (.st 9 (.st 17 (.st 21 (.st 23 (.st 24 .nil))))))))))))))))) rfl aq aq aq eo ?_
  refine go ?_
  (repeat(first|refine eZ ?_|refine eE (U:=aR) t zr zr zr zr zr zr zr zr rU ?_|(refine aK ?_;refine bW 0 t zr zr zr hK rfl hkg zr zr ?_)|refine jC zr zr zr ?_|refine En zr zr zr ?_))
  refine bp ((jD _ 6 ag ag)) ?_
  refine go ?_
  refine bp ((jD _ 11 ag ag)) ?_
  refine go ?_
  (repeat((refine jC zr zr zr ?_)))
  refine bp ((jD _ 25 ag ag)) ?_
  (repeat(first|refine eZ ?_|refine jC zr zr zr ?_|refine kL zr zr zr ?_))
  refine aN (jD _ 2 ag ag) ?_
  refine go ?_
  refine aN (jD _ 13 ag ag) ?_
  (repeat(first|refine eZ ?_|refine jC zr zr zr ?_))
  refine aN (jD _ 22 ag ag) ?_
  (repeat(first|refine eZ ?_|refine jC zr zr zr ?_|refine En zr zr zr ?_|refine Hv zr zr zr ?_|refine kL zr zr zr ?_))
  ((refine bj 5 ((u32 (Sha.rounds s W (t+1)).a)) rfl ((by rw[hr];rfl)) ?_))
  ((refine bj 6 ((u32 (Sha.rounds s W (t+1)).b)) rfl ((by rw[hr];rfl)) ?_))
  ((refine bj 7 ((u32 (Sha.rounds s W (t+1)).c)) rfl ((by rw[hr];rfl)) ?_))
  ((refine bj 8 ((u32 (Sha.rounds s W (t+1)).d)) rfl ((by rw[hr];rfl)) ?_))
  ((refine bj 9 ((u32 (Sha.rounds s W (t+1)).e)) rfl ((by rw[hr];rfl)) ?_))
  ((refine bj 10 ((u32 (Sha.rounds s W (t+1)).f)) rfl ((by rw[hr];rfl)) ?_))
  ((refine bj 11 ((u32 (Sha.rounds s W (t+1)).g)) rfl ((by rw[hr];rfl)) ?_))
  ((refine bj 12 ((u32 (Sha.rounds s W (t+1)).h)) rfl ((by rw[hr];rfl)) ?_))
  refine aM ih (t+1) rfl ag ag ck ah
 intro fO
 have I9:t=64:=by omega
 subst I9
 have qg:Sn (Sha.plus s (Sha.rounds s W 64)) = .agg (List.map u32 [(Sha.plus s (Sha.rounds s W 64)).a,(Sha.plus s (Sha.rounds s W 64)).b,(Sha.plus s (Sha.rounds s W 64)).c,(Sha.plus s (Sha.rounds s W 64)).d,(Sha.plus s (Sha.rounds s W 64)).e,(Sha.plus s (Sha.rounds s W 64)).f,(Sha.plus s (Sha.rounds s W 64)).g,(Sha.plus s (Sha.rounds s W 64)).h]).toArray:=rfl
 rw[← qg]at hE
 clear qg Gt ih
 generalize Sha.rounds s W 64=T at hE ⊢
 obtain⟨ta,tb,tc,td,te,tf,tg,th⟩:=T
 subst hs
 simp only
 refine go ?_
 (repeat(first|refine eZ ?_|refine ju zr zr zr zr zr zr ag ag ?_|refine kL zr zr zr ?_))
 refine nj (U:=aR) zr zr zr zr zr zr (go ?_)
 refine jY (U:=aR) 0 hE Tryz.func179 zr zr zr zr zr zr zr ⟨rfl,rfl⟩ ah
end Go.Proofs.YthnfckodljbgbaaGreatDoor
namespace Go.SL
open Go
def dV(x:Dg):Value := .agg (dC x).toArray
theorem aak{a b:Dg}(h:dV a=dV b):a=b:=by
 grind [dV,JK]
section
variable{P:Program}
theorem UA{kt e:TypeId}(hu:P.underlying kt=some (.array 32 e))(he:P.underlying e=some (.int .u8))(hc:P.cellsOf e=1)(em:Bool)(k:Dg)(w:World):(Instr.checkKey em 10000 kt (dV k)).run P w = .ok () w:=by
 obtain⟨i,hi⟩:=info_of_underlying he
 have K2:P.plainKey e=true:=by unfold Program.plainKey;rw[he]
 have iY:(sizeOf e).run P w = .ok 1 w:=by
  rw[Go.run_sizeOf w hi];congr 1
 rw[show(10000:Nat)=9999+1 from rfl,Instr.checkKey]
 simp only[Sem.run_bind,Go.run_underlying hu,Result.andThen_ok,dV]
 simp only[Std.Legacy.Range.forIn_eq_forIn_range',Std.Legacy.Range.size,Nat.sub_zero,Nat.add_one_sub_one,Nat.div_one]
 have each:∀j∈List.range' 0 32,j<32:=fun j hj=>by simp[List.mem_range']at hj;omega
 generalize List.range' 0 32=is at each
 induction is with
 | nil=>simp
 | cons j is ih =>
  have hj:=each j (by simp)
  have dK:(dC k).toArray[j*1]?=some (u8 (k.at j)):=by
   rw[Nat.mul_one,dL]
   simp only[List.getElem?_toArray]
   rw[show bV k.bs=k.bs.map u8 from rfl,List.getElem?_map,List.getElem?_eq_getElem (by rw[k.len];exact hj)]
   grind [Dg.at]
  have p1:(part e (dC k).toArray (j*1)).run P w = .ok (u8 (k.at j)) w:=run_part_plain w K2 dK
  have p2:(Instr.checkKey em 9999 e (u8 (k.at j))).run P w = .ok () w:=by
   rw[show(9999:Nat)=9998+1 from rfl,Instr.checkKey]
   simp[Go.run_underlying he,u8]
  simp_all
def Fb{kt e:TypeId}(hu:P.underlying kt=some (.array 32 e))(he:P.underlying e=some (.int .u8))(hc:P.cellsOf e=1)(a b:Dg)(w:World):(Op.equal kt (dV a) (dV b)).run P w = .ok (decide (a=b)) w :=
 sV hu he hc a b 9998 w
theorem aca{kt e:TypeId}(hu:P.underlying kt=some (.array 32 e))(he:P.underlying e=some (.int .u8))(hc:P.cellsOf e=1):kG P kt dV where
 inj _ _:=aak
 check em k w:=UA hu he hc em k w
 find k l ks w h:=by
  rw[run_findKey_eq (w:=w) (by rw[hu])]
  have key:∀(l:List MapEntry) (ks:List Dg) (o:Nat),l.map (·.key)=ks.map dV →
    ∃r,(Instr.findAsking kt (dV k) l o).run P w = .ok r w∧((r=none∧k ∉ ks)∨∃i e,r=some (o+i,e.val)∧l[i]?=some e∧ks[i]?=some k∧∀j,j<i→ks[j]? ≠ some k):=by
   intro l
   induction l with
   | nil =>
    intro ks o h
    have:ks=[]:=by simpa using h.symm
    subst this
    exact⟨none,by simp[Instr.findAsking],.inl ⟨rfl,by simp⟩⟩
   | cons en l ih =>
    intro ks o h
    cases ks with
    | nil=>simp at h
    | cons c ks =>
     simp only[List.map_cons,List.cons.injEq]at h
     obtain⟨h1,h2⟩:=h
     have hq:(Op.equal kt (dV k) en.key).run P w = .ok (decide (k=c)) w:=by rw[h1];exact Fb hu he hc k c w
     by_cases Jg:k=c
     ·subst Jg
      refine⟨some (o+0,en.val),by simp[Instr.findAsking,hq],.inr ⟨0,en,rfl,by simp,by simp,fun j hj=>absurd hj ag⟩⟩
     ·obtain⟨r,hr,iF⟩:=ih ks (o+1) h2
      refine⟨r,by simp[Instr.findAsking,hq,Jg,hr],?_⟩
      rcases iF with⟨rfl,hn⟩|⟨i,e',rfl,hi,hk,hj⟩
      ·grind
      ·refine .inr ⟨i+1,e',by congr 2;omega,by simpa using hi,by simpa using hk,fun j oX=>?_⟩
       cases j with
       | zero=>simp;exact fun h=>Jg h.symm
       | succ j=>simpa using hj j ag
  obtain⟨r,hr,iF⟩:=key l ks 0 h
  grind
 bits k:=by
  rw[show(10000:Nat)=9999+1 from rfl]
  simp only[dV,Instr.sameBits,beq_self_eq_true,Bool.true_and,List.all_eq_true]
  have:∀(l:List UInt8),∀x∈((bV l).zip (bV l)),Instr.sameBits 9999 x.1 x.2=true:=by
   intro l
   induction l with
   | nil=>simp[bV]
   | cons c l ih =>
    intro x hx
    simp only[bV,List.map_cons,List.zip_cons_cons,List.mem_cons]at hx
    rcases hx with rfl|hx
    ·simp[u8,Instr.sameBits]
    ·exact ih x hx
  grind [dL]
end
end Go.SL
namespace Go.Proofs.YthnfckodljbgbaaGreatDoor
open Go Go.SL
attribute [local irreducible] J K aD Ends ae aF aL bU bo aU bh bq cg Sha.chunks Sha.chunk Sha.rounds Sha.sched dW
theorem Ar(A:HP)(v:Value)(b:List UInt8)(hv:eO A v b)(hl:b.length≤1000000000):aD Tryz.prog 180 [v] [A] (fun r H=>H=[aF 5 1 r b.length (bV b),A]):=by
 obtain⟨a,c,rfl,hc⟩:=hv.2
 refine aD.aw Tryz.func180 Tryz.ntmps180 fun G F R hE=>?_
 cases a with
 | none =>
  have hb:b=[]:=by
   obtain⟨a,cap,h1,h2|⟨x,o,h2,_⟩⟩:=hv.1
   ·simpa[bV]using h2
   grind
  subst hb
  refine go ?_
  refine ai (bK 5 1 none _) ?_
  refine aO hE Tryz.func180 rfl _ zr zr ah
 | some a =>
  refine go ?_
  refine ao zr zr zr zr zr zr zr zr zr bE ?_
  intro b0
  refine go ?_
  (refine aJ (eS 5 1 b0 0 0 [] [] _ rfl (Nat.le_refl _) (by simp)) ?_;refine aT (mm:=(b).length) (news:=bV (b)) 0 1 zr zr zr zr zr zr zr zr zr zr zr zr (hv.1) (by show _=_*1;rw[bM];omega) (db _) ag (by show(_+_)*1≤_;omega) (fun _=>rfl) bE ?_;intro vA;rw[Nat.zero_add,List.nil_append];((refine aP 0 rfl ?_));rintro aA cA rfl)
  refine go ?_
  refine aO hE Tryz.func180 rfl _ zr zr ah
theorem yA(A:HP)(hK:oZ A)(v:Value)(b:List UInt8)(hv:eO A v b)(hl:b.length≤1000000000) :
    aD Tryz.prog 116 [v] [A] (fun r H=>r=dV (dW b)∧H=[A]):=by
  obtain⟨a,c,rfl,hc⟩:=hv.2
  refine aD.aw Tryz.func116 Tryz.ntmps116 fun G F R hE=>?_
  refine aB rfl ?_
  refine aC zr zr zr bE ?_
  intro b2
  refine ln ?_
  refine aB rfl ?_
  refine nj (U:=aR) (cs:=wV Sha.start.l) zr zr zr zr zr zr ?_
  refine aC zr zr zr bE ?_
  intro b3
  refine cH (U:=aR) (l':=wV Sha.start.l) 0 gf zr zr zr zr (by decide) (fM _) zr zr zr ?_
  refine aJ (H':=ae b3 (cl (wV (Sha.chunks Sha.start b 0).l) 217)::ae b2 (cl (dC Dg.zero) 37)::A::F) (by unfold Sha.chunks;exact ah) ?_
  refine go ?_
  refine lP zr zr zr ag ag (by simp only[gy];omega) ?_
  refine go ?_
  refine iA zr zr zr (by simp only[gy];omega) ?_
  refine az 15 ((.int .i64 ((64*(b.length/64):Nat):Int))) rfl ((congrArg (Value.int .i64) ag)) (go ?_)
  refine bB (fun q:Nat=>q≤b.length/64) (fun q=>b.length/64-q)
    (fun q=>[(0,.slice a b.length c),(2,ptr b2),(3,ptr b3),(4,.int .i64 ((64*(b.length/64):Nat):Int)),(5,.int .i64 ((64*q:Nat):Int))])
    (fun q=>ae b3 (cl (wV (Sha.chunks Sha.start b q).l) 217)::ae b2 (cl (dC Dg.zero) 37)::A::F) 0 (Nat.zero_le _) rfl ck ah ?_
  rintro q hq ih
  refine go ?_
  refine au zr zr ?_ ?_
  · intro dJ
    have hq1:q<b.length/64:=by omega
    have ny:=hv.cut (64*q) ag
    have kU:=EV A hK _ _ ny (by rw[List.length_drop];omega) (Sha.chunks Sha.start b q)
    have qd:Sha.chunk (Sha.chunks Sha.start b q) (b.drop (64*q))=Sha.chunks Sha.start b (q+1):=by conv=>rhs;unfold Sha.chunks
    rw[qd]at kU
    have Nb:∀s:Sha.St,(wV s.l).length=8:=fun s=>rfl
    refine go ?_
    refine aG (fun w=>Sat G w ([ae b3 (cl (wV (Sha.chunks Sha.start b q).l) 217)])) (dj 0 4 (.act 4 (.act 5 .nil))) rfl aq aq aq eo ?_
    refine go ?_
    refine bT (U:=aR) 0 zr zr zr zr zr zr (go ?_)
    refine bt (p:=((64*q:Nat):Int)) (q:=(b.length:Int)) zr zr zr zr zr zr zr ag ag (.inl rfl) ?_
    refine az 24 ((.slice (sliceAt a c (64*q) 1) (b.length-64*q) (c-64*q))) rfl (rfl) ?_
    refine bp kU ?_
    unfold Sn
    refine aV ?_
    refine cH (U:=aR) 1 gf rfl rfl rfl rfl (by intro e;have:=congrArg List.length e;rw[Nb]at this;cases this) (fM _) rfl (by rw[Nb,Nb]) rfl ?_
    refine go ?_
    refine bj 5 ((.int .i64 ((64*(q+1):Nat):Int))) rfl ((congrArg (Value.int .i64) ag)) ?_
    refine aM ih (q+1) rfl ag ag ck ah
  intro fO
  have Zt:q=b.length/64:=by omega
  subst Zt
  clear ih
  have ny:=hv.cut (64*(b.length/64)) ag
  obtain⟨B1,hB1⟩:∃B1,B1=b.drop (64*(b.length/64)):=⟨_,rfl⟩
  have aaf:B1.length=b.length-64*(b.length/64):=by rw[hB1,List.length_drop]
  rw[← hB1,← aaf]at ny
  refine go ?_
  refine bt (p:=((64*(b.length/64):Nat):Int)) (q:=(b.length:Int)) zr zr zr zr zr zr zr ag ag (.inl rfl) ?_
  ((refine az 28 ((.slice (sliceAt a c (64*(b.length/64)) 1) B1.length (c-64*(b.length/64)))) rfl ((by rw[aaf];rfl)) ?_))
  refine go ?_
  refine aI (Ar A _ B1 ny ag) ?_
  rintro r _ rfl
  refine aP 0 rfl ?_
  rintro ra rc rfl
  refine go ?_
  (refine ao (cs:=bV [(128:UInt8)]) zr zr zr zr zr zr zr zr zr bE ?_;intro bA;refine aT (mm:=1) (news:=bV [(128:UInt8)]) 1 0 zr zr zr zr zr zr zr zr zr zr zr zr (Vw.ae rfl) rfl (db _) ag (by show(_+_)*1≤_;omega) (fun _=>rfl) bE ?_;intro vA;rw[show bV (B1)++bV [(128:UInt8)]=bV ((B1)++[(128:UInt8)])from by simp[bV],show(B1).length+1=((B1)++[(128:UInt8)]).length from(@List.length_append _ (B1) [(128:UInt8)]).symm];((refine aP 1 rfl ?_));rintro aA cA rfl)
  refine go ?_
  obtain⟨z,hz⟩:∃z,z=(119-b.length%64)%64:=⟨_,rfl⟩
  have Ze:(B1.length+1+z)%64=56:=by omega
  have Va:z<64:=by omega
  have ado:B1.length<64:=by omega
  have mT:∀j:Nat,(B1++128::List.replicate j (0:UInt8)).length=B1.length+1+j:=fun j=>by simp;omega
  obtain⟨S1,hS1⟩:∃S1,S1=Sha.chunks Sha.start b (b.length/64):=⟨_,rfl⟩
  rw[← hS1]
  refine bB (fun y:Nat × Option Addr × Nat=>y.1≤z) (fun y=>z-y.1)
    (fun y=>[(0,.slice a b.length c),(2,ptr b2),(3,ptr b3),(6,.slice y.2.1 (B1++128::List.replicate y.1 (0:UInt8)).length y.2.2)])
    (fun y=>aF 5 1 (.slice y.2.1 (B1++128::List.replicate y.1 (0:UInt8)).length y.2.2) (B1++128::List.replicate y.1 (0:UInt8)).length (bV (B1++128::List.replicate y.1 (0:UInt8)))::A::ae b3 (cl (wV S1.l) 217)::ae b2 (cl (dC Dg.zero) 37)::F) (0,aA,cA) (Nat.zero_le _) rfl ck ah ?_
  rintro⟨j,a2,c2⟩ hj ih
  simp only at hj
  have Bb:=mT j
  dsimp only
  refine go ?_
  refine nT zr zr zr ag ag (go ?_)
  refine au zr zr ?_ ?_
  · intro df
    have hjz : j < z := by rcases Nat.lt_or_ge j z with h | h; exact h; exfalso; apply df; rw [Bb]; have : j = z := by omega
                           subst this;omega
    refine go ?_
    (refine ao (cs:=bV [(0:UInt8)]) zr zr zr zr zr zr zr zr zr bE ?_;intro bA;refine aT (mm:=1) (news:=bV [(0:UInt8)]) 1 0 zr zr zr zr zr zr zr zr zr zr zr zr (Vw.ae rfl) rfl (db _) (by(rw[Bb];omega)) (by show(_+_)*1≤_;(rw[Bb];omega)) (fun _=>rfl) bE ?_;intro vA;rw[show bV ((B1++128::List.replicate j (0:UInt8)))++bV [(0:UInt8)]=bV (((B1++128::List.replicate j (0:UInt8)))++[(0:UInt8)])from by simp[bV],show((B1++128::List.replicate j (0:UInt8))).length+1=(((B1++128::List.replicate j (0:UInt8)))++[(0:UInt8)]).length from(@List.length_append _ ((B1++128::List.replicate j (0:UInt8))) [(0:UInt8)]).symm];((refine aP 1 rfl ?_));rintro aA cA rfl)
    rw[show B1++128::List.replicate j (0:UInt8)++[0]=B1++128::List.replicate (j+1) (0:UInt8)from by rw[List.replicate_succ'];simp]
    refine go ?_
    refine aM ih (j+1,aA,cA) rfl (by simp only;omega) (by simp only;omega) ck ah
  intro heq
  have hjz:j=z:=by
    grind
  subst hjz
  clear ih
  obtain⟨T0,Rg⟩:∃T0,T0=B1++128::List.replicate j (0:UInt8):=⟨_,rfl⟩
  rw[← Rg]at Bb ⊢
  have K6:∀i:Nat,i≤8→(T0++(Sha.pO (8*b.length)).take i).length=T0.length+i:=fun i hi=>by
    rw[List.length_append,List.length_take];simp only[Sha.pO,List.length_map,List.length_range];omega
  refine go ?_
  refine bB (fun y:Nat × Option Addr × Nat=>y.1≤8) (fun y=>8-y.1)
    (fun y=>[(0,.slice a b.length c),(2,ptr b2),(3,ptr b3),(6,.slice y.2.1 (T0++(Sha.pO (8*b.length)).take y.1).length y.2.2),(39,.int .i64 (y.1:Int))])
    (fun y=>aF 5 1 (.slice y.2.1 (T0++(Sha.pO (8*b.length)).take y.1).length y.2.2) (T0++(Sha.pO (8*b.length)).take y.1).length (bV (T0++(Sha.pO (8*b.length)).take y.1))::A::ae b3 (cl (wV S1.l) 217)::ae b2 (cl (dC Dg.zero) 37)::F) (0,a2,c2) (Nat.zero_le _) rfl (by simp only[List.take_zero,List.append_nil];exact ck) (by simp only[List.take_zero,List.append_nil];exact ah) ?_
  rintro⟨i,a3,c3⟩ hi ih
  simp only at hi
  have tQ:=K6 i hi
  dsimp only
  refine go ?_
  refine au zr zr ?_ ?_
  · intro dJ
    have H9:i<8:=by omega
    have hbe:(Sha.pO (8*b.length)).take (i+1)=(Sha.pO (8*b.length)).take i++[UInt8.ofNat (8*b.length/2 ^ (56-8*i))]:=by
      rw[List.take_add_one];simp[Sha.pO,H9]
    refine go ?_
    refine n8 zr zr zr ag ?_
    refine az 46 ((.int .u64 ((8*b.length:Nat):Int))) rfl ((BU (x:=b.length) (q:=3) ag ag ag)) (go ?_)
    refine iA zr zr zr (by simp only[gy];omega) ?_
    refine go ?_
    refine az 49 ((.int .i64 ((56-8*i:Nat):Int))) rfl ((congrArg (Value.int .i64) ag)) ?_
    refine jN zr zr zr ag ?_
    ((refine az 50 ((.int .u64 ((8*b.length/2 ^ (56-8*i):Nat):Int))) rfl ((congrArg (Value.int .u64) (by rw[Int.toNat_natCast,show min (56-8*i) IntKind.u64.bits=56-8*i from by show min (56-8*i) 64=_;omega];simp))) ?_))
    refine fb ?_
    refine jv zr zr zr zr zr zr ?_
    refine az 51 ((u8 (UInt8.ofNat (8*b.length/2 ^ (56-8*i))))) rfl ((mg _)) ?_
    (refine ao (cs:=bV [(UInt8.ofNat (8*b.length/2 ^ (56-8*i)))]) zr zr zr zr zr zr zr zr zr bE ?_;intro bA;refine aT (mm:=1) (news:=bV [(UInt8.ofNat (8*b.length/2 ^ (56-8*i)))]) 1 0 zr zr zr zr zr zr zr zr zr zr zr zr (Vw.ae rfl) rfl (db _) (by(rw[tQ];omega)) (by show(_+_)*1≤_;(rw[tQ];omega)) (fun _=>rfl) bE ?_;intro vA;rw[show bV ((T0++(Sha.pO (8*b.length)).take i))++bV [(UInt8.ofNat (8*b.length/2 ^ (56-8*i)))]=bV (((T0++(Sha.pO (8*b.length)).take i))++[(UInt8.ofNat (8*b.length/2 ^ (56-8*i)))])from by simp[bV],show((T0++(Sha.pO (8*b.length)).take i)).length+1=(((T0++(Sha.pO (8*b.length)).take i))++[(UInt8.ofNat (8*b.length/2 ^ (56-8*i)))]).length from(@List.length_append _ ((T0++(Sha.pO (8*b.length)).take i)) [(UInt8.ofNat (8*b.length/2 ^ (56-8*i)))]).symm];((refine aP 1 rfl ?_));rintro aA cA rfl)
    rw[show T0++(Sha.pO (8*b.length)).take i++[UInt8.ofNat (8*b.length/2 ^ (56-8*i))]=T0++(Sha.pO (8*b.length)).take (i+1)from by rw[hbe,List.append_assoc]]
    refine go ?_
    refine aM ih (i+1,aA,cA) rfl (by simp only;omega) (by simp only;omega) ck ah
  intro fO
  have H9:i=8:=by omega
  subst H9
  clear ih
  have Gj:=Sha.L6 b
  rw[← hS1,← hB1]at Gj
  have acz:B1++Sha.pad b.length=T0++(Sha.pO (8*b.length)).take 8:=by
    rw[Rg,List.take_of_length_le (by simp[Sha.pO])]
    unfold Sha.pad
    grind
  rw[acz]at Gj
  generalize T0++(Sha.pO (8*b.length)).take 8=T at tQ Gj ⊢
  have afq:T.length%64=0:=by omega
  have hTl:T.length≤1000000200:=by omega
  clear Bb K6 acz Rg mT hB1 aaf ny hz Ze Va ado hS1 tQ
  have Nb:∀s:Sha.St,(wV s.l).length=8:=fun s=>rfl
  refine qU (bs:=T) 0 rfl ?_
  intro Tx
  have Zk:eO (Sep [aF 5 1 (.slice a3 T.length c3) T.length (bV T),A]) (.slice a3 T.length c3) T:=Tx.mono (aY (i:=0) rfl)
  have hK2:oZ (Sep [aF 5 1 (.slice a3 T.length c3) T.length (bV T),A]):=hK.mono (aY (i:=1) rfl)
  refine ai (ak.bX [_,_] _) (go ?_)
  refine bB (fun q:Nat=>q≤T.length/64) (fun q=>T.length/64-q)
    (fun q=>[(2,ptr b2),(3,ptr b3),(6,.slice a3 T.length c3),(8,.int .i64 ((64*q:Nat):Int))])
    (fun q=>Sep [aF 5 1 (.slice a3 T.length c3) T.length (bV T),A]::ae b3 (cl (wV (Sha.chunks S1 T q).l) 217)::ae b2 (cl (dC Dg.zero) 37)::F) 0 (Nat.zero_le _) rfl ck (by unfold Sha.chunks;exact ah) ?_
  rintro q hq ih
  refine go ?_
  refine au zr zr ?_ ?_
  · intro dJ
    have hq1:q<T.length/64:=by omega
    have ny:=Zk.cut (64*q) ag
    have kU:=EV _ hK2 _ _ ny (by rw[List.length_drop];omega) (Sha.chunks S1 T q)
    have qd:Sha.chunk (Sha.chunks S1 T q) (T.drop (64*q))=Sha.chunks S1 T (q+1):=by conv=>rhs;unfold Sha.chunks
    rw[qd]at kU
    refine go ?_
    refine aG (fun w=>Sat G w ([ae b3 (cl (wV (Sha.chunks S1 T q).l) 217)])) (dj 0 4 (.act 4 (.act 5 .nil))) rfl aq aq aq eo ?_
    refine go ?_
    refine bT (U:=aR) 0 zr zr zr zr zr zr (go ?_)
    refine bt (p:=((64*q:Nat):Int)) (q:=(T.length:Int)) zr zr zr zr zr zr zr ag ag (.inl rfl) ?_
    refine az 64 ((.slice (sliceAt a3 c3 (64*q) 1) (T.length-64*q) (c3-64*q))) rfl (rfl) ?_
    refine bp kU ?_
    unfold Sn
    refine aV ?_
    refine cH (U:=aR) 1 gf rfl rfl rfl rfl (by intro e;have:=congrArg List.length e;rw[Nb]at this;cases this) (fM _) rfl (by rw[Nb,Nb]) rfl ?_
    refine go ?_
    refine bj 8 ((.int .i64 ((64*(q+1):Nat):Int))) rfl ((congrArg (Value.int .i64) ag)) ?_
    refine aM ih (q+1) rfl ag ag ck ah
  intro fO
  have Zt:q=T.length/64:=by omega
  subst Zt
  rw[← Gj]
  have qc:(dW b).bs=Sha.out (Sha.chunks Sha.start (Sha.msg b) ((Sha.msg b).length/64)):=Kt b
  clear Gj ih
  generalize Sha.chunks Sha.start (Sha.msg b) ((Sha.msg b).length/64)=S2 at qc ⊢
  refine ai (ak.cK _ _) (go ?_)
  refine aC zr zr zr bE ?_
  intro b9
  refine go ?_
  have ZA:=Sha.Dt S2
  have ED:∀i,i≤32→((Sha.out S2).take i++List.replicate (32-i) (0:UInt8)).length=32:=fun i hi=>by
    grind
  refine bB (fun i:Nat=>i≤32) (fun i=>32-i)
    (fun i=>[(2,ptr b2),(3,ptr b3),(9,ptr b9),(66,.int .i64 (i:Int))])
    (fun i=>ae b9 (cl (bV ((Sha.out S2).take i++List.replicate (32-i) (0:UInt8))) 37)::ae b3 (cl (wV S2.l) 217)::ae b2 (cl (dC Dg.zero) 37)::A::F) 0 (Nat.zero_le _) rfl ck ah ?_
  rintro i hi ih
  refine go ?_
  refine au zr zr ?_ ?_
  · intro dJ
    have uM:i<32:=by omega
    have hq4:(i:Int)/4=((i/4:Nat):Int):=by omega
    have hr4:24-8*((i:Int)%4)=((24-8*(i%4):Nat):Int):=by omega
    have MZ:(wV S2.l)[i/4]?=some (u32 (S2.l.getD (i/4) 0)):=iL (by rw[List.getD_eq_getElem?_getD,List.getElem?_eq_getElem (show i/4<S2.l.length from by show i/4<8;omega)];rfl)
    have tz:(Sha.out S2)[i]?=some (UInt8.ofNat ((S2.l.getD (i/4) 0) >>> (24-8*(i%4))).toNat):=by simp[Sha.out,uM]
    (repeat(first|refine eZ ?_|refine lP zr zr zr ag ag (by simp only[gy];omega) ?_|refine nT zr zr zr ag ag ?_|refine iA zr zr zr (by simp only[gy];omega) ?_|refine eE (U:=aR) (i/4) zr zr zr zr zr zr zr hq4 ag ?_|(refine aK ?_;refine ni (U:=aR) 1 (i/4) zr zr zr (Nat.zero_add _) MZ zr zr ?_)|refine qY (24-8*(i%4)) zr zr zr hr4 ag ?_|(refine fb ?_;refine CT (U:=aR) zr zr zr zr zr zr ?_)|refine eE (U:=aR) i zr zr zr zr zr zr zr zr uM ?_))
    refine aV ?_
    refine hG (U:=aR) 0 gf zr zr zr zr zr zr zr (by rw[bM,ED i ag];omega) rfl ?_
    rw[show 0+i=i from Nat.zero_add _,FD ZA tz]
    refine go ?_
    refine aM ih (i+1) rfl ag ag ck ah
  intro fO
  have uM:i=32:=by omega
  subst uM
  rw[List.take_of_length_le ag,show 32-32=0 from rfl,List.replicate_zero,List.append_nil,← qc,← dL]
  clear ih ED ZA qc
  have hd:(dC (dW b)).length=32:=rfl
  have fq:iV (dC (dW b))=true:=by rw[dL];exact gU _
  have hdv:dV (dW b) = .agg (dC (dW b)).toArray:=rfl
  rw[hdv]at hE
  generalize dC (dW b)=cs at hd fq hE ⊢
  refine go ?_
  refine aH (U:=aR) 0 zr zr zr zr zr hd ?_
  refine cH (U:=aR) 2 gf rfl rfl rfl hd (by intro e;rw[e]at hd;cases hd) fq rfl (by rw[hd];rfl) rfl ?_
  refine go ?_
  refine jY (U:=aR) 2 hE Tryz.func116 zr zr zr zr zr hd rfl ⟨rfl,rfl⟩ ah
end Go.Proofs.YthnfckodljbgbaaGreatDoor
namespace Go.Proofs.YthnfckodljbgbaaGreatDoor
open Go Go.SL
def sJ(A:HP)(v:Value)(ls:List (List UInt8)):Prop:=∃cs:List Value,Vw A v ls.length cs∧cs.length=ls.length∧(∃a c,v = .slice a ls.length c∧ls.length≤c)∧∀(i:Nat) (x:List UInt8),ls[i]?=some x→∃cv,cs[i]?=some cv∧eO A cv x
def sJ.row{X:HP}{b:Nat}{e:TypeId}{n:Nat}{cs:List Value}{ls:List (List UInt8)}(hn:ls.length=n)(hc:cs.length=n)(h:∀(i:Nat) (x:List UInt8),ls[i]?=some x→∃cv,cs[i]?=some cv∧eO X cv x) :
  sJ (Sep [ae b (cl cs e),X]) (.slice (some ⟨b,0,none⟩) n n) ls:=by
 subst hn
 refine⟨cs,(Vw.ae (by rw[List.drop_zero,List.take_length])).mono (aY (i:=0) rfl),hc,⟨_,_,rfl,Nat.le_refl _⟩,fun i x hx=>?_⟩
 obtain⟨cv,h1,h2⟩:=h i x hx
 exact⟨cv,h1,h2.mono (aY (i:=1) rfl)⟩
end Go.Proofs.YthnfckodljbgbaaGreatDoor
namespace Go.SL
open Go
inductive aQ(P:Program)(U:Tr)(L:fY)(H:List HP):List ResultVar→List Value→Prop where
 | nil:aQ P U L H [] []
 | tmp {q:Nat} {u:Value} {rs:List ResultVar} {us:List Value} (hq:ek L q=some u) (h:aQ P U L H rs us):aQ P U L H (.tmp q::rs) (u::us)
 | agg {p b:Nat} {t e:TypeId} {bY:Ty} {cs:List Value} {rs:List ResultVar} {us:List Value} (i:Nat) (hp:ek L p=some (.pointer (some ⟨b,0,none⟩))) (ht:U.get t=some bY) (hg:bY.isAgg=true) (hi:cM H i=some (ae b (cl cs e))) (hl:cs.length=bY.info.size) (h:aQ P U L H rs us):aQ P U L H (.cell p t::rs) (.agg cs.toArray::us)
 | one {p b:Nat} {t e:TypeId} {bY:Ty} {u:Value} {rs:List ResultVar} {us:List Value} (i:Nat) (hp:ek L p=some (.pointer (some ⟨b,0,none⟩))) (ht:U.get t=some bY) (hg:bY.isAgg=false) (hi:cM H i=some (ae b (cl [u] e))) (h:aQ P U L H rs us):aQ P U L H (.cell p t::rs) (u::us)
def aQ.run{P:Program}{U:Tr}[hU:gq P U]{n:Nat}{G:cQ}{L:fY}{H:List HP}{a:Act}{w:World}(ha:Has n L a)(hw:Sat G w H):∀ {rs us},aQ P U L H rs us→(rs.mapM (Df a.tmps)).run P w = .ok us w:=by
 intro rs us h
 induction h with
 | nil=>simp
 | @tmp q u rs us hq h ih =>
  have g2:a.tmps.getD q undef=u:=by rw[Array.getD_eq_getD_getElem?,ha.2.2 _ _ hq];rfl
  simp only[List.mapM_cons,Sem.run_bind,Df,g2,Sem.run_pure,Result.andThen_ok,ih]
 | @agg p b t e bY cs rs us i hp ht hg hi hl h ih =>
  have hc:∀j v,cs[j]?=some v→w.cell? ⟨b,0+j,none⟩=some v:=fun j v hj=>by rw[ea (hw.uV hi),Nat.zero_add];exact hj
  have TR:=iP (P:=P) (w:=w) ht hg hl hc
  have ZN:(loadVar t ⟨b,0,none⟩).run P w = .ok (.agg cs.toArray) w:=by simpa[Instr.loadAt,Instr.sureAddr]using TR
  have g1:a.tmps.getD p undef = .pointer (some ⟨b,0,none⟩):=by simp[Array.getD_eq_getD_getElem?,ha.2.2 p _ hp]
  simp only[List.mapM_cons,Sem.run_bind,Df,g1,asAddr,Sem.run_pure,Result.andThen_ok,ZN,ih]
 | @one p b t e bY u rs us i hp ht hg hi h ih =>
  have g1:=zf (P:=P) i ha hw hp ht hg hi
  simp_all
def aW{P:Program}{U:Tr}[hU:gq P U]{f:FuncId}{n:Nat}{R:Ending→World→Prop}{G:cQ}{ds:List Nat}{k k0:List Item}{L:fY}{H H':List HP}{fn:Func}{F:List HP}{Post:Value→List HP→Prop}{us:List Value}{Hq:List HP}(hR:Ends R G F Post)(hf:P.funcs[f]?=some fn)(hk:iE 1000 k0 = .mk (.code .ret::k))(he:ak H (ds.map (fun r=>ae r (.deferred (some [])))++H'))(hr:aQ P U L H' fn.results.toList us)(fU:Post (eK us) Hq)(Jl:ak H' (Hq++F)):K P f n R { G with ds:=ds } k0 L H:=by
 refine R3 hR hf hk he (fun a w ha hw=>?_) fU Jl
 have h1:=hr.run (P:=P) ha hw
 rw[pw,Array.mapM_eq_mapM_toList]
 simp only[Sem.run_bind,Sem.run_map,h1,Sem.run_pure,Result.andThen_ok]
 match us with
 | []=>simp[eK]
 | [v]=>simp[eK]
 | v::u::vs=>simp[eK]
section
variable{P:Program}{U:Tr}[hU:gq P U]{f:FuncId}{n:Nat}{R:Ending→World→Prop}{G:cQ}{k:List Item}{L:fY}{H H':List HP}{S:World→Prop}{all:Array Oper}{rest:Pl}{ty:TypeId}{pos:String}{af:Array Edge}{gd:Option (Nat × Bool)}{m:Bool}{d:Tmp}
theorem Oo{t elem:TypeId}{bY te:Ty}{x lo hi mx:Operand}{a0:Option Addr}{len cap:Nat}{p q r:Int}{j1 j2 j3:IntKind}(hd:Nat.blt d n=true)(ht:U.get t=some bY)(hu:bY.gH = .slice elem)(he:U.get elem=some te)(hx:ev L x=some (.slice a0 len cap))(Ck:ev L lo=some (.int j1 p))(Ia:ev L hi=some (.int j2 q))(hmx:ev L mx=some (.int j3 r))(h0:0≤p)(H5:p≤q)(hqr:q≤r)(QP:r≤(cap:Int))(h:J P f n R G S all rest k ((d,.slice (sliceAt a0 r.toNat p.toNat te.info.size) (q.toNat-p.toNat) (r.toNat-p.toNat))::L) H) :
  J P f n R G S all (.cons m true ⟨some d,.slice t x (some lo) (some hi) (some mx),ty,pos,af,gd⟩ rest) k L H:=by
 refine dF hd (fun a ha w=>?_) h
 have hb:(Instr.sliceBounds true len cap (some (a.eval lo)) (some (a.eval hi)) (some (a.eval mx))).run P w = .ok (p.toNat,q.toNat,r.toNat) w:=by
  unfold Instr.sliceBounds
  have e1:0≤r∧r≤(cap:Int):=⟨ag,QP⟩
  have e2:0≤q∧q≤((r.toNat:Nat):Int):=⟨ag,ag⟩
  have e3:0≤p∧p≤((q.toNat:Nat):Int):=⟨ag,ag⟩
  have e4:q≤max r 0:=by omega
  have e5:p≤max q 0:=by omega
  have e6:0≤q:=by omega
  simp[ha.ev Ck,ha.ev Ia,ha.ev hmx,Instr.sliceBound,asIntOf,e1,e2,e3,e4,e5,e6,h0]
 simp only[execOp,ha.ev hx,Instr.sliceAt,Sem.run_bind,run_underlying ht,Result.andThen_ok,hu,Instr.slice,Option.map_some,hb,run_sizeOf he,Sem.run_pure,sliceAt]
 grind
end
end Go.SL
