import Derived.Test.YtlionahpheehaaaGreatDoorQTP2
import Derived.Test.YtlionahpheehaaaGreatDoorQTP3
import Derived.Test.YtlionahpheehaaaGreatDoorQTP4
import Derived.Test.YtlionahpheehaaaGreatDoorQTP5
import Derived.WideKeyRuns
set_option linter.unusedSectionVars false
set_option linter.unusedSimpArgs false
set_option linter.unusedVariables false
set_option maxRecDepth 20000
set_option linter.defProp false
namespace Go.Proofs.YtlionahpheehaaaGreatDoor
open Go Go.SL
variable{dY:Int}{b n s stay:List UInt8}{f i j:Nat}
attribute [local irreducible] J K aH Ends ak aK aV bX bj aS bp
def CA(bd:Nat)(D:Dk)(A:Ab)(hR:Rel D A) :
    aH Tryz.prog 38 [ptr bd] [im bd D] (fun v H=>∃D',Rel D' A.cG.2∧H=[im bd D']∧v = .int .i64 A.cG.1):=by
  refine aH.aC Tryz.func38 Tryz.ntmps38 fun G F R hE=>?_
  refine go ?_
  refine bM [0] zr zr zr zr (AR bd D A hR true) rfl bI ?_
  rintro _ _⟨D',gE,rfl,rfl⟩
  refine go ?_
  refine eX zr zr ?_ ?_
  · intro h0
    have rp:¬(A.meet true).1=0:=by have:=of_decide_eq_true h0;omega
    have hf:A.cG=((A.meet true).1,(A.meet true).2):=by simp[Ab.cG,rp]
    rw[hf]at hE
    refine go ?_
    refine aG hE Tryz.func38 rfl _ rfl ⟨D',gE,rfl,rfl⟩ (aq.fin [0] 0 zr zr)
  · intro h0
    have rp:(A.meet true).1=0:=by have:=of_decide_eq_false h0;omega
    have hf:A.cG=(0,{ (A.meet true).2 with aF:=[(A.meet true).2.names] }):=by simp[Ab.cG,rp]
    rw[hf]at hE
    obtain⟨room,bm,lO,pT,oP,off,maps,eC,files,gO,wl⟩:=D'
    refine al (ju _ _ _ _ _ _ _ _ _ _ _ _ _) (go ?_)
    refine az zr zr zr zr zr zr zr zr zr bO ?_
    intro b0
    refine go ?_
    refine al (fp 71 1 b0 1 1 [.map (some bm)] [] _ rfl (Nat.le_refl _) (by simp)) ?_
    refine al (aq.pick [1,2,3,4,0,6] rfl) ?_
    refine al (eK bd room bm _ pT oP off maps eC files [bm] wl _) ?_
    have RF:Rel ⟨room,bm,.slice (some ⟨b0,0,none⟩) 1 1,pT,oP,off,maps,eC,files,[bm],wl⟩ { (A.meet true).2 with aF:=[(A.meet true).2.names] } :=
      { room:=gE.room,off:=gE.off,names:=gE.names,aF:=fM.one gE.names,fs:=gE.fs,writes:=gE.writes,ei:=gE.ei,ids:=gE.ids
        known:=fun st cN=>gE.known st (by simp only[List.mem_cons,List.not_mem_nil,or_false]at cN;rcases cN with rfl|rfl <;> exact List.mem_cons_self ..)
        g':=gE.g'
        nodup:=fun st cN=>gE.nodup st (by simp only[List.mem_cons,List.not_mem_nil,or_false]at cN;rcases cN with rfl|rfl <;> exact List.mem_cons_self ..)
        gP:=gE.gP,iv:=gE.iv
        gk:=fun st cN=>gE.gk st (by simp only[List.mem_cons,List.not_mem_nil,or_false]at cN;rcases cN with rfl|rfl <;> exact List.mem_cons_self ..)
        iw:=gE.iw,lg:=gE.lg,full:=by simp }
    refine aG hE Tryz.func38 rfl _ rfl ⟨_,RF,rfl,rfl⟩ (aq.fin [0] 1 zr zr)
theorem fM.filter{α β:Type}{q:α→β→Prop}{l:List α}{r:List β}(h:fM q l r){p1:α→Bool}{p2:β→Bool}(hp:∀x y,q x y→p1 x=p2 y):fM q (l.filter p1) (r.filter p2):=by
 induction l generalizing r with
 | nil =>
  have:r=[]:=List.eq_nil_of_length_eq_zero h.1.symm
  grind
 | cons x l ih =>
  cases r with
  | nil=>exact absurd h.1 (by simp)
  | cons y r =>
   have h0:=h.2 0 x y zr zr
   have ht:fM q l r:=⟨by have:=h.1;simpa using this,fun i a b ha hb=>h.2 (i+1) a b (by simpa using ha) (by simpa using hb)⟩
   rw[List.filter_cons,List.filter_cons,hp x y h0]
   split
   ·exact(ih ht).cons h0
   grind
theorem Pn{fs:List (Nat × List UInt8 × List UInt8)}(hn:(fs.map (·.1)).Nodup){x:List UInt8 × List UInt8}(hi:fs[i]?=some (f,x)):Ab.oJ fs f=fs.set i (f,x.1,x.1):=by
 induction fs generalizing i with
 | nil=>simp at hi
 | cons y l ih =>
  simp only[List.map_cons,List.nodup_cons]at hn
  cases i with
  | zero =>
   simp at hi
   subst hi
   simp only[Ab.oJ,List.map_cons,if_true,List.set_cons_zero,List.cons.injEq,true_and]
   rw[List.map_congr_left (g:=id) (fun z hz=>?_),List.map_id]
   grind
  | succ i =>
   simp at hi
   have dw:y.1≠f:=fun e=>hn.1 (List.mem_map.2 ⟨_,List.mem_of_getElem? hi,e.symm⟩)
   have:=ih hn.2 hi
   simp only[Ab.oJ]at this
   simp only[Ab.oJ,List.map_cons,dw,if_false,List.set_cons_succ,this]
theorem z8(fs:List (Nat × List UInt8 × List UInt8))(f:Nat):(Ab.oJ fs f).map (·.1)=fs.map (·.1):=by
 simp only[Ab.oJ,List.map_map]
 apply List.map_congr_left
 grind
theorem Rel.synced{D:Dk}{A:Ab}(h:Rel D A){v1 v2 w:Value}(hi:D.files[i]?=some (f,v1,v2))(ha:A.fs[i]?=some (f,A.now f,A.sure f)) :
  Rel { D with files:=D.files.set i (f,v1,v1),pT:=w,wl:=D.wl.filter fun x => !decide (x.1=f) } { A with fs:=Ab.oJ A.fs f,writes:=A.writes.filter fun x => !decide (x.1=f) } where
 room:=h.room
 off:=h.off
 names:=h.names
 aF:=h.aF
 fs:=by
  rw[Pn h.ids ha]
  have h2:=h.fs.2 i _ _ hi ha
  exact fM.set h.fs i ⟨rfl,h2.2.1,h2.2.1⟩
 writes:=fM.filter h.writes (fun x y EU=>by rw[EU.1])
 ei:=h.ei
 ids:=by simp only[z8];exact h.ids
 known:=by simp only[z8];exact h.known
 g':=by
  simp only[z8]
  exact fun x hx=>h.g' x (List.mem_filter.1 hx).1
 nodup:=h.nodup
 gP:=by
  intro x hx
  simp only[Ab.oJ,List.mem_map]at hx
  obtain⟨y,hy,rfl⟩:=hx
  have:=h.gP y hy
  grind
 iv:=fun x hx=>h.iv x (List.mem_filter.1 hx).1
 gk:=h.gk
 iw:=h.iw
 lg:=h.lg
 full:=h.full
theorem R'(bd:Nat)(D:Dk)(A:Ab)(hR:Rel D A)(name:ByteArray)(fD:A.writes.length≤1000000000) :
  aH Tryz.prog 154 [ptr bd,.string name] [im bd D]
   (fun v H=>∃D',Rel D' (A.sync (isName name) name).2∧H=[im bd D']∧v = .int .i64 (A.sync (isName name) name).1):=by
 refine aH.aC Tryz.func154 Tryz.ntmps154 fun G F R hE=>?_
 refine go ?_
 refine az zr zr zr zr zr zr zr zr zr bO ?_
 intro b0
 refine go ?_
 refine bM [0] zr zr zr zr (j0 _ _ [name] (Vw.ak rfl) (by simp)) rfl bI ?_
 rintro _ _⟨rfl,rfl⟩
 have e1:[name].all isName=isName name:=by simp
 rw[e1]
 refine go ?_
 refine bM [1] zr zr zr zr (kM bd D A hR name (isName name)) rfl bI ?_
 generalize k8:isName name=ok at hE ⊢
 rintro _ _⟨D',gE,rfl,rfl⟩
 by_cases rp:(A.find name ok).1=0
 ·obtain⟨aai,fl,pQ,fk⟩:=nv rp
  have hw:A.sync ok name=(0,{ (A.find name ok).2.2 with fs:=Ab.oJ (A.find name ok).2.2.fs fl,writes:=(A.find name ok).2.2.writes.filter fun x => !decide (x.1=fl) }):=by simp[Ab.sync,rp,pQ]
  rw[hw]at hE
  rw[pQ,rp]
  have aew:(A.find name ok).2.2.writes.length≤1000000000:=by rw[(pt A name ok).2.2.2.1];exact fD
  generalize (A.find name ok).2.2=A1 at *
  obtain⟨room,bm,lO,pT,oP,off,maps,eC,files,gO,wl⟩:=D'
  obtain⟨i,v1,v2,hi,ot,ko,rl⟩:=gE.file (f:=fl) (gE.known _ (List.mem_cons_self ..) _ fk)
  obtain⟨a,cap,rfl,jE⟩:=ko.shape
  refine go ?_
  refine aL zr zr zr bO ?_
  intro c5
  refine go ?_
  refine al (aq.pick [1] rfl) ?_
  refine al (ju _ _ _ _ _ _ _ _ _ _ _ _ _) ?_
  refine al (aq.pick [3] rfl) ?_
  refine al (gN fJ hi _) ?_
  refine aO (fun w=>Sat G w ([ak c5 (cl [ptr fl] 146),ak fl (cl [.slice a (A1.now fl).length cap,v2] 151)])) (dM 0 7 (.act 7 .nil)) rfl aw aw aw (fun w hw=>hw.cI (aq.aI ([7,0]) rfl)) ?_
  refine go ?_
  refine aT (oL fJ (y:=(fl,.slice a (A1.now fl).length cap,.slice a (A1.now fl).length cap)) hi _) ?_
  refine aT (aq.pick [6,0] rfl) ?_
  refine aT (aq.join _ _ _) ?_
  have Hn:(files.set i (fl,.slice a (A1.now fl).length cap,.slice a (A1.now fl).length cap)).map (·.1)=files.map (·.1):=by
   rw[List.map_set]
   apply List.ext_getElem?
   grind
  have hfi:=gE.adM
  simp only at hfi
  have hwx:∀x∈wl,(∃a n c,x.2.2 = .slice a n c)∧x.1∈files.map (·.1):=fun x hx=>by
   obtain⟨j,hj⟩:=List.getElem?_of_mem hx
   obtain⟨y,hy,h1,_,h3⟩:=gE.writes.left hj
   obtain⟨a,c,h4,_⟩:=h3.shape
   refine⟨⟨_,_,_,h4⟩,?_⟩
   rw[hfi,h1]
   exact gE.g' y (List.mem_of_getElem? hy)
  refine bM [5,0] zr zr zr zr (zv pT wl (star (ak c5 (cl [ptr fl] 146)) (aS fJ (files.set i (fl,.slice a (A1.now fl).length cap,.slice a (A1.now fl).length cap)))) 217 [ptr c5] (fun x=>decide (x.1=fl)) (by have:=gE.writes.1;simp only at this;omega) (fun x hx=>(hwx x hx).1)
   (fun x hx=>Oy c5 fl x.1 x.2.1 x.2.2 _ (by rw[Hn,hfi];exact List.mem_map.2 ⟨_,List.mem_of_getElem? ot,rfl⟩) (by rw[Hn];exact(hwx x hx).2) (by obtain⟨⟨a,n,c,h⟩,_⟩:=hwx x hx;rw[h];rfl))) rfl bI ?_
  rintro r _ rfl
  refine aN 0 rfl ?_
  rintro ar cr rfl
  refine go ?_
  refine al (aq.pick [1] rfl) ?_
  refine al (aq.part _ _ _) ?_
  refine al (aq.pick [3,4,5,1,6,2] rfl) ?_
  refine al (eK bd room bm lO _ oP off maps eC _ gO _ _) ?_
  refine aG hE Tryz.func154 rfl _ rfl ⟨_,gE.synced hi ot,rfl,rfl⟩ (aq.fin [0] 2 zr zr)
 ·have hw:A.sync ok name=((A.find name ok).1,(A.find name ok).2.2):=by simp[Ab.sync,rp]
  rw[hw]at hE
  cases FU:(A.find name ok).2.1 with
  | none =>
   refine go ?_
   refine aL zr zr zr bO ?_
   intro c5
   refine go ?_
   refine eX zr zr ?_ ?_
   ·intro _
    refine go ?_
    refine aG hE Tryz.func154 rfl _ rfl ⟨D',gE,rfl,rfl⟩ (aq.fin [1] 2 zr zr)
   ·intro h;exfalso;have:=of_decide_eq_false h;omega
  | some fl =>
   refine go ?_
   refine aL zr zr zr bO ?_
   intro c5
   refine go ?_
   refine eX zr zr ?_ ?_
   ·intro _
    refine go ?_
    refine aG hE Tryz.func154 rfl _ rfl ⟨D',gE,rfl,rfl⟩ (aq.fin [1] 2 zr zr)
   ·intro h;exfalso;have:=of_decide_eq_false h;omega
abbrev Pd:=List (Nat × List UInt8 × List UInt8)
structure kV(DY eC:gw)(files:List (Nat × Value × Value))(fs:Pd)(ids:List Nat):Prop where
 all:fM (fun x y=>x.1=y.1∧lC eC x.2.1 y.2.1∧lC eC x.2.2 y.2.2) files fs
 sub:∀x∈DY,x∈eC
 ids:fs.map (·.1)=ids
 small:∀x∈fs,x.2.1.length≤1048576∧x.2.2.length≤1048576
def uG(stay:List UInt8)(i:Nat):Bool:=decide (i/8<stay.length∧((stay.getD (i/8) 0).toNat/2 ^ (i%8))%2=1)
theorem LD(g:Nat × List UInt8 × List UInt8→Nat × List UInt8 × List UInt8){fs:Pd}(hn:(fs.map (·.1)).Nodup){x:List UInt8 × List UInt8}(hi:fs[i]?=some (f,x)):(fs.map fun y=>if y.1=f then g y else y)=fs.set i (g (f,x)):=by
 induction fs generalizing i with
 | nil=>simp at hi
 | cons y l ih =>
  simp only[List.map_cons,List.nodup_cons]at hn
  cases i with
  | zero =>
   simp at hi
   subst hi
   simp only[List.map_cons,if_true,List.set_cons_zero,List.cons.injEq,true_and]
   rw[List.map_congr_left (g:=id) (fun z hz=>?_),List.map_id]
   grind
  | succ i =>
   grind
def kV.get{DY eC:gw}{files:List (Nat × Value × Value)}{fs:Pd}{ids:List Nat}(h:kV DY eC files fs ids)(hn:ids.Nodup)(hf:f∈ids) :
  ∃(j:Nat) (v1 v2:Value) (n s:List UInt8),files[j]?=some (f,v1,v2)∧fs[j]?=some (f,n,s)∧lC eC v1 n∧lC eC v2 s∧n.length≤1048576∧s.length≤1048576∧(fs.find? fun x=>decide (x.1=f))=some (f,n,s):=by
 rw[← h.ids]at hf hn
 obtain⟨⟨f',n,s⟩,hm,rfl⟩:=List.mem_map.1 hf
 obtain⟨i,hi⟩:=List.getElem?_of_mem hm
 obtain⟨⟨f2,v1,v2⟩,hx,h1,h2,h3⟩:=h.all.right hi
 simp only at h1 h2 h3
 subst h1
 exact⟨i,v1,v2,n,s,hx,hi,h2,h3,(h.small _ hm).1,(h.small _ hm).2,u7 hn hi⟩
theorem kV.put{DY eC arrs':gw}{files:List (Nat × Value × Value)}{fs:Pd}{ids:List Nat}(h:kV DY eC files fs ids)(hs:∀x∈eC,x∈arrs'){v1 v2:Value}{y:List UInt8 × List UInt8}(hj:fs[j]?=some (f,y))(h1:lC arrs' v1 n)(h2:lC arrs' v2 s)(hl:n.length≤1048576∧s.length≤1048576):kV DY arrs' (files.set j (f,v1,v2)) (fs.set j (f,n,s)) ids where
 all:=fM.set (h.all.mono fun x y EU=>⟨EU.1,EU.2.1.mono hs,EU.2.2.mono hs⟩) j ⟨rfl,h1,h2⟩
 sub x hx:=hs x (h.sub x hx)
 ids:=by
  rw[← h.ids,List.map_set]
  apply List.ext_getElem?
  grind
 small x hx:=by
  rcases List.mem_or_eq_of_mem_set hx with h'|rfl
  ·exact h.small x h'
  ·exact hl
theorem drop_cons{α:Type}{l:List α}{x:α}(h:l[i]?=some x):l.drop i=x::l.drop (i+1):=by
 have dk:i<l.length:=by
  grind
 rw[List.drop_eq_getElem_cons dk]
 grind
theorem AX{cut:Int}{ws:List (Nat × Nat × List UInt8)}{fs:Pd}{a:Nat}{c:List UInt8}(h:ws[i]?=some (f,a,b))(hn:(fs.map (·.1)).Nodup)(hj:fs[j]?=some (f,n,s))(hk:Ab.kept stay dY cut i b=some c):Ab.j6 stay dY cut i (ws.drop i) fs=Ab.j6 stay dY cut (i+1) (ws.drop (i+1)) (fs.set j (f,n,bY s a c)):=by
 rw[drop_cons h]
 simp only[Ab.j6,hk]
 rw[u7 hn hj]
 have:=LD (fun y=>(y.1,y.2.1,bY s a c)) hn hj
 unfold Ab.vB
 grind
def AY{cut:Int}{ws:List (Nat × Nat × List UInt8)}{fs:Pd}{a:Nat}(h:ws[i]?=some (f,a,b))(hk:Ab.kept stay dY cut i b=none):Ab.j6 stay dY cut i (ws.drop i) fs=Ab.j6 stay dY cut (i+1) (ws.drop (i+1)) fs:=by
 rw[drop_cons h]
 simp only[Ab.j6,hk]
theorem Dl{cut:Int}{c:Nat}(hi:(i:Int)=dY)(hc:max 0 (min cut b.length)=(c:Int)):Ab.kept stay dY cut i b=if c=0 then none else some (b.take c):=by
 unfold Ab.kept
 rw[if_pos hi]
 have e:(max 0 (min cut (b.length:Int))).toNat=c:=by omega
 simp only[e]
 have hcb:c≤b.length:=by omega
 by_cases h0:c=0
 ·simp[h0]
 ·have hlen:(b.take c).length=c:=by rw[List.length_take];omega
  grind
theorem Nw{cut:Int}(hi:(i:Int)≠dY):Ab.kept stay dY cut i b=if uG stay i=true then some b else none:=by
 unfold Ab.kept uG
 grind
def mark(S:List Nat)(fs:Pd):Pd:=fs.map fun x=>if x.1∈S then(x.1,x.2.2,x.2.2)else x
def QC(fs:Pd):mark [] fs=fs:=by simp[mark]
theorem QE{S S':List Nat}(fs:Pd)(h:∀x,x∈S↔x∈S'):mark S fs=mark S' fs:=by
 grind [mark]
def QD(S:List Nat)(fs:Pd):(mark S fs).map (·.1)=fs.map (·.1):=by
 unfold mark;rw[List.map_map];apply List.map_congr_left;intro x _;simp only[Function.comp];split <;> rfl
theorem QB{S:List Nat}{fs:Pd}(hn:(fs.map (·.1)).Nodup)(hj:(mark S fs)[j]?=some (f,n,s)):(mark S fs).set j (f,s,s)=mark (f::S) fs:=by
 have h1:=LD (fun y=>(y.1,y.2.2,y.2.2)) (by rw[QD];exact hn) hj
 rw[← h1]
 unfold mark
 rw[List.map_map]
 apply List.map_congr_left
 grind
def Rel.crashed{D:Dk}{A:Ab}(h:Rel D A){last cut:Int}{q b1 b0:Nat}{nm:List (ByteArray × Nat)}{arrs':gw}{RL:List (Nat × Value × Value)}{w p:Value}(hw:w = .slice none 0 0)(hp:p = .slice none 0 0)(hq:max 0 (min last ((A.aF.length:Int)-1))=q)(nr:A.aF[q]?=some nm)(hb:(b1,fj nm)∈D.maps)(hF:kV D.eC arrs' RL (mark (Ab.reach (A.aF++[nm])) (Ab.j6 stay dY cut 0 A.writes A.fs)) (A.fs.map (·.1))) :
    Rel ⟨D.room,b1,.slice (some ⟨b0,0,none⟩) 1 1,w,p,false,D.maps,arrs',RL,[b1],[]⟩ (A.dx last stay dY cut):=by
  subst hw hp
  have cN:nm∈A.aF:=List.mem_of_getElem? nr
  have e:A.dx last stay dY cut={ A with names:=nm,aF:=[nm],writes:=[],ei:=[],off:=false,fs:=mark (Ab.reach (A.aF++[nm])) (Ab.j6 stay dY cut 0 A.writes A.fs) }:=by
    have e1:(max 0 (min last ((A.aF.length:Int)-1))).toNat=q:=by omega
    have e2:A.aF.getD (max 0 (min last ((A.aF.length:Int)-1))).toNat []=nm:=by rw[e1,List.getD_eq_getElem?_getD,nr];rfl
    simp only[Ab.dx,e2];rfl
  rw[e]
  have eg:∀st∈nm::[nm],st∈A.names::A.aF:=fun st hs=>by
    simp only[List.mem_cons,List.not_mem_nil,or_false]at hs
    rcases hs with rfl|rfl <;> exact List.mem_cons_of_mem _ cN
  exact
  { room:=h.room,off:=rfl,names:=hb,aF:=fM.one hb,fs:=hF.all,writes:=fM.nil,ei:=lC.nil _ _ _
    ids:=by simp only;rw[hF.ids];exact h.ids
    known:=fun st hs x hx=>by simp only;rw[hF.ids];exact h.known st (eg st hs) x hx
    g':=by simp
    nodup:=fun st hs=>h.nodup st (eg st hs)
    gP:=hF.small
    iv:=by simp
    gk:=fun st hs=>h.gk st (eg st hs)
    iw:=h.iw,lg:=by simp,full:=by simp }
theorem OP(bd:Nat)(D:Dk)(A:Ab)(hR:Rel D A)(last dY cut:Int)(X:HP)(bv:Value)(stay:List UInt8)(hv:Vw X bv stay.length (bV stay))(ez:stay.length≤9223372036854775807)(cN:A.aF.length≤1000000000)(fD:A.writes.length≤1000000000)(h1 : -9223372036854775808≤last∧last≤9223372036854775807)(h2 : -9223372036854775808≤dY∧dY≤9223372036854775807)(h3 : -9223372036854775808≤cut∧cut≤9223372036854775807) :
  aH Tryz.prog 20 [ptr bd,.int .i64 last,bv,.int .i64 dY,.int .i64 cut] [im bd D,X] (fun v H=>∃D',Rel D' (A.dx last stay dY cut)∧H=[im bd D',X]):=by
 obtain⟨a0,c0,rfl⟩:=hv.shape
 obtain⟨room,bm,lO,pT,oP,off,maps,eC,files,gO,wl⟩:=D
 have hlen:=hR.aF.1
 have acQ:=hR.writes.1
 have Ho:=hR.full
 have kY:0<A.aF.length:=List.length_pos_iff.2 Ho
 simp only at hlen acQ
 refine aH.aC Tryz.func20 Tryz.ntmps20 fun G F R hE=>?_
 refine al (ju _ _ _ _ _ _ _ _ _ _ _ _ _) ?_
 refine aM 4 rfl ?_
 rintro sa cs rfl
 refine aO (fun w=>Sat G w ([ak bd (cl [.int .i64 room,.map (some bm),.slice sa gO.length cs,pT,oP,.bool off] 75),aK 71 1 (.slice sa gO.length cs) gO.length (gO.map fun b => .map (some b))])) (dM 0 18 (.act 18 .nil)) rfl aw aw aw (fun w hw=>hw.cI (aq.aI ([0,4]) rfl)) ?_
 refine go ?_
 refine zR 4 rfl aj ?_
 rintro bs os k6 hs hvs
 simp only[Value.slice.injEq,true_and]at hs
 obtain⟨rfl,rfl⟩:=hs
 obtain⟨q,hq⟩:∃q:Nat,max 0 (min last ((gO.length:Int)-1))=q:=Int.eq_ofNat_of_zero_le aj
 have hqs:q<gO.length:=by omega
 refine bW q zr zr zr zr zr zr zr hq hqs ?_
 obtain⟨b1,nN⟩:∃b1,gO[q]?=some b1:=⟨gO[q],by simp⟩
 refine cQ 1 q zr zr zr hvs rfl (c := .map (some b1)) (by simp[nN]) zr zr (go ?_)
 refine aT (aq.pick [5] rfl) ?_
 refine aN 0 rfl ?_
 rintro wa wc rfl
 refine go ?_
 refine bF (fun s:Nat × gw × List (Nat × Value × Value) × List (Nat × List UInt8 × List UInt8)=>s.1≤wl.length∧kV eC s.2.1 s.2.2.1 s.2.2.2 (A.fs.map (·.1))∧Ab.j6 stay dY cut s.1 (A.writes.drop s.1) s.2.2.2=Ab.j6 stay dY cut 0 A.writes A.fs) (fun s=>wl.length-s.1)
  (fun s=>[(0,ptr bd),(2,.slice a0 stay.length c0),(3,.int .i64 dY),(4,.int .i64 cut),(38,.slice wa wl.length wc),(39,.int .i64 wl.length),(40,.int .i64 s.1)])
  (fun s=>aK 148 3 (.slice wa wl.length wc) wl.length (fQ wl)::ak bd (cl [.int .i64 room,.map (some b1),.slice (some ⟨bs,os,none⟩) gO.length cs,.slice wa wl.length wc,oP,.bool off] 75)::aS lS maps::bp 5 s.2.1::aS fJ s.2.2.1::aK 71 1 (.slice (some ⟨bs,os,none⟩) gO.length cs) gO.length (gO.map fun b => .map (some b))::X::F)
  (0,eC,files,A.fs) ⟨by simp,⟨hR.fs,fun x h=>h,rfl,hR.gP⟩,rfl⟩ rfl cF (aq.refl _) ?_
 rintro⟨i,nD,Kp,V8⟩⟨hi,hF,hL⟩ ih
 simp only at hi hF hL
 refine go ?_
 refine aB zr zr ?_ ?_
 ·intro dk
  simp only at dk
  have e9:i<wl.length:=by omega
  obtain⟨⟨fx,ax,bx⟩,hx⟩:∃x,wl[i]?=some x:=⟨wl[i],by simp[e9]⟩
  obtain⟨⟨fy,ay,uu⟩,hy,acO,acN,Z9⟩:=hR.writes.left hx
  simp only at acO acN Z9
  subst acO acN
  have I7:=Z9.mono hF.sub
  obtain⟨ba,bc,rfl,hbc⟩:=Z9.shape
  refine go ?_
  refine eZ 0 rfl ?_
  intro dH
  obtain⟨bw,ow,cw,hsw⟩:=dH.some (by rw[← List.length_pos_iff,gM,bR eT];omega)
  simp only[Value.slice.injEq,true_and]at hsw
  obtain⟨rfl,rfl⟩:=hsw
  refine cu i 3 zr zr zr zr zr zr zr zr e9 ?_
  refine cK (U:=bh) (es:=AW (fx,ax,.slice ba uu.length bc)) 0 (i*3) zr zr zr dH rfl (fun q v hq=>?_) zr zr zr ?_
  ·have I3:q<3:=by
    grind [eT]
   rw[gM,cM eT hx q I3];exact hq
  refine aL zr zr zr bO ?_
  intro bw1
  refine go ?_
  refine iQ zr zr zr aj ?_
  refine au 46 (.int .i64 ((i/8:Nat):Int)) rfl (congrArg (Value.int .i64) (by show(i:Int)/8=((i/8:Nat):Int);omega)) ?_
  refine go ?_
  refine dA zr zr zr zr ?_ ?_
  case' refine_2 =>
   intro zI
   refine go ?_
   refine aE 12 (.bool (uG stay i)) rfl (congrArg Value.bool (by
    unfold uG
    exact(decide_eq_false aj).symm)) ?_
  case' refine_1 =>
   intro zI
   obtain⟨bst,ost,cst,acW⟩:=hv.some (by rw[← List.length_pos_iff,bN];omega)
   simp only[Value.slice.injEq,true_and]at acW
   obtain⟨rfl,rfl⟩:=acW
   refine go ?_
   refine iQ zr zr zr aj ?_
   refine au 53 (.int .i64 ((i/8:Nat):Int)) rfl (congrArg (Value.int .i64) (by show(i:Int)/8=((i/8:Nat):Int);omega)) ?_
   have hi8:i/8<stay.length:=by omega
   refine go ?_
   refine bW (i/8) zr zr zr zr zr zr zr zr hi8 (go ?_)
   obtain⟨sx,J2⟩:∃x,stay[i/8]?=some x:=⟨stay[i/8]'hi8,by simp⟩
   refine wY (U:=bh) 7 zr zr zr (hv.cell (yn J2)) zr zr (go ?_)
   refine au 57 (.int .i64 ((i%2 ^ 3:Nat):Int)) rfl (congrArg (Value.int .i64) (wN i 3 aj aj)) (go ?_)
   refine iQ zr zr zr aj ?_
   have hsh:(sx.toNat:Int)/2 ^ (min (((i%2 ^ 3:Nat):Int).toNat) IntKind.u8.bits)=((sx.toNat/2 ^ (i%8):Nat):Int):=by
    have e1:min (((i%2 ^ 3:Nat):Int).toNat) IntKind.u8.bits=i%8:=by show min (i%8) 8=i%8;omega
    grind
   refine au 58 (.int .u8 ((sx.toNat/2 ^ (i%8):Nat):Int)) rfl (congrArg (Value.int .u8) hsh) ?_
   have hsb:sx.toNat/2 ^ (i%8)<256:=Nat.lt_of_le_of_lt (Nat.div_le_self _ _) sx.toNat_lt
   refine go ?_
   refine aE 12 (.bool (uG stay i)) rfl (congrArg Value.bool (by
    have:=KH _ hsb
    unfold uG
    rw[decide_eq_decide,List.getD_eq_getElem?_getD,J2]
    show IntKind.u8.wrap _=1↔_
    rw[this]
    simp only[Option.getD_some]
    omega)) ?_
  all_goals(
   generalize O2:uG stay i=told
   clear zI
   refine go ?_
   refine aB zr zr ?_ ?_
   ·intro LN
    refine go ?_
    obtain⟨c,hc⟩:∃c:Nat,max 0 (min cut (uu.length:Int))=c:=Int.eq_ofNat_of_zero_le aj
    have hcb:c≤uu.length:=by omega
    refine aU (p:=0) (q:=max 0 (min cut (uu.length:Int))) zr zr zr zr zr zr zr (Int.le_refl _) aj (.inr aj) ?_
    refine au 73 (.slice (sliceAt ba bc 0 1) c bc) rfl (by simp only[hc];rfl) ?_
    refine go ?_
    refine aB zr zr ?_ ?_
    ·intro Ci
     have aaG:c≠0:=by intro e;subst e;simp at Ci
     have hk:Ab.kept stay dY cut i uu=some (uu.take c):=by rw[Dl LN hc,if_neg aaG]
     have L4:lC nD (.slice (sliceAt ba bc 0 1) c bc) (uu.take c):=I7.cut 0 c aj
     have jx:(uu.take c).length=c:=by rw[List.length_take];omega
     (obtain⟨j,v1,v2,n,s,hj,VY,Ut,Kj,NN,T3,L3⟩:=hF.get hR.ids (hR.g' _ (List.mem_of_getElem? hy));have hwb:=hR.iv _ (List.mem_of_getElem? hy);simp only at hwb;have aam:(V8.map (·.1)).Nodup:=(by rw[hF.ids];exact hR.ids);have aev:=iB s ax (uu.take c);refine al (aq.pick [5] rfl) ?_;refine al (gN fJ hj _) ?_;refine aO (fun w=>Sat G w ([ak bw1 (cl [ptr fx,.int .i64 ax,(.slice (sliceAt ba bc 0 1) c bc)] 148),ak fx (cl [v1,v2] 151)])) (dM 0 11 (.act 11 (.st 12 (.st 13 (.act 14 .nil))))) rfl aw aw aw (fun w hw=>hw.cI (aq.aI ([2,0]) rfl)) ?_;refine go ?_;refine bM [6] rfl rfl rfl rfl (xi (bp 5 nD) v2 _ s (uu.take c) ax (Kj.view _) (L4.view _) aj) rfl (fun _ _ w hp hw=>by obtain⟨_,_,_,_,rfl⟩:=hp;exact hw.cI (aq.aI [4,2] rfl)) ?_;rintro _ _⟨bl,oB,rfl,Hw,rfl⟩;refine go ?_;refine al (aq.pick [2,3] rfl) ?_;refine al (oL fJ (y:=(fx,v1,.slice (some ⟨bl,0,none⟩) (bY s ax (uu.take c)).length oB)) hj _) ?_;refine al (aq.pick [1,2] rfl) ?_;refine al (BN 5 bl _ nD _) ?_;have V4:=hF.put (arrs':=(bl,bV (bY s ax (uu.take c)))::nD) (v1:=v1) (v2 := .slice (some ⟨bl,0,none⟩) (bY s ax (uu.take c)).length oB) (n:=n) (s:=bY s ax (uu.take c)) (fun x h=>List.mem_cons_of_mem _ h) VY (Ut.mono fun x h=>List.mem_cons_of_mem _ h) (lC.row Hw) ⟨NN,aj⟩;refine aQ ih (i+1,_,_,_) rfl ⟨e9,V4,by rw[← hL];exact(AX hy aam VY hk).symm⟩ (by show _-(_+1)<_;omega) cF (aq.to [3,4,5,0,1,6,7] 1 zr zr zr))
    ·intro Ci
     have aaG:c=0:=by rcases Nat.eq_zero_or_pos c with h|h;exact h;exact absurd (by simp;exact h) Ci
     have hk:Ab.kept stay dY cut i uu=none:=by rw[Dl LN hc,if_pos aaG]
     refine go ?_
     (refine aQ ih (i+1,nD,Kp,V8) rfl ⟨e9,hF,by rw[← hL];exact(AY hy hk).symm⟩ (by show _-(_+1)<_;omega) cF (aq.drop _ _))
   ·intro LN
    refine go ?_
    have hkk:=Nw (stay:=stay) (cut:=cut) (b:=uu) LN
    cases told with
    | false => 
     have hk:Ab.kept stay dY cut i uu=none:=by rw[hkk,O2];rfl
     refine go ?_
     (refine aQ ih (i+1,nD,Kp,V8) rfl ⟨e9,hF,by rw[← hL];exact(AY hy hk).symm⟩ (by show _-(_+1)<_;omega) cF (aq.drop _ _))
    | true =>
     have hk:Ab.kept stay dY cut i uu=some uu:=by rw[hkk,O2];rfl
     have L4:lC nD (.slice ba uu.length bc) uu:=I7
     have jx:uu.length=uu.length:=rfl
     have hcb:uu.length≤uu.length:=Nat.le_refl _
     refine go ?_
     (obtain⟨j,v1,v2,n,s,hj,VY,Ut,Kj,NN,T3,L3⟩:=hF.get hR.ids (hR.g' _ (List.mem_of_getElem? hy));have hwb:=hR.iv _ (List.mem_of_getElem? hy);simp only at hwb;have aam:(V8.map (·.1)).Nodup:=(by rw[hF.ids];exact hR.ids);have aev:=iB s ax uu;refine al (aq.pick [5] rfl) ?_;refine al (gN fJ hj _) ?_;refine aO (fun w=>Sat G w ([ak bw1 (cl [ptr fx,.int .i64 ax,(.slice ba uu.length bc)] 148),ak fx (cl [v1,v2] 151)])) (dM 0 11 (.act 11 (.st 12 (.st 13 (.act 14 .nil))))) rfl aw aw aw (fun w hw=>hw.cI (aq.aI ([2,0]) rfl)) ?_;refine go ?_;refine bM [6] rfl rfl rfl rfl (xi (bp 5 nD) v2 _ s uu ax (Kj.view _) (L4.view _) aj) rfl (fun _ _ w hp hw=>by obtain⟨_,_,_,_,rfl⟩:=hp;exact hw.cI (aq.aI [4,2] rfl)) ?_;rintro _ _⟨bl,oB,rfl,Hw,rfl⟩;refine go ?_;refine al (aq.pick [2,3] rfl) ?_;refine al (oL fJ (y:=(fx,v1,.slice (some ⟨bl,0,none⟩) (bY s ax uu).length oB)) hj _) ?_;refine al (aq.pick [1,2] rfl) ?_;refine al (BN 5 bl _ nD _) ?_;have V4:=hF.put (arrs':=(bl,bV (bY s ax uu))::nD) (v1:=v1) (v2 := .slice (some ⟨bl,0,none⟩) (bY s ax uu).length oB) (n:=n) (s:=bY s ax uu) (fun x h=>List.mem_cons_of_mem _ h) VY (Ut.mono fun x h=>List.mem_cons_of_mem _ h) (lC.row Hw) ⟨NN,aj⟩;refine aQ ih (i+1,_,_,_) rfl ⟨e9,V4,by rw[← hL];exact(AX hy aam VY hk).symm⟩ (by show _-(_+1)<_;omega) cF (aq.to [3,4,5,0,1,6,7] 1 zr zr zr)))
 ·intro fO
  simp only at fO
  have hiw:i=wl.length:=by omega
  subst hiw
  have afh:V8=Ab.j6 stay dY cut 0 A.writes A.fs:=by rw[← hL,List.drop_of_length_le aj];rfl
  obtain⟨nm,nr,hbm⟩:=hR.aF.left nN
  have fH:fM (fun b es=>(b,fj es)∈maps) (gO++[b1]) (A.aF++[nm]):=fM.snoc hR.aF hbm
  refine aO (fun w=>Sat G w ([ak bd (cl [.int .i64 room,.map (some b1),.slice (some ⟨bs,os,none⟩) gO.length cs,.slice wa wl.length wc,oP,.bool off] 75)])) (dM 0 8 (.st 11 (.act 8 (.act 9 (.st 10 .nil))))) rfl aw aw aw (fun w hw=>hw.cI (aq.aI ([1]) rfl)) ?_
  refine go ?_
  refine az zr zr zr zr zr zr zr zr zr (fun _ w hw=>hw.cI (aq.aI ([2]) rfl)) ?_
  intro b0
  refine bg (mm:=1) (news:=[.map (some b1)]) 6 0 zr zr zr zr zr zr zr zr zr zr zr zr (Vw.ak rfl) rfl (by simp[Value.oneCell']) aj (by show _*8≤_;omega) (fun _=>rfl) (fun _ w hw=>hw.cI (aq.aI ([2]) rfl)) ?_
  intro v'
  have e1:(gO.map fun b=>Value.map (some b))++[.map (some b1)]=(gO++[b1]).map fun b=>Value.map (some b):=by simp
  have e2:gO.length+1=(gO++[b1]).length:=by simp
  have e3:(gO++[b1]).length≤1000000001:=by rw[← e2];omega
  rw[e1,e2]
  refine aN 6 rfl ?_
  rintro av cv rfl
  refine go ?_
  refine bF (fun s:Nat × List (Nat × Value × Value) × List Nat=>s.1≤(gO++[b1]).length∧kV eC nD s.2.1 (mark s.2.2 V8) (A.fs.map (·.1))∧∀x,x∈s.2.2↔x∈Ab.reach ((A.aF++[nm]).take s.1)) (fun s=>(gO++[b1]).length-s.1)
   (fun s=>[(0,ptr bd),(104,.slice av (gO++[b1]).length cv),(105,.int .i64 (gO++[b1]).length),(106,.int .i64 s.1)])
   (fun s=>aK 71 1 (.slice av (gO++[b1]).length cv) (gO++[b1]).length ((gO++[b1]).map fun b => .map (some b))::ak bd (cl [.int .i64 room,.map (some b1),.slice (some ⟨bs,os,none⟩) gO.length cs,.slice wa wl.length wc,oP,.bool off] 75)::aS lS maps::bp 5 nD::aS fJ s.2.1::X::F)
   (0,Kp,[]) ⟨Nat.zero_le _,by rw[QC];exact hF,by simp[Ab.reach]⟩ rfl cF (aq.to [6,2,3,4,5,7] 2 zr zr zr) ?_
  rintro⟨i,RK,S⟩⟨hi2,V4,hS2⟩ LJ
  simp only at hi2 V4 hS2
  refine go ?_
  refine aB zr zr ?_ ?_
  ·intro dk
   simp only at dk
   have qX:i<(gO++[b1]).length:=by omega
   obtain⟨bi,hbi⟩:∃x,(gO++[b1])[i]?=some x:=⟨(gO++[b1])[i],by rw[List.getElem?_eq_getElem]⟩
   obtain⟨es,tR,hm⟩:=fH.left hbi
   have adB:es∈A.names::A.aF:=by
    grind
   refine go ?_
   refine zR 0 rfl aj ?_
   rintro bn on cn LQ IY
   simp only[Value.slice.injEq,true_and]at LQ
   obtain⟨rfl,rfl⟩:=LQ
   refine bW i zr zr zr zr zr zr zr zr qX ?_
   refine aZ 0 i zr zr zr IY rfl (c := .map (some bi)) (by simp only[List.getElem?_map,hbi,Option.map_some]) zr zr ?_
   refine go ?_
   obtain⟨jm,hjm⟩:=List.getElem?_of_mem hm
   refine aT (aq.pick [2] rfl) ?_
   refine aT (gN lS hjm _) ?_
   refine zS (kv:=Value.string) (es:=fj es) (U:=bh) 0 zr zr zr zr zr (fun _=>rfl) bO ?_
   intro it
   refine go ?_
   have adf:=hR.nodup _ adB
   have Hm:(fj es).map (·.1)=es.map (·.1):=by simp[fj,Function.comp_def]
   refine bF (fun s:List ByteArray × List (Nat × Value × Value) × List Nat=>(s.1.Nodup∧∀x∈s.1,x∈es.map (·.1))∧kV eC nD s.2.1 (mark s.2.2 V8) (A.fs.map (·.1))∧∀x,x∈s.2.2↔x∈S∨∃k∈s.1,(k,x)∈es) (fun s=>es.length-s.1.length)
    (fun s=>[(111,.pointer (some ⟨it,0,none⟩)),(0,ptr bd),(104,.slice (some ⟨bn,on,none⟩) (gO++[b1]).length cv),(105,.int .i64 (gO++[b1]).length),(106,.int .i64 i)])
    (fun s=>bX Value.string bi it (fj es) s.1::aS lS (maps.eraseIdx jm)::aK 71 1 (.slice (some ⟨bn,on,none⟩) (gO++[b1]).length cv) (gO++[b1]).length ((gO++[b1]).map fun b => .map (some b))::ak bd (cl [.int .i64 room,.map (some b1),.slice (some ⟨bs,os,none⟩) gO.length cs,.slice wa wl.length wc,oP,.bool off] 75)::bp 5 nD::aS fJ s.2.1::X::F)
    ([],RK,S) ⟨⟨List.nodup_nil,by simp⟩,V4,by simp⟩ rfl cF (aq.refl _) ?_
   rintro⟨dn,aaM,S3⟩⟨⟨u3,acV⟩,hF3,hS3⟩ ih3
   simp only at u3 acV hF3 hS3
   refine go ?_
   refine FI (kv:=Value.string) (es:=fj es) 0 rfl zo.inj zr zr (fun _=>rfl) eH bO ?_ ?_
   ·intro af0
    refine go ?_
    refine al ((aq.head (B:=[lS (bi,fj es)]) (fun h hs=>by obtain⟨h',s,hm⟩:=sZ h hs;exact⟨h',s,fL hm⟩)).trans (oM lS hjm _)) ?_
    have hS4:∀x,x∈S3↔x∈Ab.reach ((A.aF++[nm]).take (i+1)):=by
     intro x
     rw[hS3 x,hS2 x,List.take_add_one,tR]
     simp only[Ab.reach,Option.toList_some,List.flatMap_append,List.flatMap_cons,List.flatMap_nil,List.append_nil,List.mem_append]
     grind
    refine go ?_
    have ih:=LJ
    refine aQ ih (i+1,aaM,S3) rfl ⟨qX,hF3,hS4⟩ (by show _-(_+1)<_;omega) cF (aq.to [1,2,0,3,4,5] 0 zr zr zr)
   ·intro key v fk tO
    obtain⟨⟨k',f⟩,hx,SS⟩:=List.mem_map.1 fk
    simp only[Prod.mk.injEq]at SS
    obtain⟨rfl,rfl⟩:=SS
    refine go ?_
    refine zW (kv:=Value.string) (es:=fj es) 0 rfl zo.inj zr zr fk (go ?_)
    obtain⟨j,v1,v2,n,s,hj,VY,Ut,Kj,NN,T3,L3⟩:=hF3.get hR.ids (hR.known _ adB _ hx)
    obtain⟨a2,c2,rfl,_⟩:=Kj.shape
    refine aT (aq.pick [5] rfl) ?_
    refine aT (gN fJ hj _) (go ?_)
    refine al (oL fJ (y:=(f,.slice a2 s.length c2,.slice a2 s.length c2)) hj _) ?_
    have hF4:=hF3.put (v1 := .slice a2 s.length c2) (v2 := .slice a2 s.length c2) (n:=s) (s:=s) (fun _ h=>h) VY Kj Kj ⟨T3,T3⟩
    rw[QB (by rw[hF.ids];exact hR.ids) VY]at hF4
    have hmk:k'∈es.map (·.1):=List.mem_map.2 ⟨_,hx,rfl⟩
    have NZ:(k'::dn).Nodup:=List.nodup_cons.2 ⟨tO,u3⟩
    have vt:∀x∈k'::dn,x∈es.map (·.1):=fun x hx=>by
     grind
    have Be:=xP NZ vt
    rw[List.length_map,List.length_cons]at Be
    have hS4:∀x,x∈f::S3↔x∈S∨∃k∈k'::dn,(k,x)∈es:=by
     intro x
     rw[List.mem_cons,hS3 x]
     constructor
     ·grind
     ·rintro(h|⟨k,hk,hkx⟩)
      ·grind
      ·rcases List.mem_cons.1 hk with rfl|hk
       ·left
        have h1:=qn adf hx
        rw[qn adf hkx]at h1
        grind
       grind
    have ih:=ih3
    refine aQ ih (k'::dn,_,f::S3) rfl ⟨⟨NZ,vt⟩,hF4,hS4⟩ (by simp only[List.length_cons];omega) cF (aq.to [1,2,3,4,5,0,6] 0 zr zr zr)
  ·intro afd
   simp only at afd
   have ue:i=(gO++[b1]).length:=by omega
   subst ue
   rw[fH.1,List.take_length]at hS2
   rw[QE V8 hS2,afh]at V4
   refine go ?_
   refine az zr zr zr zr zr zr zr zr zr bO ?_
   intro b2
   refine go ?_
   refine al (fp 71 1 b2 1 1 [.map (some b1)] [] _ rfl (Nat.le_refl _) (by simp)) ?_
   refine al (bS 148 3 none _) ?_
   refine al (aq.pick [3,4,5,6,1,0,7] rfl) ?_
   refine al (eK bd room b1 (.slice (some ⟨b2,0,none⟩) 1 1) (.slice none 0 0) (.slice none 0 0) false maps nD RK [b1] [] _) ?_
   have RF:=hR.crashed (b0:=b2) zr zr (by rw[← hlen];exact hq) nr hbm V4
   refine ag hE Tryz.func20 rfl _ rfl ⟨_,RF,rfl⟩ (aq.fin [0,1] 1 zr zr)
def KP(bd:Nat)(D:Dk)(A:Ab)(hR:Rel D A)(old name:ByteArray)(cN:A.aF.length≤1000000000) :
  aH Tryz.prog 187 [ptr bd,.string old,.string name] [im bd D]
   (fun v H=>∃D',Rel D' (A.rename ([old,name].all isName) old name).2∧H=[im bd D']∧v = .int .i64 (A.rename ([old,name].all isName) old name).1):=by
 refine aH.aC Tryz.func187 Tryz.ntmps187 fun G F R hE=>?_
 refine go ?_
 refine bJ zr zr bO ?_
 intro BJ
 refine bJ zr zr bO ?_
 intro BI
 refine go ?_
 cases FU:(A.find old ([old,name].all isName)).2.1 with
 | none =>
  refine aO (fun w=>Sat G w ([ak BI (cl [.string name] 9),ak BJ (cl [.string old] 9)])) (dM 0 4 (.fork (.act 4 (.fork (.act 5 (.fork (.act 6 (dM 7 3 (.act 10 (.act 11 (.st 12 .nil))))) (.act 10 (.act 6 (dM 7 3 (.act 11 (.st 12 .nil))))))) (.act 10 (.act 5 (.act 6 (dM 7 3 (.act 11 (.st 12 .nil)))))))) (.act 10 (.act 4 (.act 5 (.act 6 (dM 7 3 (.act 11 (.st 12 .nil))))))))) rfl aw aw aw (fun w hw=>hw.cI (aq.aI ([0,1]) rfl)) ?_
  repeat'(first|(with_reducible intro k9)|refine g9 ?_|refine bG ?_ ?_|refine aB zr zr ?_ ?_|(refine az zr zr zr zr zr zr zr zr zr (fun _ w hw=>hw.cI (by first|exact aq.aI [1,2] rfl|exact aq.aI [2,3] rfl)) ?_;intro _)|(refine aL zr zr zr (fun _ w hw=>hw.cI (by first|exact aq.aI [1,2] rfl|exact aq.aI [2,3] rfl|exact aq.aI [3,4] rfl)) ?_;intro _)|(refine bM [0] rfl rfl rfl rfl (j0 _ _ [old,name] (Vw.ak rfl) (by simp)) rfl (fun _ _ w hp hw=>by obtain⟨_,rfl⟩:=hp;exact(fun _ w hw=>hw.cI (by first|exact aq.aI [1,2] rfl|exact aq.aI [2,3] rfl)) 0 w hw) ?_;rintro _ _⟨rfl,rfl⟩)|(refine bM [1] rfl rfl rfl rfl (j0 _ _ [old,name] (Vw.ak rfl) (by simp)) rfl (fun _ _ w hp hw=>by obtain⟨_,rfl⟩:=hp;exact(fun _ w hw=>hw.cI (by(exact aq.aI [2,3] rfl))) 0 w hw) ?_;rintro _ _⟨rfl,rfl⟩)|(refine bM [3] rfl rfl rfl rfl (kM bd D A hR old ([old,name].all isName)) rfl (fun _ _ w hp hw=>by obtain⟨_,_,rfl,_⟩:=hp;exact(fun _ w hw=>hw.cI (by(exact aq.aI [2,3] rfl))) 0 w hw) ?_;rintro _ _⟨D',gE,rfl,rfl⟩;rw[FU])|(refine bM [4] rfl rfl rfl rfl (kM bd D A hR old ([old,name].all isName)) rfl (fun _ _ w hp hw=>by obtain⟨_,_,rfl,_⟩:=hp;exact(fun _ w hw=>hw.cI (by(exact aq.aI [3,4] rfl))) 0 w hw) ?_;rintro _ _⟨D',gE,rfl,rfl⟩;rw[FU])|(refine bE ?_;first|refine aD 0 (fun w hw=>(fun _ w hw=>hw.cI (by(exact aq.aI [3,4] rfl))) 0 w hw) zr zr zr zr zr zr zr zr zr ?_|refine aD 1 (fun w hw=>(fun _ w hw=>hw.cI (by(exact aq.aI [3,4] rfl))) 0 w hw) zr zr zr zr zr zr zr zr zr ?_|refine aD 2 (fun w hw=>(fun _ w hw=>hw.cI (by(exact aq.aI [3,4] rfl))) 0 w hw) zr zr zr zr zr zr zr zr zr ?_))
  all_goals(
   have rp:¬(A.find old ([old,name].all isName)).1=0:=fun h=>by obtain⟨_,fl,h1,_⟩:=nv h;rw[FU]at h1;cases h1
   have hw:A.rename ([old,name].all isName) old name=((A.find old ([old,name].all isName)).1,(A.find old ([old,name].all isName)).2.2):=by
    unfold Ab.rename
    generalize A.find old ([old,name].all isName)=z at rp FU ⊢
    obtain⟨e,fo,A1⟩:=z
    simp only at FU
    subst FU
    cases e <;> rfl
   rw[hw]at hE
   first|(exfalso;omega)|refine aG hE Tryz.func187 rfl _ rfl ⟨D',gE,rfl,rfl⟩ (aq.fin [0] 4 zr zr)|refine aG hE Tryz.func187 rfl _ rfl ⟨D',gE,rfl,rfl⟩ (aq.fin [1] 4 zr zr))
 | some fl =>
  refine aO (fun w=>Sat G w ([ak BI (cl [.string name] 9),ak BJ (cl [.string old] 9)])) (dM 0 4 (.fork (.act 4 (.fork (.act 5 (.fork (.act 6 (dM 7 3 (.act 10 (.act 11 (.st 12 .nil))))) (.act 10 (.act 6 (dM 7 3 (.act 11 (.st 12 .nil))))))) (.act 10 (.act 5 (.act 6 (dM 7 3 (.act 11 (.st 12 .nil)))))))) (.act 10 (.act 4 (.act 5 (.act 6 (dM 7 3 (.act 11 (.st 12 .nil))))))))) rfl aw aw aw (fun w hw=>hw.cI (aq.aI ([0,1]) rfl)) ?_
  repeat'(first|(with_reducible intro k9)|refine g9 ?_|refine bG ?_ ?_|refine aB zr zr ?_ ?_|(refine az zr zr zr zr zr zr zr zr zr (fun _ w hw=>hw.cI (by first|exact aq.aI [1,2] rfl|exact aq.aI [2,3] rfl)) ?_;intro _)|(refine aL zr zr zr (fun _ w hw=>hw.cI (by first|exact aq.aI [1,2] rfl|exact aq.aI [2,3] rfl|exact aq.aI [3,4] rfl)) ?_;intro _)|(refine bM [0] rfl rfl rfl rfl (j0 _ _ [old,name] (Vw.ak rfl) (by simp)) rfl (fun _ _ w hp hw=>by obtain⟨_,rfl⟩:=hp;exact(fun _ w hw=>hw.cI (by first|exact aq.aI [1,2] rfl|exact aq.aI [2,3] rfl)) 0 w hw) ?_;rintro _ _⟨rfl,rfl⟩)|(refine bM [1] rfl rfl rfl rfl (j0 _ _ [old,name] (Vw.ak rfl) (by simp)) rfl (fun _ _ w hp hw=>by obtain⟨_,rfl⟩:=hp;exact(fun _ w hw=>hw.cI (by(exact aq.aI [2,3] rfl))) 0 w hw) ?_;rintro _ _⟨rfl,rfl⟩)|(refine bM [3] rfl rfl rfl rfl (kM bd D A hR old ([old,name].all isName)) rfl (fun _ _ w hp hw=>by obtain⟨_,_,rfl,_⟩:=hp;exact(fun _ w hw=>hw.cI (by(exact aq.aI [2,3] rfl))) 0 w hw) ?_;rintro _ _⟨D',gE,rfl,rfl⟩;rw[FU])|(refine bM [4] rfl rfl rfl rfl (kM bd D A hR old ([old,name].all isName)) rfl (fun _ _ w hp hw=>by obtain⟨_,_,rfl,_⟩:=hp;exact(fun _ w hw=>hw.cI (by(exact aq.aI [3,4] rfl))) 0 w hw) ?_;rintro _ _⟨D',gE,rfl,rfl⟩;rw[FU])|(refine bE ?_;first|refine aD 0 (fun w hw=>(fun _ w hw=>hw.cI (by(exact aq.aI [3,4] rfl))) 0 w hw) zr zr zr zr zr zr zr zr zr ?_|refine aD 1 (fun w hw=>(fun _ w hw=>hw.cI (by(exact aq.aI [3,4] rfl))) 0 w hw) zr zr zr zr zr zr zr zr zr ?_|refine aD 2 (fun w hw=>(fun _ w hw=>hw.cI (by(exact aq.aI [3,4] rfl))) 0 w hw) zr zr zr zr zr zr zr zr zr ?_))
  all_goals(
   have rp:(A.find old ([old,name].all isName)).1=0:=by
    rcases Nat.eq_zero_or_pos (A.find old ([old,name].all isName)).1 with h|h
    ·exact h
    ·exfalso
     unfold Ab.find at FU h
     split at FU
     ·rename_i h1
      rw[if_pos h1]at h
      cases hl:(A.meet ([old,name].all isName)).2.look old with
      | none=>rw[hl]at FU;cases FU
      | some f=>rw[hl]at h;simp at h
     ·cases FU)
  any_goals (exfalso;omega)
  all_goals(
   obtain⟨_,fl',ady,fk⟩:=nv rp
   rw[FU]at ady
   cases ady
   have hw:A.rename ([old,name].all isName) old name=(0,(A.find old ([old,name].all isName)).2.2.oF (Ab.lh (Ab.dW (A.find old ([old,name].all isName)).2.2.names old) name fl)):=by
    unfold Ab.rename
    generalize A.find old ([old,name].all isName)=z at rp FU ⊢
    obtain⟨e,fo,A1⟩:=z
    simp only at rp FU
    subst rp FU
    rfl
   rw[hw]at hE
   have Q0:(A.find old ([old,name].all isName)).2.2.aF.length≤1000000000:=by rw[(pt A old _).2.2.1];exact cN
   generalize (A.find old ([old,name].all isName)).2.2=A1 at *
   have QZ:D'.gO.length≤1000000000:=by rw[gE.aF.1];exact Q0
   have hN:=gE.gk _ (List.mem_cons_self ..)
   have dk:=UN fk
   have FR:=PL (Ab.dW A1.names old) name fl
   have aaE:∀b' v,Rel { D' with bm:=b',maps:=(b',fj (Ab.lh (Ab.dW A1.names old) name fl))::D'.maps,lO:=v,gO:=D'.gO++[b'] } (A1.oF (Ab.lh (Ab.dW A1.names old) name fl)):=fun b' v=>gE.oF
    (fun x hx=>by
     rcases PK hx with rfl|hx
     ·have:=gE.known _ (List.mem_cons_self ..) _ fk;exact this
     ·exact gE.known _ (List.mem_cons_self ..) _ (HS hx).1)
    (Jp (Bx (gE.nodup _ (List.mem_cons_self ..)) old) name fl) aj
   first|(refine aT (aq.pick ([4,0,3,1]) rfl) ?_;refine aT (aq.cg [_,_,_] _) ?_;refine bM [1,0] zr zr zr zr (nA (α:=Unit) bd D' A1.names gE.names 235 #[ptr BJ,ptr _,ptr BI] _ (fun _=>Ab.lh (Ab.dW A1.names old) name fl) (fun _=>emp) (fun _=>True) (fun b'=>aH.post (su b' BJ _ BI fl A1.names old name) (fun v H h=>⟨(),trivial,h⟩)) QZ) rfl bI ?_;rintro _ _⟨_,b',v,_,rfl⟩;refine go ?_;refine aG hE Tryz.func187 rfl _ rfl ⟨_,aaE b' v,rfl,rfl⟩ (aq.fin [0] 2 zr zr))|(refine aT (aq.pick ([4,1,3,0]) rfl) ?_;refine aT (aq.cg [_,_,_] _) ?_;refine bM [1,0] zr zr zr zr (nA (α:=Unit) bd D' A1.names gE.names 235 #[ptr BJ,ptr _,ptr BI] _ (fun _=>Ab.lh (Ab.dW A1.names old) name fl) (fun _=>emp) (fun _=>True) (fun b'=>aH.post (su b' BJ _ BI fl A1.names old name) (fun v H h=>⟨(),trivial,h⟩)) QZ) rfl bI ?_;rintro _ _⟨_,b',v,_,rfl⟩;refine go ?_;refine aG hE Tryz.func187 rfl _ rfl ⟨_,aaE b' v,rfl,rfl⟩ (aq.fin [0] 2 zr zr))|(refine aT (aq.pick ([4,2,3,0]) rfl) ?_;refine aT (aq.cg [_,_,_] _) ?_;refine bM [1,0] zr zr zr zr (nA (α:=Unit) bd D' A1.names gE.names 235 #[ptr BJ,ptr _,ptr BI] _ (fun _=>Ab.lh (Ab.dW A1.names old) name fl) (fun _=>emp) (fun _=>True) (fun b'=>aH.post (su b' BJ _ BI fl A1.names old name) (fun v H h=>⟨(),trivial,h⟩)) QZ) rfl bI ?_;rintro _ _⟨_,b',v,_,rfl⟩;refine go ?_;refine aG hE Tryz.func187 rfl _ rfl ⟨_,aaE b' v,rfl,rfl⟩ (aq.fin [0] 2 zr zr)))
end Go.Proofs.YtlionahpheehaaaGreatDoor
namespace Go.Proofs.YtlionahpheehaaaGreatDoor
open Go Go.SL
def jG{σ:Type}:List (σ→Nat→σ→Prop)→σ→Nat→σ→Prop
 | [],x,e,y=>e=0∧y=x
 | s::ss,x,e,y=>∃e1 x1,s x e1 x1∧((e1≠0∧e=e1∧y=x1)∨(e1=0∧jG ss x1 e y))
attribute [local irreducible] J K aH Ends ak aK aV bX bj aS bp
def aJ(bd:Nat)(A:Ab):HP:=fun h=>∃D,Rel D A∧im bd D h
def il{bd:Nat}{D:Dk}{A:Ab}(h:Rel D A)(H:List HP):aq (im bd D::H) (aJ bd A::H):=aq.fold (B:=[_]) fun h' hs=>⟨h',sub.refl h',D,h,eO hs⟩
def MP{G:cL}{w:World}{bd:Nat}{A:Ab}{H:List HP}(hs:Sat G w (aJ bd A::H)):∃D,Rel D A∧Sat G w (im bd D::H):=by
 obtain⟨t,o,u,hp,O3,h1,h2,⟨D,hR,hA⟩,hH,hd,he⟩:=hs
 exact⟨D,hR,t,o,u,hp,O3,h1,h2,hA,hH,hd,he⟩
end Go.Proofs.YtlionahpheehaaaGreatDoor
namespace Go.Proofs.YtlionahpheehaaaGreatDoor
open Go Go.SL
def iM{P:Program}{f:FuncId}{args:List Value}{bd:Nat}{A:Ab}{Pre:List HP}{Post ze:Value→List HP→Prop}(hc:P.funcs[f]?.map nB=some true)(h:∀D,Rel D A→aH P f args (im bd D::Pre) Post)(hp:∀v H,Post v H→∃H',ze v H'∧aq H H'):aH P f args (aJ bd A::Pre) ze :=
  ⟨hc,fun G w F hw=>by
    obtain⟨D,hR,Ds⟩:=MP hw
    exact((h D hR).2 G w F Ds).mono fun e w' h'=>let ⟨v,H,he,T8,hs⟩:=h';let ⟨H',hq,hE⟩:=hp v H T8;⟨v,H',he,hq,hs.cI (aq.append F hE)⟩⟩
attribute [local irreducible] J K aH Ends ak aK aV bX bj aS bp
def KT(bd:Nat)(A:Ab):aH Tryz.prog 28 [ptr bd] [aJ bd A] (fun v H=>v = .bool A.off∧H=[aJ bd A]):=by
 refine iM aw (Post:=fun v H=>v = .bool A.off∧H=[aJ bd A]) (fun D hR=>?_) (fun v H h=>⟨H,h,aq.refl _⟩)
 obtain⟨room,bm,lO,pT,oP,off,maps,eC,files,gO,wl⟩:=D
 have mh:=hR.off
 simp only at mh
 subst mh
 refine aH.aC Tryz.func28 Tryz.ntmps28 fun G F R hE=>?_
 refine al (ju _ _ _ _ _ _ _ _ _ _ _ _ _) (go ?_)
 refine al ((aq.pick [0,1,2,3,4,5] rfl).trans (eK _ _ _ _ _ _ _ _ _ _ _ _ _)) ?_
 refine al (il hR _) ?_
 refine ah hE Tryz.func28 zr zr ⟨rfl,rfl⟩
def FB(room:Nat)(h1:1≤room)(h2:room≤1073741824):aH Tryz.prog 4 [.int .i64 room] [] (fun v H=>∃bd,v = .tuple #[ptr bd,.int .i64 0]∧H=[aJ bd (Ab.new room)]) :=
 (Sh room h1 h2).conv (aq.refl _) (by rintro v H⟨bd,D,hR,rfl,rfl⟩;exact⟨_,⟨bd,rfl,rfl⟩,il hR _⟩)
def lI(bd:Nat)(A:Ab)(name:ByteArray):aH Tryz.prog 107 [ptr bd,.string name] [aJ bd A] (fun v H=>H=[aJ bd A]∧v = .tuple #[.int .i64 (A.size name).1,.int .i64 (A.size name).2]) :=
 iM aw (Post:=fun v H=>∃D,Rel D A∧H=[im bd D]∧v = .tuple #[.int .i64 (A.size name).1,.int .i64 (A.size name).2]) (fun D hR=>(Sa bd D A hR name).conv (aq.refl _) (by rintro v H⟨rfl,rfl⟩;exact⟨_,⟨D,hR,rfl,rfl⟩,aq.refl _⟩)) (by rintro v H⟨D,hR,rfl,rfl⟩;exact⟨_,⟨rfl,rfl⟩,il hR _⟩)
def wS(bd:Nat)(A:Ab)(name:ByteArray)(at_ n:Int):aH Tryz.prog 86 [ptr bd,.string name,.int .i64 at_,.int .i64 n] [aJ bd A]
  (fun v H=>∃r,H=[aJ bd A,aK 5 1 r (A.read name at_ n).1.length (bV (A.read name at_ n).1)]∧v = .tuple #[r,.int .i64 (A.read name at_ n).2]) :=
 iM aw (Post:=fun v H=>∃D r,Rel D A∧H=[aK 5 1 r (A.read name at_ n).1.length (bV (A.read name at_ n).1),im bd D]∧v = .tuple #[r,.int .i64 (A.read name at_ n).2])
  (fun D hR=>(Sb bd D A hR name at_ n).conv (aq.refl _) (by rintro v H⟨r,rfl,rfl⟩;exact⟨_,⟨D,r,hR,rfl,rfl⟩,aq.refl _⟩)) (by rintro v H⟨D,r,hR,rfl,rfl⟩;exact⟨_,⟨r,rfl,rfl⟩,(aq.pick [1,0] rfl).trans (il hR _)⟩)
def mW(bd:Nat)(A:Ab)(name:ByteArray)(cN:A.aF.length≤1000000000):aH Tryz.prog 120 [ptr bd,.string name] [aJ bd A]
  (fun v H=>∃f,f ∉ A.fs.map (·.1)∧H=[aJ bd (A.create (isName name) name f).2]∧v = .int .i64 (A.create (isName name) name f).1) :=
 iM aw (fun D hR=>K5 bd D A hR name cN) (by rintro v H⟨f,D',hf,hR,rfl,rfl⟩;exact⟨_,⟨f,hf,rfl,rfl⟩,il hR _⟩)
def pE(bd:Nat)(A:Ab)(name:ByteArray)(cN:A.aF.length≤1000000000):aH Tryz.prog 99 [ptr bd,.string name] [aJ bd A]
  (fun v H=>H=[aJ bd (A.remove (isName name) name).2]∧v = .int .i64 (A.remove (isName name) name).1) :=
 iM aw (fun D hR=>KQ bd D A hR name cN) (by rintro v H⟨D',hR,rfl,rfl⟩;exact⟨_,⟨rfl,rfl⟩,il hR _⟩)
def sn(bd:Nat)(A:Ab)(name:ByteArray)(at_:Int)(X:HP)(bv:Value)(b:List UInt8)(hv:Vw X bv b.length (bV b))(fD:A.writes.length≤1000000000)(jx:b.length≤1000000000)(S8 : -9223372036854775808≤at_∧at_≤9223372036854775807) :
  aH Tryz.prog 152 [ptr bd,.string name,.int .i64 at_,bv] [aJ bd A,X]
   (fun v H=>H=[aJ bd (A.write (gG name at_ b) name at_.toNat b).2,X]∧v = .int .i64 (A.write (gG name at_ b) name at_.toNat b).1) :=
 iM aw (fun D hR=>Ov bd D A hR name at_ X bv b hv fD jx S8) (by rintro v H⟨D',hR,rfl,rfl⟩;exact⟨_,⟨rfl,rfl⟩,il hR _⟩)
def lH(bd:Nat)(A:Ab)(name:ByteArray)(fD:A.writes.length≤1000000000):aH Tryz.prog 154 [ptr bd,.string name] [aJ bd A]
  (fun v H=>H=[aJ bd (A.sync (isName name) name).2]∧v = .int .i64 (A.sync (isName name) name).1) :=
 iM aw (fun D hR=>R' bd D A hR name fD) (by rintro v H⟨D',hR,rfl,rfl⟩;exact⟨_,⟨rfl,rfl⟩,il hR _⟩)
def qD(bd:Nat)(A:Ab):aH Tryz.prog 38 [ptr bd] [aJ bd A]
  (fun v H=>H=[aJ bd A.cG.2]∧v = .int .i64 A.cG.1) :=
 iM aw (fun D hR=>CA bd D A hR) (by rintro v H⟨D',hR,rfl,rfl⟩;exact⟨_,⟨rfl,rfl⟩,il hR _⟩)
def tE(bd:Nat)(A:Ab)(old name:ByteArray)(cN:A.aF.length≤1000000000):aH Tryz.prog 187 [ptr bd,.string old,.string name] [aJ bd A]
  (fun v H=>H=[aJ bd (A.rename ([old,name].all isName) old name).2]∧v = .int .i64 (A.rename ([old,name].all isName) old name).1) :=
 iM aw (fun D hR=>KP bd D A hR old name cN) (by rintro v H⟨D',hR,rfl,rfl⟩;exact⟨_,⟨rfl,rfl⟩,il hR _⟩)
def IK(bd:Nat)(A:Ab)(last dY cut:Int)(X:HP)(bv:Value)(stay:List UInt8)(hv:Vw X bv stay.length (bV stay))(ez:stay.length≤9223372036854775807)(cN:A.aF.length≤1000000000)(fD:A.writes.length≤1000000000)(h1 : -9223372036854775808≤last∧last≤9223372036854775807)(h2 : -9223372036854775808≤dY∧dY≤9223372036854775807)(h3 : -9223372036854775808≤cut∧cut≤9223372036854775807) :
  aH Tryz.prog 20 [ptr bd,.int .i64 last,bv,.int .i64 dY,.int .i64 cut] [aJ bd A,X] (fun v H=>H=[aJ bd (A.dx last stay dY cut),X]) :=
 iM aw (fun D hR=>OP bd D A hR last dY cut X bv stay hv ez cN fD h1 h2 h3) (by rintro v H⟨D',hR,rfl⟩;exact⟨_,rfl,il hR _⟩)
end Go.Proofs.YtlionahpheehaaaGreatDoor
namespace Go.Proofs.YtlionahpheehaaaGreatDoor
open Go Go.SL
def kU(A B:Ab):Prop:=B.aF.length≤A.aF.length+1∧B.writes.length≤A.writes.length+1
theorem tt(A:Ab)(n:ByteArray)(ok:Bool):(A.find n ok).2.2.aF.length=A.aF.length∧(A.find n ok).2.2.writes.length=A.writes.length:=by
 grind [pt]
theorem DK(A:Ab)(ok:Bool):(A.meet ok).2.aF.length=A.aF.length∧(A.meet ok).2.writes.length=A.writes.length:=by
 unfold Ab.meet
 grind
def se(A:Ab)(ok:Bool)(n:ByteArray):kU A (A.remove ok n).2:=by
 have h:=tt A n ok
 unfold Ab.remove
 split
 ·rename_i f A1 he
  rw[he]at h
  simp only at h
  constructor <;> simp[Ab.oF] <;> omega
 ·rename_i e o A1 _ he
  rw[he]at h
  simp only at h
  constructor <;> simp only <;> omega
def sd(A:Ab)(ok:Bool)(o n:ByteArray):kU A (A.rename ok o n).2:=by
 have h:=tt A o ok
 unfold Ab.rename
 split
 ·rename_i f A1 he
  rw[he]at h
  simp only at h
  constructor <;> simp[Ab.oF] <;> omega
 ·rename_i e o A1 _ he
  rw[he]at h
  simp only at h
  constructor <;> simp only <;> omega
theorem sf(A:Ab)(ok:Bool)(n:ByteArray)(f:Nat):kU A (A.create ok n f).2:=by
 have h:=DK A ok
 unfold Ab.create
 split
 ·split
  ·constructor <;> simp only <;> omega
  split
  ·constructor <;> simp only <;> omega
  ·constructor <;> simp[Ab.oF] <;> omega
 ·constructor <;> simp only <;> omega
def lr(A:Ab)(ok:Bool)(n:ByteArray)(at_:Nat)(b:List UInt8):kU A (A.write ok n at_ b).2:=by
 have h:=tt A n ok
 unfold Ab.write
 split
 ·split
  ·split
   ·constructor <;> simp only <;> omega
   ·constructor <;> simp <;> omega
  ·constructor <;> simp only <;> omega
 ·constructor <;> simp only <;> omega
theorem lu(A:Ab)(ok:Bool)(n:ByteArray):kU A (A.sync ok n).2:=by
 have h:=tt A n ok
 unfold Ab.sync
 split
 ·split
  ·constructor
   ·grind
   grind
  ·constructor <;> simp only <;> omega
 ·constructor <;> simp only <;> omega
def kK(A:Ab):kU A A.cG.2:=by
 have h:=DK A true
 unfold Ab.cG
 split
 ·constructor <;> simp only[List.length_singleton] <;> omega
 ·constructor <;> simp only <;> omega
instance aem(n:ByteArray)(K:List ByteArray):Decidable (n∈K):=decidable_of_iff (K.any (fun x=>decide (x=n))=true) (by rw[List.any_eq_true];exact⟨fun⟨x,hx,h⟩=>of_decide_eq_true h ▸ hx,fun h=>⟨n,h,decide_eq_true rfl⟩⟩)
def fb(A:Ab):List ByteArray:=A.names.map (·.1)
def JS{α:Type}{a b:List α}(ha:a.Nodup)(hb:b.Nodup)(h:∀n,n∈a↔n∈b):a.length=b.length :=
 ((List.perm_ext_iff_of_nodup ha hb).2 h).length_eq
def rE(l:List ByteArray):List (List UInt8):=(l.map fun b=>b.data.toList).mergeSort fun x y=>decide (x≤y)
def vI(l:List ByteArray):(rE l).Pairwise (·≤·) :=
 (List.pairwise_mergeSort (le:=fun x y:List UInt8=>decide (x≤y)) (fun a b c h1 h2=>decide_eq_true (List.le_trans (of_decide_eq_true h1) (of_decide_eq_true h2))) (fun a b=>by simpa using List.le_total a b) _).imp fun h=>of_decide_eq_true h
def nQ(l:List ByteArray):(rE l).Perm (l.map fun b=>b.data.toList):=List.mergeSort_perm _ _
def Jo{a b:List ByteArray}(h:a.Perm b):rE a=rE b :=
 List.Perm.eq_of_pairwise (fun x y _ _ h1 h2=>List.le_antisymm h1 h2) (vI a) (vI b) ((nQ a).trans ((h.map _).trans (nQ b).symm))
def xA(l:List ByteArray):(rE l).length=l.length:=by rw[(nQ l).length_eq,List.length_map]
def kS:List UInt8:=[115,45]
def kB:List UInt8:=[98,45]
def kN:List UInt8:=[110,45]
def kI:List UInt8:=[105,45]
def sc(A:Ab)(nm:ByteArray):Bool:=(A.look nm).isSome
def fV(A:Ab)(nm:ByteArray):Option (List UInt8):=match A.look nm with
 | none=>none
 | some f=>if A.off then none else some (A.now f)
def oh(A:Ab)(d:Dg):Option (List Bl):=(fV A (cX kI d)).bind By
def iD(A:Ab)(d:Dg):Bool:=match fV A (cX kB d)with
 | none=>false
 | some b=>decide (fz b=d)
def gg(A:Ab)(d:Dg):Bool:=match oh A d with
 | none=>false
 | some x=>decide (AN x=d) && x.all fun y=>iD A y.d
def vy(A:Ab):Nat:=(A.names.map fun x=>if(kf kB x.1).isSome then(A.now x.2).length else 0).sum
def gA(A:Ab):List ByteArray:=(rE (fb A)).map strOf
abbrev D3:=Ab→Nat→Ab→Prop
def iG(nm:ByteArray):D3:=fun A e B=>∃f,f ∉ A.fs.map (·.1)∧(e,B)=A.create (isName nm) nm f
def jz(nm:ByteArray):D3:=fun A e B=>(e,B)=A.remove (isName nm) nm
def gq(nm:ByteArray)(at_:Nat)(b:List UInt8):D3:=fun A e B=>(e,B)=A.write (gG nm at_ b) nm at_ b
def gj(nm:ByteArray):D3:=fun A e B=>(e,B)=A.sync (isName nm) nm
def lP(o n:ByteArray):D3:=fun A e B=>(e,B)=A.rename ([o,n].all isName) o n
def eb:D3:=fun A e B=>(e,B)=A.cG
def mB(kind:List UInt8)(right:Ab→Dg→Bool):List ByteArray→D3
 | [],A,e,B=>e=0∧B=A
 | nm::l,A,e,B=>match kf kind nm with
  | none=>mB kind right l A e B
  | some d=>if right A d then mB kind right l A e B else ∃e1 A1,jz nm A e1 A1∧((e1≠0∧e=e1∧B=A1)∨(e1=0∧mB kind right l A1 e B))
def eV(kind:List UInt8)(right:Ab→Dg→Bool):D3:=fun A=>mB kind right (gA A) A
def sw:D3:=fun A e B=>∃e1 A1,jG [eV kB iD,eV kN (fun _ _=>false),eV kI gg] A e1 A1 ∧
 if e1=0∧A1.names.length<A.names.length then eb A1 e B else e=e1∧B=A1
structure fW where
 A:Ab
 bu:List (Dg × Bl)
 brk:Bool
def iN(l:List (Dg × Bl))(d:Dg):Option Bl:=(l.find? fun x=>decide (x.1=d)).map (·.2)
def yL(s:fW)(x:Bl):Bool:=decide (iN s.bu x.d=some x)
def lM(s:fW):Int:=vy s.A+(s.bu.map (·.2.size)).sum
def Fk(ss:List D3)(s:fW)(e:Nat)(t:fW):Prop:=∃B,jG ss s.A e B∧t=⟨B,s.bu,s.brk || decide (e≠0)⟩
def jD(s:fW)(x:Bl):Nat:=if s.brk then 10 else if yL s x then 0 else 4
def fS(x:Bl):ByteArray:=cX kS x.d
def fB(x:Bl):ByteArray:=cX kB x.d
def GW(o n:ByteArray):List D3:=[gj o,lP o n,eb]
def eh(q:Int)(x:Bl)(s:fW)(e:Nat)(t:fW):Prop :=
 if s.brk then e=10∧t=s else if bP x=false then e=1∧t=s else if(iN s.bu x.d).isSome∨sc s.A (fB x)then e=5∧t=s
 else if q<lM s+x.size then e=11∧t=s
 else if sc s.A (fS x)then e=0∧t=⟨s.A,s.bu++[(x.d,x)],s.brk⟩
 else ∃e1 s1,Fk [iG (fS x),eb] s e1 s1∧((e1≠0∧e=e1∧t=s1)∨(e1=0∧e=0∧t=⟨s1.A,s1.bu++[(x.d,x)],s1.brk⟩))
def nE(x:Bl)(i:Int)(b:List UInt8)(s:fW)(e:Nat)(t:fW):Prop :=
 if jD s x≠0 then e=jD s x∧t=s else match dX x i with
  | none=>e=1∧t=s
  | some (at_,n)=>if(b.length:Int)≠n then e=1∧t=s else Fk [gq (fS x) at_.toNat b] s e t
def kQ(x:Bl)(s:fW)(e:Nat)(t:fW):Prop:=if jD s x≠0 then e=jD s x∧t=s else Fk [gj (fS x)] s e t
def nO(l:List (Dg × Bl))(d:Dg):List (Dg × Bl):=l.filter fun x => !decide (x.1=d)
def iS(x:Bl)(s:fW)(e:Nat)(t:fW):Prop :=
 if jD s x≠0 then e=jD s x∧t=s else ∃s1,Fk [jz (fS x)] s e s1∧t=if e≠0 then s1 else⟨s1.A,nO s1.bu x.d,s1.brk⟩
def dS(x:Bl)(s:fW)(e:Nat)(t:fW):Prop :=
 if jD s x≠0 then e=jD s x∧t=s
 else if eo x ((fV s.A (fS x)).getD [])=false then ∃e1,iS x s e1 t∧e=if e1≠0 then e1 else 8
 else ∃s1,Fk (GW (fS x) (fB x)) s e s1∧t=if e≠0 then s1 else⟨s1.A,nO s1.bu x.d,s1.brk⟩
end Go.Proofs.YtlionahpheehaaaGreatDoor
namespace Go.SL
open Go
def tD(l:List l5):jV (wV l)=true:=by
 induction l with
 | nil=>rfl
 | cons x l ih =>
  show(Value.oneCell' (u32 x) && jV (wV l))=true
  rw[ih];rfl
section
variable{P:Program}{U:Tr}[hU:gF P U]{f:FuncId}{n:Nat}{R:Ending→World→Prop}{G:cL}{k:List Item}{L:gh}{H H':List HP}{S:World→Prop}{all:Array Oper}{rest:Pl}{ty:TypeId}{pos:String}{af:Array Edge}{gd:Option (Nat × Bool)}{m:Bool}{d:Tmp}
def aa8{t:TypeId}{x:Operand}{j:IntKind}{p:Int}(hd:Nat.blt d n=true)(hx:ev L x=some (.int j p))(hr:js j (-p))(h:J P f n R G S all rest k ((d,.int j (-p))::L) H):J P f n R G S all (.cons m true ⟨some d,.unOp .neg t x,ty,pos,af,gd⟩ rest) k L H :=
 dK hd (fun a ha w=>by
  have e:j.wrap (0-p) = -p:=by rw[Int.zero_sub];exact dr hr
  simp only[execOp,ha.ev hx,Sem.run_bind,Result.andThen_ok,Op.unary,Op.intArith]
  simp
  simpa using e) h
def aW{t:TypeId}{x:Operand}{b:Nat}{cd:Ty}{l:List Value}{e:TypeId}(i:Nat)(hd:Nat.blt d n=true)(hx:ev L x=some (.pointer (some ⟨b,0,none⟩)))(hi:cD H i=some (ak b (cl l e)))(ht:U.get t=some cd)(hg:cd.isAgg=true)(hl:l.length=cd.info.size)(h:J P f n R G S all rest k ((d,.agg l.toArray)::L) H):J P f n R G S all (.cons false true ⟨some d,.load t x,ty,pos,af,gd⟩ rest) k L H :=
 BZ (U:=U) hd hx ht hg (by rw[hl];exact Nat.beq_refl _) (fun w hw j v hj=>by rw[dD (hw.q9 hi),Nat.zero_add];exact hj) h
def dv{Hs:List HP}{t:TypeId}{x:Operand}{b:Nat}{cd:Ty}{l:List Value}{e:TypeId}(i:Nat)(hd:Nat.blt d n=true)(hx:ev L x=some (.pointer (some ⟨b,0,none⟩)))(hi:cD Hs i=some (ak b (cl l e)))(ht:U.get t=some cd)(hg:cd.isAgg=true)(hl:l.length=cd.info.size)(h:J P f n R G (fun w=>Sat G w Hs) all rest k ((d,.agg l.toArray)::L) H):J P f n R G (fun w=>Sat G w Hs) all (.cons true true ⟨some d,.load t x,ty,pos,af,gd⟩ rest) k L H :=
 mK hd (fun a w ha hw=>by
  have hw:Sat G w Hs:=hw
  simp[execOp,ha.ev hx,gZ (P:=P) ht hg hl (fun j v hj=>by rw[dD (hw.q9 hi),Nat.zero_add];exact hj)]) h
def gp{t:TypeId}{x y:Operand}{b:Nat}{cd:Ty}{l l':List Value}{e:TypeId}(i:Nat)(hS:∀w,Sat G w H'→Sx rest S w)(hx:ev L x=some (.pointer (some ⟨b,0,none⟩)))(hy:ev L y=some (.agg l'.toArray))(ht:U.get t=some cd)(kr:l'.length=cd.info.size)(dw:l'≠[])(gD:jV l'=true)(hi:cD H i=some (ak b (cl l e)))(hll:l.length=l'.length)(hp:mE i (ak b (cl l' e)) H [] = .mk H')(h:J P f n R G S all rest k L H'):J P f n R G S all (.cons false true ⟨none,.store t x y,ty,pos,af,gd⟩ rest) k L H:=by
 have hc:bC (.agg l'.toArray)=l':=by simp[bC]
 refine lA (U:=U) (l':=l') i hS hx hy ht (by rw[hc,kr];exact Nat.beq_refl _) (by rw[hc];cases l' with|nil=>exact absurd rfl dw|cons _ _=>rfl) (by rw[hc];exact gD) hi (by rw[hc];omega) (by rw[hc];simp[hll]) hp h
def n9{t:TypeId}{x y:Operand}{b off:Nat}{cd:Ty}{l:List Value}{u:Value}{e:TypeId}(i:Nat)(hS:∀w,Sat G w H'→Sx rest S w)(hx:ev L x=some (.pointer (some ⟨b,off,none⟩)))(hy:ev L y=some u)(ht:U.get t=some cd)(kr:Nat.beq cd.info.size 1=true)(hc:bC u=[u])(gD:jV [u]=true)(hi:cD H i=some (ak b (cl l e)))(hq:off<l.length)(hp:mE i (ak b (cl (l.set off u) e)) H [] = .mk H')(h:J P f n R G S all rest k L H'):J P f n R G S all (.cons false true ⟨none,.store t x y,ty,pos,af,gd⟩ rest) k L H:=by
 refine lA (U:=U) (l':=l.set off u) i hS hx hy ht (by rw[hc,Nat.eq_of_beq_eq_true kr];rfl) (by rw[hc];rfl) (by rw[hc];exact gD) hi (by rw[hc];simp;omega) ?_ hp h
 rw[hc,List.set_eq_take_append_cons_drop,if_pos hq]
 simp
def kT{t elem:TypeId}{cd te:Ty}{x y:Operand}{j:IntKind}{b o len:Nat}{p:Int}(q:Nat)(hd:Nat.blt d n=true)(ht:U.get t=some cd)(hu:cd.gx = .array len elem)(he:U.get elem=some te)(hs:Nat.beq te.info.size 1=true)(hx:ev L x=some (.pointer (some ⟨b,o,none⟩)))(hy:ev L y=some (.int j p))(hq:p=(q:Int))(dk:q<len)(h:J P f n R G S all rest k ((d,.pointer (some ⟨b,o+q,none⟩))::L) H):J P f n R G S all (.cons m true ⟨some d,.indexAddr t x y,ty,pos,af,gd⟩ rest) k L H:=by
 subst hq
 refine B0 hd ht hu he hx hy aj aj ?_
 rw[Nat.eq_of_beq_eq_true hs,Int.toNat_natCast,Nat.mul_one]
 exact h
def BY{t:TypeId}{x:Operand}{b off:Nat}{cd:Ty}{l:List Value}{e:TypeId}{v:Value}(i q:Nat)(hd:Nat.blt d n=true)(hx:ev L x=some (.pointer (some ⟨b,off,none⟩)))(hi:cD H i=some (ak b (cl l e)))(hq:off=q)(hv:l[q]?=some v)(ht:U.get t=some cd)(hg:cd.isAgg=false)(h:J P f n R G S all rest k ((d,v)::L) H):J P f n R G S all (.cons false true ⟨some d,.load t x,ty,pos,af,gd⟩ rest) k L H:=by
 subst hq
 exact fF (U:=U) i hd hx hi (by rw[ed];exact hv) ht hg h
def l6{Hs:List HP}{t:TypeId}{x:Operand}{b off:Nat}{cd:Ty}{l:List Value}{e:TypeId}{v:Value}(i q:Nat)(hd:Nat.blt d n=true)(hx:ev L x=some (.pointer (some ⟨b,off,none⟩)))(hi:cD Hs i=some (ak b (cl l e)))(hq:off=q)(hv:l[q]?=some v)(ht:U.get t=some cd)(hg:cd.isAgg=false)(h:J P f n R G (fun w=>Sat G w Hs) all rest k ((d,v)::L) H):J P f n R G (fun w=>Sat G w Hs) all (.cons true true ⟨some d,.load t x,ty,pos,af,gd⟩ rest) k L H:=by
 subst hq
 exact iA (U:=U) i hd hx hi (by rw[ed];exact hv) ht hg h
def B6{t e:TypeId}{cd te:Ty}{nn:Nat}{z:Array Value}{parts:Array (Nat × Operand)}{cs:List Value}(hd:Nat.blt d n=true)(ht:U.get t=some cd)(hu:cd.gx = .array nn e)(he:U.get e=some te)(hz:cd.info.zero=some (.agg z))(hb:ym L te.info.size z.toList parts.toList = .mk cs)(h:J P f n R G S all rest k ((d,.agg cs.toArray)::L) H):J P f n R G S all (.cons m true ⟨some d,.build t parts,ty,pos,af,gd⟩ rest) k L H:=by
 have iJ:∀a w,Has n L a→(execOp a.eval ⟨some d,.build t parts,ty,pos,af,gd⟩).run P w = .ok (.value (.agg cs.toArray)) w:=fun a w ha=>by
  have hf:=za ha te.info.size parts.toList z.toList cs hb
  rw[Array.toArray_toList]at hf
  simp only[execOp,Instr.build,Sem.run_bind,ej ht hz,run_underlying ht,Result.andThen_ok,hu,run_sizeOf he,Value.cells,Array.toList_map,hf,Sem.run_pure]
 cases m with
 | false=>exact kR hd (fun a w ha _=>iJ a w ha) h
 | true=>exact mK hd (fun a w ha _=>iJ a w ha) h
end
end Go.SL
namespace Go.SL
open Go
def Sj{P:Program}{f:FuncId}{n:Nat}{R:Ending→World→Prop}{G:cL}{ds:List Nat}{k k0:List Item}{L:gh}{H H':List HP}{fn:Func}{F:List HP}{Post:Value→List HP→Prop}{v:Value}{Hq:List HP}(hR:Ends R G F Post)(hf:P.funcs[f]?=some fn)(hk:iq 1000 k0 = .mk (.code .ret::k))(he:aq H (ds.map (fun r=>ak r (.deferred (some [])))++H'))(J5:∀a w,Has n L a→Sat { G with ds:=ds } w H'→(results fn a.tmps).run P w = .ok v w)(dQ:Post v Hq)(Hu:aq H' (Hq++F)):K P f n R { G with ds:=ds } k0 L H:=by
 refine gJ 1000 hk ?_
 intro a w ha hw cs
 have Q3:({ G with ds:=ds }:cL).ro=none:=hR.1.1
 rw[Q3]
 obtain⟨w',l7,hs⟩:=rR (P:=P) ds { bf none f a (.code .ret::k)with mode := .returning } cs w rfl ha.2 ⟨H',hw.cI he,rfl⟩
 exact⟨_,w',_,hR.2 _ _ w' dQ (by have:=l7.cI Hu;exact this),Steps.trans (.one (stepR_ret rfl)) hs,rfl,rfl,rfl,rfl,fn,hf,J5 a w' ha.1 l7⟩
def Ar{P:Program}{U:Tr}[hU:gF P U]{n:Nat}{L:gh}{a:Act}{p b:Nat}{t e:TypeId}{cd:Ty}{u:Value}{G:cL}{w:World}{H:List HP}(i:Nat)(ha:Has n L a)(hw:Sat G w H)(hp:dU L p=some (.pointer (some ⟨b,0,none⟩)))(ht:U.get t=some cd)(hg:cd.isAgg=false)(hi:cD H i=some (ak b (cl [u] e))):(Cp a.tmps (.cell p t)).run P w = .ok u w:=by
 have hc:w.cell? ⟨b,0,none⟩=some u:=by rw[dD (hw.q9 hi)];rfl
 have Rm:=qb (P:=P) (w:=w) ht hg hc
 have g1:a.tmps.getD p undef = .pointer (some ⟨b,0,none⟩):=by simp[Array.getD_eq_getD_getElem?,ha.2.2 p _ hp]
 simp only[Cp,g1,asAddr,Sem.run_bind,Sem.run_pure,Result.andThen_ok]
 simpa[Instr.loadAt,Instr.sureAddr]using Rm
def vj{P:Program}{U:Tr}[hU:gF P U]{f:FuncId}{n:Nat}{R:Ending→World→Prop}{G:cL}{ds:List Nat}{k k0:List Item}{L:gh}{H H':List HP}{fn:Func}{F:List HP}{Post:Value→List HP→Prop}{p q b1 b2:Nat}{t1 t2 e1 e2:TypeId}{ty1 ty2:Ty}{u1 u2:Value}{Hq:List HP}(i j:Nat)(hR:Ends R G F Post)(hf:P.funcs[f]?=some fn)(hk:iq 1000 k0 = .mk (.code .ret::k))(tQ:fn.results.toList=[.cell p t1,.cell q t2])(hp:dU L p=some (.pointer (some ⟨b1,0,none⟩)))(hq:dU L q=some (.pointer (some ⟨b2,0,none⟩)))(VA:U.get t1=some ty1)(I4:ty1.isAgg=false)(ht2:U.get t2=some ty2)(O7:ty2.isAgg=false)(he:aq H (ds.map (fun r=>ak r (.deferred (some [])))++H'))(hi:cD H' i=some (ak b1 (cl [u1] e1)))(hj:cD H' j=some (ak b2 (cl [u2] e2)))(dQ:Post (.tuple #[u1,u2]) Hq)(Hu:aq H' (Hq++F)):K P f n R { G with ds:=ds } k0 L H:=by
 refine Sj hR hf hk he (fun a w ha hw=>?_) dQ Hu
 have h1:=Ar (P:=P) i ha hw hp VA I4 hi
 have h2:=Ar (P:=P) j ha hw hq ht2 O7 hj
 rw[m9,Array.mapM_eq_mapM_toList,tQ]
 simp_all
def bL{P:Program}{f:FuncId}{n:Nat}{R:Ending→World→Prop}{G:cL}{k:List Item}{L:gh}{H F:List HP}{Post:Value→List HP→Prop}(hE:Ends R G F Post)(h:K P f n R { G with ds:=[] } k L H):K P f n R G k L H:=by
 have:({ G with ds:=[] }:cL)=G:=by have:=hE.1.2;cases G;simp_all
 rw[this]at h
 exact h
def pJ{P:Program}{f:FuncId}{n:Nat}{R:Ending→World→Prop}{G:cL}{k:List Item}{L:gh}{H:List HP}{ps:Array Tmp}{assign body:Code}{k0:List Item}{g:Operand}{gid:FuncId}{cap:Array Value}{Pre:Nat→Nat→List HP}{Fr:List HP}(Post:Nat→Nat→(LoopState→Option Code→HP)→Value→List HP→Prop)(hk:iq 1000 k0 = .mk (.code (.rangeFunc g ps assign body)::k))(Q3:G.ro=none)(hg:ev L g=some (.func (.func gid) #[] cap))(c:∀l r,aH P gid (.func (.yield l) #[] #[]::cap.toList) (bD l .ready none f n L ps assign body r::Pre l r) (Post l r (fun st pd=>bD l st pd f n L ps assign body r)))(he:∀l r,aq H (Pre l r++Fr))(eA:∀l r v H',Post l r (fun st pd=>bD l st pd f n L ps assign body r) v H'→∃st pd H'',H'=bD l st pd f n L ps assign body r::H''∧st ≠ .busy ∧
   K P f n R { G with ds:=r::G.ds } ((pd.map Item.code).toList++k) L (H''++(ak r (.deferred (some []))::Fr))):K P f n R G k0 L H :=
 wW hk Q3 hg c he eA
def eE{P:Program}{f:FuncId}{n:Nat}{R:Ending→World→Prop}{G:cL}{k:List Item}{L:gh}{H:List HP}{e:TypeId}{sz nn:Nat}{v:Value}{cs:List Value}(i:Nat)(hi:cD H i=some (aK e sz v nn cs))(h:Vw (aK e sz v nn cs) v nn cs→K P f n R G k L H):K P f n R G k L H :=
 pH fun⟨w,hw⟩=>by
  obtain⟨h1,_,hA⟩:=hw.kp hi
  exact h (Vw.lj e sz v nn cs ⟨h1,hA⟩)
theorem Ep{e:TypeId}{sz nn c:Nat}{a:Option Addr}{cs:List Value}{h:Hp}(hs:aK e sz (.slice a nn c) nn cs h):nn≤c:=by
 obtain⟨_,⟨a',hv,hn,_⟩|⟨b,o,cap,pre,junk,hv,hp,hn,hc,_⟩⟩:=hs
 ·omega
 grind
def zQ{P:Program}{f:FuncId}{n:Nat}{R:Ending→World→Prop}{G:cL}{k:List Item}{L:gh}{H:List HP}{e:TypeId}{sz nn c:Nat}{a:Option Addr}{cs:List Value}(i:Nat)(hi:cD H i=some (aK e sz (.slice a nn c) nn cs))(h:Vw (aK e sz (.slice a nn c) nn cs) (.slice a nn c) nn cs→nn≤c→K P f n R G k L H):K P f n R G k L H :=
 pH fun⟨w,hw⟩=>by
  obtain⟨h1,_,hA⟩:=hw.kp hi
  exact h (Vw.lj e sz _ nn cs ⟨h1,hA⟩) (Ep hA)
def Vb{P:Program}{f:FuncId}{n:Nat}{R:Ending→World→Prop}{G:cL}{k:List Item}{L:gh}{H:List HP}{S:World→Prop}{all:Array Oper}{rest:Pl}{e:TypeId}{sz nn c:Nat}{a:Option Addr}{cs:List Value}(i:Nat)(hi:cD H i=some (aK e sz (.slice a nn c) nn cs))(h:Vw (aK e sz (.slice a nn c) nn cs) (.slice a nn c) nn cs→nn≤c→J P f n R G S all rest k L H):J P f n R G S all rest k L H :=
 zg fun w hw=>by
  obtain⟨h1,_,hA⟩:=hw.kp hi
  exact h (Vw.lj e sz _ nn cs ⟨h1,hA⟩) (Ep hA)
def MR{P:Program}{U:Tr}[hU:gF P U]{n:Nat}{G:cL}{L:gh}{H:List HP}{fn:Func}{p b:Nat}{t e:TypeId}{cd:Ty}{cs:List Value}{a:Act}{w:World}(i:Nat)(ha:vl G n L a)(hw:Sat G w H)(tQ:fn.results.toList=[.cell p t])(hp:dU L p=some (.pointer (some ⟨b,0,none⟩)))(ht:U.get t=some cd)(hg:cd.isAgg=true)(hl:cs.length=cd.info.size)(hi:cD H i=some (ak b (cl cs e))):(results fn a.tmps).run P w = .ok (.agg cs.toArray) w:=by
 have hc:∀j v,cs[j]?=some v→w.cell? ⟨b,0+j,none⟩=some v:=fun j v hj=>by rw[dD (hw.q9 hi),Nat.zero_add];exact hj
 have Rm:=gZ (P:=P) (w:=w) ht hg hl hc
 have Rl:(loadVar t ⟨b,0,none⟩).run P w = .ok (.agg cs.toArray) w:=by simpa[Instr.loadAt,Instr.sureAddr]using Rm
 have g1:a.tmps.getD p undef = .pointer (some ⟨b,0,none⟩):=by simp[Array.getD_eq_getD_getElem?,ha.get hp]
 rw[m9,Array.mapM_eq_mapM_toList,tQ]
 simp only[Sem.run_bind,Sem.run_map,List.mapM_cons,List.mapM_nil,Cp,g1,asAddr,Sem.run_pure,Result.andThen_ok,Rl]
 simp
def qH{P:Program}{U:Tr}[hU:gF P U]{f:FuncId}{n:Nat}{R:Ending→World→Prop}{G:cL}{k k0:List Item}{L:gh}{H:List HP}{fn:Func}{F:List HP}{Post:Value→List HP→Prop}{p b:Nat}{t e:TypeId}{cd:Ty}{cs:List Value}(i:Nat)(hR:Ends R G F Post)(hf:P.funcs[f]?=some fn)(hk:iq 1000 k0 = .mk (.code .ret::k))(tQ:fn.results.toList=[.cell p t])(hp:dU L p=some (.pointer (some ⟨b,0,none⟩)))(ht:U.get t=some cd)(hg:cd.isAgg=true)(hl:cs.length=cd.info.size)(hi:cD H i=some (ak b (cl cs e))){Hq:List HP}(dQ:Post (.agg cs.toArray) Hq)(he:aq H (Hq++F)):K P f n R G k0 L H:=by
 refine gJ 1000 hk ?_
 intro a w ha hw k6
 have iJ:=MR (P:=P) i ha hw tQ hp ht hg hl hi
 rw[hR.1.1]
 exact⟨_,w,_,hR.2 _ _ w dQ (hw.cI he),.one (stepR_ret rfl),rfl,rfl,by show a.defers=[];rw[ha.2,hR.1.2];rfl,rfl,fn,hf,iJ⟩
end Go.SL
namespace Go.Proofs.YtlionahpheehaaaGreatDoor
open Go Go.SL
attribute [local irreducible] J K aH Ends ak aK aV bX bj aS bp bD cp
def Gq(n:Nat)(h1:1≤n)(h2:n≤31):IntKind.u64.wrap ((BitVec.ofInt IntKind.u64.bits (IntKind.u64.wrap (-(n:Int))) &&& BitVec.ofInt IntKind.u64.bits 31).toNat:Int)=((32-n:Nat):Int):=by
 have:∀n:Nat,n<32→1≤n→IntKind.u64.wrap ((BitVec.ofInt 64 (IntKind.u64.wrap (-(n:Int))) &&& BitVec.ofInt 64 31).toNat:Int)=((32-n:Nat):Int):=by decide
 exact this n aj h1
def pD(x:l5)(n:Nat)(h1:1≤n)(h2:n≤31):aH Tryz.prog 222 [u32 x,.int .i64 (-(n:Int))] [] (fun r H=>r=u32 (Sha.OY x n)∧H=[]):=by
 unfold u32
 refine aH.aC Tryz.func222 Tryz.ntmps222 fun G F R hE=>?_
 refine go ?_
 refine jI ?_
 refine lB zr zr zr zr zr zr ?_
 refine zt ?_
 refine aE 5 ((.int .u64 ((32-n:Nat):Int))) rfl ((congrArg (Value.int .u64) (Gq n h1 h2))) (go ?_)
 refine Ss (32-n) zr zr zr zr aj ?_
 (repeat(first|refine g9 ?_|refine FH n zr zr zr aj aj ?_|refine sC zr zr zr ?_))
 refine ah hE Tryz.func222 zr zr ⟨rfl,rfl⟩
def ea(x:l5)(n:Nat)(h1:1≤n)(h2:n≤31):aH Tryz.prog 162 [u32 x,.int .i64 (n:Int)] [] (fun r H=>r=u32 (Sha.OY x n)∧H=[]):=by
 refine aH.aC Tryz.func162 Tryz.ntmps162 fun G F R hE=>?_
 refine go ?_
 refine aa8 zr zr (by simp only[js];omega) ?_
 refine aeb (pD x n h1 h2) ?_
 refine go ?_
 refine ah hE Tryz.func162 zr zr ⟨rfl,rfl⟩
theorem Jn(A:HP)(v:Value)(b:List UInt8)(hv:eU A v b)(Tc:64≤b.length) :
  aH Tryz.prog 161 [v] [A] (fun r H=>r = .agg (wV (Sha.sched b 64)).toArray∧H=[A]):=by
 obtain⟨a,c,rfl,hc⟩:=hv.2
 have hf:=hv.front 64 Tc
 refine aH.aC Tryz.func161 Tryz.ntmps161 fun G F R hE=>?_
 refine aP rfl ?_
 refine aL zr zr zr bO ?_
 intro b2
 refine zt ?_
 (refine aP rfl ?_;refine zt ?_)
 refine aL zr zr zr bO ?_
 intro b3
 refine go ?_
 refine aU (p:=0) (q:=64) zr zr zr zr zr zr zr aj aj (.inr aj) ?_
 refine au 10 ((.slice (sliceAt a c 0 1) 64 c)) rfl (rfl) (go ?_)
 refine bF (fun i:Nat=>i≤64) (fun i=>64-i)
  (fun i=>[(2,ptr b2),(3,ptr b3),(10,.slice (sliceAt a c 0 1) 64 c),(11,.int .i64 64),(12,.int .i64 (i:Int))])
  (fun i=>ak b3 (cl (wV (Sha.n6 b i)) 234)::ak b2 (cl (wV (List.replicate 64 0)) 234)::A::F) 0 (Nat.zero_le _) rfl cF (by rw[Sha.Kn];exact ad) ?_
 rintro i hi ih
 refine go ?_
 refine aB zr zr ?_ ?_
 ·intro dk
  have VU:i<64:=by omega
  obtain⟨x,hx⟩:∃x,b[i]?=some x:=⟨b[i]' aj,by simp⟩
  have hxd:b.getD i 0=x:=by rw[List.getD_eq_getElem?_getD,hx];rfl
  have Hc:(bV (b.take 64))[i]?=some (u8 x):=by
   grind [yn]
  obtain⟨bb,oo,cc,ez⟩:=hf.1.some (by intro e;rw[e]at Hc;simp at Hc)
  simp only[Value.slice.injEq,true_and]at ez
  obtain⟨ez,-,rfl⟩:=ez
  have hlen:(b.take 64).length=64:=by rw[List.length_take];omega
  have hf2:=hf.1
  rw[ez,hlen]at hf2
  rw[ez]
  refine go ?_
  refine bW i zr zr zr zr zr zr zr zr VU ?_
  refine aY ?_
  refine aZ 2 i zr zr zr hf2 rfl Hc zr zr (go ?_)
  refine aO (fun w=>Sat G w ([ak b3 (cl (wV (Sha.n6 b i)) 234)])) (dM 0 13 (.act 13 .nil)) rfl aw aw aw dI ?_
  refine go ?_
  have hg:=Sha.mQ b i (i/4) aj
  have hq:(i:Int)/4=((i/4:Nat):Int):=by omega
  have hr:24-8*((i:Int)%4)=((24-8*(i%4):Nat):Int):=by omega
  have ags:(wV (Sha.n6 b i)).length=64:=by rw[z6,Sha.mP]
  (repeat(first|refine g9 ?_|refine zh zr zr zr aj aj (by simp only[js];omega) ?_|refine uy zr zr zr aj aj ?_|refine nG zr zr zr (by simp only[js];omega) ?_|refine kT (U:=bh) (i/4) zr zr zr zr zr zr zr hq aj ?_|(refine aY ?_;refine l6 (U:=bh) 0 (i/4) zr zr zr (Nat.zero_add _) (rq hg) zr zr ?_)|(refine jI ?_;refine Sm (U:=bh) zr zr zr zr zr zr ?_)|refine Ss (24-8*(i%4)) zr zr zr hr aj ?_|refine sC zr zr zr ?_))
  refine bE ?_
  refine n9 (U:=bh) 0 eH zr zr zr zr zr zr zr (by rw[z6,Sha.mP];omega) rfl ?_
  rw[show 0+i/4=i/4 from Nat.zero_add _]
  refine go ?_
  have cN:=Sha.Ko b i VU
  rw[hxd]at cN
  have nM:(wV (Sha.n6 b i)).set (i/4) (.int .u32 (((Sha.part b (i/4) (min 4 (i-4*(i/4))) ||| wB x <<< (24-8*(i%4))).toNat:Nat):Int))=wV (Sha.n6 b (i+1)):=by
   rw[← cN,show min 4 (i-4*(i/4))=i%4 from by omega]
   exact Pj _ _ _
  rw[nM,← ez]
  refine aQ ih (i+1) rfl aj aj cF ad
 intro fO
 have NT:i=64:=by omega
 subst NT
 clear ih
 refine go ?_
 refine bF (fun t:Nat=>16≤t∧t≤64) (fun t=>64-t)
  (fun t=>[(2,ptr b2),(3,ptr b3),(6,.int .i64 (t:Int))])
  (fun t=>ak b3 (cl (wV (Sha.kC b t)) 234)::ak b2 (cl (wV (List.replicate 64 0)) 234)::A::F) 16 ⟨aj,aj⟩ rfl cF (by rw[Sha.N'];exact ad) ?_
 rintro t⟨VA,ht2⟩ ih
 have hlen:=Sha.Jr b t ht2
 refine go ?_
 refine aB zr zr ?_ ?_
 ·intro dk
  have ht:t<64:=by omega
  have g2:=Sha.p9 b t (t-2) aj
  have g7:=Sha.p9 b t (t-7) aj
  have g15:=Sha.p9 b t (t-15) aj
  have g16:=Sha.p9 b t (t-16) aj
  refine go ?_
  refine aO (fun w=>Sat G w ([ak b3 (cl (wV (Sha.kC b t)) 234)])) (dM 0 10 .nil) rfl aw aw aw dI ?_
  refine go ?_
  (repeat(first|refine g9 ?_|refine kT (U:=bh) (t-2) zr zr zr zr zr zr zr aj aj ?_|refine kT (U:=bh) (t-15) zr zr zr zr zr zr zr aj aj ?_|(refine aY ?_;first|refine l6 (U:=bh) 0 (t-2) zr zr zr (Nat.zero_add _) (rq g2) zr zr ?_|refine l6 (U:=bh) 0 (t-15) zr zr zr (Nat.zero_add _) (rq g15) zr zr ?_)))
  refine aeb (ea _ 17 aj aj) ?_
  refine go ?_
  refine aeb (ea _ 19 aj aj) ?_
  (repeat(first|refine g9 ?_|refine qJ zr zr zr ?_|refine FH 10 zr zr zr zr aj ?_))
  refine aeb (ea _ 7 aj aj) ?_
  refine go ?_
  refine aeb (ea _ 18 aj aj) ?_
  (repeat(first|refine g9 ?_|refine qJ zr zr zr ?_|refine FH 3 zr zr zr zr aj ?_))
  refine aO (fun w=>Sat G w ([ak b3 (cl (wV (Sha.kC b t)) 234)])) (dM 0 15 (.act 15 .nil)) rfl aw aw aw dI ?_
  refine go ?_
  (repeat(first|refine g9 ?_|refine kT (U:=bh) (t-16) zr zr zr zr zr zr zr aj aj ?_|refine kT (U:=bh) (t-7) zr zr zr zr zr zr zr aj aj ?_|refine kT (U:=bh) t zr zr zr zr zr zr zr zr ht ?_|(refine aY ?_;first|refine l6 (U:=bh) 0 (t-16) zr zr zr (Nat.zero_add _) (rq g16) zr zr ?_|refine l6 (U:=bh) 0 (t-7) zr zr zr (Nat.zero_add _) (rq g7) zr zr ?_)|refine qL zr zr zr ?_))
  refine bE ?_
  refine n9 (U:=bh) 0 eH zr zr zr zr zr zr zr (by rw[z6,hlen];omega) rfl ?_
  rw[show 0+t=t from Nat.zero_add _]
  refine go ?_
  have nM:=(Pj (Sha.kC b t) t _).trans (congrArg wV (Sha.Gi b t VA ht))
  refine al (H':=ak b3 (cl (wV (Sha.kC b (t+1))) 234)::ak b2 (cl (wV (List.replicate 64 0)) 234)::A::F) (by rw[← nM];exact aq.refl _) ?_
  refine aQ ih (t+1) rfl ⟨aj,aj⟩ aj cF ad
 intro fO
 have aaa:t=64:=by omega
 subst aaa
 rw[Sha.Js]
 have RD:(wV (Sha.sched b 64)).length=64:=by rw[z6,Sha.gQ]
 have gD:jV (wV (Sha.sched b 64))=true:=tD _
 generalize wV (Sha.sched b 64)=W at RD gD hE ⊢
 refine go ?_
 refine aW (U:=bh) 0 zr zr zr zr zr RD ?_
 refine gp (U:=bh) 1 eH rfl rfl rfl RD (by intro e;rw[e]at RD;cases RD) gD rfl (by rw[RD];simp[z6]) rfl ?_
 refine go ?_
 refine qH (U:=bh) 1 hE Tryz.func161 zr zr zr zr zr RD rfl ⟨rfl,rfl⟩ ad
def qI(X:HP):Prop:=Vw X (.slice (some ⟨0,0,none⟩) 64 64) 64 (wV Sha.ks)
def qI.mono{A B:HP}(h:qI A)(O':∀h,B h→∃h',sub h' h∧A h'):qI B:=Vw.mono h O'
def Z1{t:Nat}(h:t<64):Sha.ks[t]?=some (Sha.ks.getD t 0):=by
 rw[List.getD_eq_getElem?_getD,List.getElem?_eq_getElem (show t<Sha.ks.length from h)];rfl
def stV(s:Sha.St):Value := .agg (wV s.l).toArray
def F9(A:HP)(hK:qI A)(v:Value)(b:List UInt8)(hv:eU A v b)(Tc:64≤b.length)(s:Sha.St) :
  aH Tryz.prog 88 [stV s,v] [A] (fun r H=>r=stV (Sha.chunk s b)∧H=[A]):=by
 have hX:=Jn A v b hv Tc
 obtain⟨a,c,rfl,hc⟩:=hv.2
 unfold qI at hK
 have fD:(Sha.sched b 64).length=64:=Sha.gQ b 64
 have I5:Sha.chunk s b=Sha.plus s (Sha.rounds s (Sha.sched b 64) 64):=rfl
 rw[I5]
 generalize Sha.sched b 64=W at hX fD ⊢
 obtain⟨s1,s2,s3,s4,s5,s6,s7,s8⟩:=s
 dsimp only [stV,Sha.St.l,wV,List.map_cons,List.map_nil]
 refine aH.aC Tryz.func88 Tryz.ntmps88 fun G F R hE=>?_
 refine go ?_
 refine bJ zr zr bO ?_
 intro b2
 refine go ?_
 refine aL zr zr zr bO ?_
 intro b4
 refine go ?_
 refine aO (fun w=>Sat G w ([ak b2 (cl [u32 s1,u32 s2,u32 s3,u32 s4,u32 s5,u32 s6,u32 s7,u32 s8] 156)])) (dM 0 24 .nil) rfl aw aw aw dI ?_
 refine go ?_
 (repeat(first|refine g9 ?_|refine jg zr zr zr zr zr zr aj aj ?_))
 refine aeb hX ?_
 refine go ?_
 generalize hs:(⟨s1,s2,s3,s4,s5,s6,s7,s8⟩:Sha.St)=s at hE
 refine bF (fun t:Nat=>t≤64) (fun t=>64-t)
  (fun t=>[(2,ptr b2),(4,ptr b4),(34,.agg (wV W).toArray),(35,.int .i64 (t:Int)),(5,u32 (Sha.rounds s W t).a),(6,u32 (Sha.rounds s W t).b),(7,u32 (Sha.rounds s W t).c),(8,u32 (Sha.rounds s W t).d),(9,u32 (Sha.rounds s W t).e),(10,u32 (Sha.rounds s W t).f),(11,u32 (Sha.rounds s W t).g),(12,u32 (Sha.rounds s W t).h)])
  (fun _=>ak b4 (cl (wV (List.replicate 8 0)) 156)::ak b2 (cl [u32 s1,u32 s2,u32 s3,u32 s4,u32 s5,u32 s6,u32 s7,u32 s8] 156)::A::F) 0 (Nat.zero_le _) rfl (by subst hs;repeat(first|exact G9|refine Dm rfl ?_)) ad ?_
 rintro t ht ih
 refine go ?_
 refine aB zr zr ?_ ?_
 ·intro dk
  have VA:t<64:=by omega
  have hr:Sha.rounds s W (t+1)=Sha.round (Sha.rounds s W t) (Sha.ks.getD t 0) (W.getD t 0):=rfl
  generalize Sha.rounds s W t=T at hr ⊢
  obtain⟨ta,tb,tc,td,te,tf,tg,th⟩:=T
  have hwg:(wV W).toArray.toList[((t:Nat):Int).toNat]?=some (u32 (W.getD t 0)):=by
   rw[Int.toNat_natCast]
   exact rq (by rw[List.getD_eq_getElem?_getD,List.getElem?_eq_getElem aj];rfl)
  have hkg:=rq (Z1 VA)
  generalize Sha.ks.getD t 0=kt at hr hkg
  generalize W.getD t 0=wt at hr hwg
  simp only
  refine go ?_
  refine B3 (U:=bh) zr zr zr zr zr zr zr zr aj aj hwg (go ?_)
  refine aO (fun w=>Sat G w ([A])) (.st 0 (.st 1 (.st 3 (.st 6 (dM 10 7 (dM 18 3 (.st 22 (.act 2 (.act 4 (.st 5 (.act 7 (.st 8 (.st 9 (.st 17 (.st 21 (.st 23 (.st 24 .nil))))))))))))))))) rfl aw aw aw dI ?_
  refine go ?_
  (repeat(first|refine g9 ?_|refine kT (U:=bh) t zr zr zr zr zr zr zr zr VA ?_|(refine aY ?_;refine cQ 0 t zr zr zr hK rfl hkg zr zr ?_)|refine qJ zr zr zr ?_|refine qK zr zr zr ?_))
  refine Vd ((ea _ 6 aj aj)) ?_
  refine go ?_
  refine Vd ((ea _ 11 aj aj)) ?_
  refine go ?_
  (repeat((refine qJ zr zr zr ?_)))
  refine Vd ((ea _ 25 aj aj)) ?_
  (repeat(first|refine g9 ?_|refine qJ zr zr zr ?_|refine qL zr zr zr ?_))
  refine aeb (ea _ 2 aj aj) ?_
  refine go ?_
  refine aeb (ea _ 13 aj aj) ?_
  (repeat(first|refine g9 ?_|refine qJ zr zr zr ?_))
  refine aeb (ea _ 22 aj aj) ?_
  (repeat(first|refine g9 ?_|refine qJ zr zr zr ?_|refine qK zr zr zr ?_|refine sC zr zr zr ?_|refine qL zr zr zr ?_))
  ((refine aE 5 ((u32 (Sha.rounds s W (t+1)).a)) rfl ((by rw[hr];rfl)) ?_))
  ((refine aE 6 ((u32 (Sha.rounds s W (t+1)).b)) rfl ((by rw[hr];rfl)) ?_))
  ((refine aE 7 ((u32 (Sha.rounds s W (t+1)).c)) rfl ((by rw[hr];rfl)) ?_))
  ((refine aE 8 ((u32 (Sha.rounds s W (t+1)).d)) rfl ((by rw[hr];rfl)) ?_))
  ((refine aE 9 ((u32 (Sha.rounds s W (t+1)).e)) rfl ((by rw[hr];rfl)) ?_))
  ((refine aE 10 ((u32 (Sha.rounds s W (t+1)).f)) rfl ((by rw[hr];rfl)) ?_))
  ((refine aE 11 ((u32 (Sha.rounds s W (t+1)).g)) rfl ((by rw[hr];rfl)) ?_))
  ((refine aE 12 ((u32 (Sha.rounds s W (t+1)).h)) rfl ((by rw[hr];rfl)) ?_))
  refine aQ ih (t+1) rfl aj aj cF ad
 intro fO
 have aaa:t=64:=by omega
 subst aaa
 have qO:stV (Sha.plus s (Sha.rounds s W 64)) = .agg (List.map u32 [(Sha.plus s (Sha.rounds s W 64)).a,(Sha.plus s (Sha.rounds s W 64)).b,(Sha.plus s (Sha.rounds s W 64)).c,(Sha.plus s (Sha.rounds s W 64)).d,(Sha.plus s (Sha.rounds s W 64)).e,(Sha.plus s (Sha.rounds s W 64)).f,(Sha.plus s (Sha.rounds s W 64)).g,(Sha.plus s (Sha.rounds s W 64)).h]).toArray:=rfl
 rw[← qO]at hE
 clear qO I5 ih
 generalize Sha.rounds s W 64=T at hE ⊢
 obtain⟨ta,tb,tc,td,te,tf,tg,th⟩:=T
 subst hs
 simp only
 refine go ?_
 (repeat(first|refine g9 ?_|refine jg zr zr zr zr zr zr aj aj ?_|refine qL zr zr zr ?_))
 refine B6 (U:=bh) zr zr zr zr zr zr (go ?_)
 refine qH (U:=bh) 0 hE Tryz.func88 zr zr zr zr zr zr zr ⟨rfl,rfl⟩ ad
end Go.Proofs.YtlionahpheehaaaGreatDoor
namespace Go.SL
open Go
def dV(x:Dg):Value := .agg (dC x).toArray
theorem aaP{a b:Dg}(h:dV a=dV b):a=b:=by
 grind [dV,aaR]
section
variable{P:Program}
theorem US{kt e:TypeId}(hu:P.underlying kt=some (.array 32 e))(he:P.underlying e=some (.int .u8))(hc:P.cellsOf e=1)(em:Bool)(k:Dg)(w:World):(Instr.checkKey em 10000 kt (dV k)).run P w = .ok () w:=by
 obtain⟨i,hi⟩:=info_of_underlying he
 have LX:P.plainKey e=true:=by unfold Program.plainKey;rw[he]
 have kr:(sizeOf e).run P w = .ok 1 w:=by
  rw[Go.run_sizeOf w hi];congr 1
 rw[show(10000:Nat)=9999+1 from rfl,Instr.checkKey]
 simp only[Sem.run_bind,Go.run_underlying hu,Result.andThen_ok,dV]
 simp only[Std.Legacy.Range.forIn_eq_forIn_range',Std.Legacy.Range.size,Nat.sub_zero,Nat.add_one_sub_one,Nat.div_one]
 have each:∀j∈List.range' 0 32,j<32:=fun j hj=>by simp[List.mem_range']at hj;omega
 generalize List.range' 0 32=is at each
 induction is with
 | nil=>simp
 | cons j is ih =>
  have hj:=each j (by simp)
  have eB:(dC k).toArray[j*1]?=some (u8 (k.at j)):=by
   rw[Nat.mul_one,fg]
   simp only[List.getElem?_toArray]
   rw[show bV k.bs=k.bs.map u8 from rfl,List.getElem?_map,List.getElem?_eq_getElem (by rw[k.len];exact hj)]
   grind [Dg.at]
  have p1:(part e (dC k).toArray (j*1)).run P w = .ok (u8 (k.at j)) w:=run_part_plain w LX eB
  have p2:(Instr.checkKey em 9999 e (u8 (k.at j))).run P w = .ok () w:=by
   rw[show(9999:Nat)=9998+1 from rfl,Instr.checkKey]
   simp[Go.run_underlying he,u8]
  simp_all
def Gk{kt e:TypeId}(hu:P.underlying kt=some (.array 32 e))(he:P.underlying e=some (.int .u8))(hc:P.cellsOf e=1)(a b:Dg)(w:World):(Op.equal kt (dV a) (dV b)).run P w = .ok (decide (a=b)) w :=
 qc hu he hc a b 9998 w
theorem acI{kt e:TypeId}(hu:P.underlying kt=some (.array 32 e))(he:P.underlying e=some (.int .u8))(hc:P.cellsOf e=1):nF P kt dV where
 inj _ _:=aaP
 check em k w:=US hu he hc em k w
 find k l ks w h:=by
  rw[run_findKey_eq (w:=w) (by rw[hu])]
  have key:∀(l:List MapEntry) (ks:List Dg) (o:Nat),l.map (·.key)=ks.map dV →
    ∃r,(Instr.findAsking kt (dV k) l o).run P w = .ok r w∧((r=none∧k ∉ ks)∨∃i e,r=some (o+i,e.val)∧l[i]?=some e∧ks[i]?=some k∧∀j,j<i→ks[j]? ≠ some k):=by
   intro l
   induction l with
   | nil =>
    intro ks o h
    have:ks=[]:=by simpa using h.symm
    subst this
    exact⟨none,by simp[Instr.findAsking],.inl ⟨rfl,by simp⟩⟩
   | cons en l ih =>
    intro ks o h
    cases ks with
    | nil=>simp at h
    | cons c ks =>
     simp only[List.map_cons,List.cons.injEq]at h
     obtain⟨h1,h2⟩:=h
     have hq:(Op.equal kt (dV k) en.key).run P w = .ok (decide (k=c)) w:=by rw[h1];exact Gk hu he hc k c w
     by_cases NQ:k=c
     ·subst NQ
      refine⟨some (o+0,en.val),by simp[Instr.findAsking,hq],.inr ⟨0,en,rfl,by simp,by simp,fun j hj=>absurd hj aj⟩⟩
     ·obtain⟨r,hr,g8⟩:=ih ks (o+1) h2
      refine⟨r,by simp[Instr.findAsking,hq,NQ,hr],?_⟩
      rcases g8 with⟨rfl,hn⟩|⟨i,e',rfl,hi,hk,hj⟩
      ·grind
      ·refine .inr ⟨i+1,e',by congr 2;omega,by simpa using hi,by simpa using hk,fun j tP=>?_⟩
       cases j with
       | zero=>simp;exact fun h=>NQ h.symm
       | succ j=>simpa using hj j aj
  obtain⟨r,hr,g8⟩:=key l ks 0 h
  grind
 bits k:=by
  rw[show(10000:Nat)=9999+1 from rfl]
  simp only[dV,Instr.sameBits,beq_self_eq_true,Bool.true_and,List.all_eq_true]
  have:∀(l:List UInt8),∀x∈((bV l).zip (bV l)),Instr.sameBits 9999 x.1 x.2=true:=by
   intro l
   induction l with
   | nil=>simp[bV]
   | cons c l ih =>
    intro x hx
    simp only[bV,List.map_cons,List.zip_cons_cons,List.mem_cons]at hx
    rcases hx with rfl|hx
    ·simp[u8,Instr.sameBits]
    ·exact ih x hx
  grind [fg]
end
end Go.SL
namespace Go.Proofs.YtlionahpheehaaaGreatDoor
open Go Go.SL
attribute [local irreducible] J K aH Ends ak aK aV bX bj aS bp bD cp Sha.chunks Sha.chunk Sha.rounds Sha.sched fz
theorem sk(A:HP)(v:Value)(b:List UInt8)(hv:eU A v b)(hl:b.length≤1000000000):aH Tryz.prog 89 [v] [A] (fun r H=>H=[aK 5 1 r b.length (bV b),A]):=by
 obtain⟨a,c,rfl,hc⟩:=hv.2
 refine aH.aC Tryz.func89 Tryz.ntmps89 fun G F R hE=>?_
 cases a with
 | none =>
  have hb:b=[]:=by
   obtain⟨a,cap,h1,h2|⟨x,o,h2,_⟩⟩:=hv.1
   ·simpa[bV]using h2
   grind
  subst hb
  refine go ?_
  refine al (bS 5 1 none _) ?_
  refine aG hE Tryz.func89 rfl _ zr zr ad
 | some a =>
  refine go ?_
  refine az zr zr zr zr zr zr zr zr zr bO ?_
  intro b0
  refine go ?_
  (refine aT (fp 5 1 b0 0 0 [] [] _ rfl (Nat.le_refl _) (by simp)) ?_;refine bg (mm:=(b).length) (news:=bV (b)) 0 1 zr zr zr zr zr zr zr zr zr zr zr zr (hv.1) (by show _=_*1;rw[bN];omega) (dR _) aj (by show(_+_)*1≤_;omega) (fun _=>rfl) bO ?_;intro vA;rw[Nat.zero_add,List.nil_append];((refine aN 0 rfl ?_));rintro aA cA rfl)
  refine go ?_
  refine aG hE Tryz.func89 rfl _ zr zr ad
theorem qE(A:HP)(hK:qI A)(v:Value)(b:List UInt8)(hv:eU A v b)(hl:b.length≤1000000000) :
    aH Tryz.prog 23 [v] [A] (fun r H=>r=dV (fz b)∧H=[A]):=by
  obtain⟨a,c,rfl,hc⟩:=hv.2
  refine aH.aC Tryz.func23 Tryz.ntmps23 fun G F R hE=>?_
  refine aP rfl ?_
  refine aL zr zr zr bO ?_
  intro b2
  refine zt ?_
  refine aP rfl ?_
  refine B6 (U:=bh) (cs:=wV Sha.start.l) zr zr zr zr zr zr ?_
  refine aL zr zr zr bO ?_
  intro b3
  refine gp (U:=bh) (l':=wV Sha.start.l) 0 eH zr zr zr zr (by decide) (tD _) zr zr zr ?_
  refine aT (H':=ak b3 (cl (wV (Sha.chunks Sha.start b 0).l) 156)::ak b2 (cl (dC Dg.zero) 29)::A::F) (by unfold Sha.chunks;exact ad) ?_
  refine go ?_
  refine zh zr zr zr aj aj (by simp only[js];omega) ?_
  refine go ?_
  refine nG zr zr zr (by simp only[js];omega) ?_
  refine au 15 ((.int .i64 ((64*(b.length/64):Nat):Int))) rfl ((congrArg (Value.int .i64) aj)) (go ?_)
  refine bF (fun q:Nat=>q≤b.length/64) (fun q=>b.length/64-q)
    (fun q=>[(0,.slice a b.length c),(2,ptr b2),(3,ptr b3),(4,.int .i64 ((64*(b.length/64):Nat):Int)),(5,.int .i64 ((64*q:Nat):Int))])
    (fun q=>ak b3 (cl (wV (Sha.chunks Sha.start b q).l) 156)::ak b2 (cl (dC Dg.zero) 29)::A::F) 0 (Nat.zero_le _) rfl cF ad ?_
  rintro q hq ih
  refine go ?_
  refine aB zr zr ?_ ?_
  · intro dk
    have hq1:q<b.length/64:=by omega
    have kH:=hv.cut (64*q) aj
    have om:=F9 A hK _ _ kH (by rw[List.length_drop];omega) (Sha.chunks Sha.start b q)
    have rn:Sha.chunk (Sha.chunks Sha.start b q) (b.drop (64*q))=Sha.chunks Sha.start b (q+1):=by conv=>rhs;unfold Sha.chunks
    rw[rn]at om
    have hl8:∀s:Sha.St,(wV s.l).length=8:=fun s=>rfl
    refine go ?_
    refine aO (fun w=>Sat G w ([ak b3 (cl (wV (Sha.chunks Sha.start b q).l) 156)])) (dM 0 4 (.act 4 (.act 5 .nil))) rfl aw aw aw dI ?_
    refine go ?_
    refine dv (U:=bh) 0 zr zr zr zr zr zr (go ?_)
    refine aU (p:=((64*q:Nat):Int)) (q:=(b.length:Int)) zr zr zr zr zr zr zr aj aj (.inl rfl) ?_
    refine au 24 ((.slice (sliceAt a c (64*q) 1) (b.length-64*q) (c-64*q))) rfl (rfl) ?_
    refine Vd om ?_
    unfold stV
    refine bE ?_
    refine gp (U:=bh) 1 eH rfl rfl rfl rfl (by intro e;have:=congrArg List.length e;rw[hl8]at this;cases this) (tD _) rfl (by rw[hl8,hl8]) rfl ?_
    refine go ?_
    refine aE 5 ((.int .i64 ((64*(q+1):Nat):Int))) rfl ((congrArg (Value.int .i64) aj)) ?_
    refine aQ ih (q+1) rfl aj aj cF ad
  intro fO
  have VI:q=b.length/64:=by omega
  subst VI
  clear ih
  have kH:=hv.cut (64*(b.length/64)) aj
  obtain⟨B1,Tb⟩:∃B1,B1=b.drop (64*(b.length/64)):=⟨_,rfl⟩
  have Uz:B1.length=b.length-64*(b.length/64):=by rw[Tb,List.length_drop]
  rw[← Tb,← Uz]at kH
  refine go ?_
  refine aU (p:=((64*(b.length/64):Nat):Int)) (q:=(b.length:Int)) zr zr zr zr zr zr zr aj aj (.inl rfl) ?_
  ((refine au 28 ((.slice (sliceAt a c (64*(b.length/64)) 1) B1.length (c-64*(b.length/64)))) rfl ((by rw[Uz];rfl)) ?_))
  refine go ?_
  refine ao (sk A _ B1 kH aj) ?_
  rintro r _ rfl
  refine aN 0 rfl ?_
  rintro ra rc rfl
  refine go ?_
  (refine az (cs:=bV [(128:UInt8)]) zr zr zr zr zr zr zr zr zr bO ?_;intro bA;refine bg (mm:=1) (news:=bV [(128:UInt8)]) 1 0 zr zr zr zr zr zr zr zr zr zr zr zr (Vw.ak rfl) rfl (dR _) aj (by show(_+_)*1≤_;omega) (fun _=>rfl) bO ?_;intro vA;rw[show bV (B1)++bV [(128:UInt8)]=bV ((B1)++[(128:UInt8)])from by simp[bV],show(B1).length+1=((B1)++[(128:UInt8)]).length from(@List.length_append _ (B1) [(128:UInt8)]).symm];((refine aN 1 rfl ?_));rintro aA cA rfl)
  refine go ?_
  obtain⟨z,hz⟩:∃z,z=(119-b.length%64)%64:=⟨_,rfl⟩
  have hz1:(B1.length+1+z)%64=56:=by omega
  have hz2:z<64:=by omega
  have adI:B1.length<64:=by omega
  have rX:∀j:Nat,(B1++128::List.replicate j (0:UInt8)).length=B1.length+1+j:=fun j=>by simp;omega
  obtain⟨S1,hS1⟩:∃S1,S1=Sha.chunks Sha.start b (b.length/64):=⟨_,rfl⟩
  rw[← hS1]
  refine bF (fun y:Nat × Option Addr × Nat=>y.1≤z) (fun y=>z-y.1)
    (fun y=>[(0,.slice a b.length c),(2,ptr b2),(3,ptr b3),(6,.slice y.2.1 (B1++128::List.replicate y.1 (0:UInt8)).length y.2.2)])
    (fun y=>aK 5 1 (.slice y.2.1 (B1++128::List.replicate y.1 (0:UInt8)).length y.2.2) (B1++128::List.replicate y.1 (0:UInt8)).length (bV (B1++128::List.replicate y.1 (0:UInt8)))::A::ak b3 (cl (wV S1.l) 156)::ak b2 (cl (dC Dg.zero) 29)::F) (0,aA,cA) (Nat.zero_le _) rfl cF ad ?_
  rintro⟨j,a2,c2⟩ hj ih
  simp only at hj
  have Ri:=rX j
  dsimp only
  refine go ?_
  refine uy zr zr zr aj aj (go ?_)
  refine aB zr zr ?_ ?_
  · intro dw
    have hjz : j < z := by rcases Nat.lt_or_ge j z with h | h; exact h; exfalso; apply dw; rw [Ri]; have : j = z := by omega
                           subst this;omega
    refine go ?_
    (refine az (cs:=bV [(0:UInt8)]) zr zr zr zr zr zr zr zr zr bO ?_;intro bA;refine bg (mm:=1) (news:=bV [(0:UInt8)]) 1 0 zr zr zr zr zr zr zr zr zr zr zr zr (Vw.ak rfl) rfl (dR _) (by(rw[Ri];omega)) (by show(_+_)*1≤_;(rw[Ri];omega)) (fun _=>rfl) bO ?_;intro vA;rw[show bV ((B1++128::List.replicate j (0:UInt8)))++bV [(0:UInt8)]=bV (((B1++128::List.replicate j (0:UInt8)))++[(0:UInt8)])from by simp[bV],show((B1++128::List.replicate j (0:UInt8))).length+1=(((B1++128::List.replicate j (0:UInt8)))++[(0:UInt8)]).length from(@List.length_append _ ((B1++128::List.replicate j (0:UInt8))) [(0:UInt8)]).symm];((refine aN 1 rfl ?_));rintro aA cA rfl)
    rw[show B1++128::List.replicate j (0:UInt8)++[0]=B1++128::List.replicate (j+1) (0:UInt8)from by rw[List.replicate_succ'];simp]
    refine go ?_
    refine aQ ih (j+1,aA,cA) rfl (by simp only;omega) (by simp only;omega) cF ad
  intro heq
  have hjz:j=z:=by
    grind
  subst hjz
  clear ih
  obtain⟨T0,hT0⟩:∃T0,T0=B1++128::List.replicate j (0:UInt8):=⟨_,rfl⟩
  rw[← hT0]at Ri ⊢
  have hl3:∀i:Nat,i≤8→(T0++(Sha.DW (8*b.length)).take i).length=T0.length+i:=fun i hi=>by
    rw[List.length_append,List.length_take];simp only[Sha.DW,List.length_map,List.length_range];omega
  refine go ?_
  refine bF (fun y:Nat × Option Addr × Nat=>y.1≤8) (fun y=>8-y.1)
    (fun y=>[(0,.slice a b.length c),(2,ptr b2),(3,ptr b3),(6,.slice y.2.1 (T0++(Sha.DW (8*b.length)).take y.1).length y.2.2),(39,.int .i64 (y.1:Int))])
    (fun y=>aK 5 1 (.slice y.2.1 (T0++(Sha.DW (8*b.length)).take y.1).length y.2.2) (T0++(Sha.DW (8*b.length)).take y.1).length (bV (T0++(Sha.DW (8*b.length)).take y.1))::A::ak b3 (cl (wV S1.l) 156)::ak b2 (cl (dC Dg.zero) 29)::F) (0,a2,c2) (Nat.zero_le _) rfl (by simp only[List.take_zero,List.append_nil];exact cF) (by simp only[List.take_zero,List.append_nil];exact ad) ?_
  rintro⟨i,a3,c3⟩ hi ih
  simp only at hi
  have Rj:=hl3 i hi
  dsimp only
  refine go ?_
  refine aB zr zr ?_ ?_
  · intro dk
    have hi8:i<8:=by omega
    have O9:(Sha.DW (8*b.length)).take (i+1)=(Sha.DW (8*b.length)).take i++[UInt8.ofNat (8*b.length/2 ^ (56-8*i))]:=by
      rw[List.take_add_one];simp[Sha.DW,hi8]
    refine go ?_
    refine oD zr zr zr aj ?_
    refine au 46 ((.int .u64 ((8*b.length:Nat):Int))) rfl ((xC (x:=b.length) (q:=3) aj aj aj)) (go ?_)
    refine nG zr zr zr (by simp only[js];omega) ?_
    refine go ?_
    refine au 49 ((.int .i64 ((56-8*i:Nat):Int))) rfl ((congrArg (Value.int .i64) aj)) ?_
    refine iQ zr zr zr aj ?_
    ((refine au 50 ((.int .u64 ((8*b.length/2 ^ (56-8*i):Nat):Int))) rfl ((congrArg (Value.int .u64) (by rw[Int.toNat_natCast,show min (56-8*i) IntKind.u64.bits=56-8*i from by show min (56-8*i) 64=_;omega];simp))) ?_))
    refine jI ?_
    refine lB zr zr zr zr zr zr ?_
    refine au 51 ((u8 (UInt8.ofNat (8*b.length/2 ^ (56-8*i))))) rfl ((lG _)) ?_
    (refine az (cs:=bV [(UInt8.ofNat (8*b.length/2 ^ (56-8*i)))]) zr zr zr zr zr zr zr zr zr bO ?_;intro bA;refine bg (mm:=1) (news:=bV [(UInt8.ofNat (8*b.length/2 ^ (56-8*i)))]) 1 0 zr zr zr zr zr zr zr zr zr zr zr zr (Vw.ak rfl) rfl (dR _) (by(rw[Rj];omega)) (by show(_+_)*1≤_;(rw[Rj];omega)) (fun _=>rfl) bO ?_;intro vA;rw[show bV ((T0++(Sha.DW (8*b.length)).take i))++bV [(UInt8.ofNat (8*b.length/2 ^ (56-8*i)))]=bV (((T0++(Sha.DW (8*b.length)).take i))++[(UInt8.ofNat (8*b.length/2 ^ (56-8*i)))])from by simp[bV],show((T0++(Sha.DW (8*b.length)).take i)).length+1=(((T0++(Sha.DW (8*b.length)).take i))++[(UInt8.ofNat (8*b.length/2 ^ (56-8*i)))]).length from(@List.length_append _ ((T0++(Sha.DW (8*b.length)).take i)) [(UInt8.ofNat (8*b.length/2 ^ (56-8*i)))]).symm];((refine aN 1 rfl ?_));rintro aA cA rfl)
    rw[show T0++(Sha.DW (8*b.length)).take i++[UInt8.ofNat (8*b.length/2 ^ (56-8*i))]=T0++(Sha.DW (8*b.length)).take (i+1)from by rw[O9,List.append_assoc]]
    refine go ?_
    refine aQ ih (i+1,aA,cA) rfl (by simp only;omega) (by simp only;omega) cF ad
  intro fO
  have hi8:i=8:=by omega
  subst hi8
  clear ih
  have Rf:=Sha.MJ b
  rw[← hS1,← Tb]at Rf
  have ac4:B1++Sha.pad b.length=T0++(Sha.DW (8*b.length)).take 8:=by
    rw[hT0,List.take_of_length_le (by simp[Sha.DW])]
    unfold Sha.pad
    grind
  rw[ac4]at Rf
  generalize T0++(Sha.DW (8*b.length)).take 8=T at Rj Rf ⊢
  have agC:T.length%64=0:=by omega
  have hTl:T.length≤1000000200:=by omega
  clear Ri hl3 ac4 hT0 rX Tb Uz kH hz hz1 hz2 adI hS1 Rj
  have hl8:∀s:Sha.St,(wV s.l).length=8:=fun s=>rfl
  refine qG (bs:=T) 0 rfl ?_
  intro hvT
  have aeA:eU (Sep [aK 5 1 (.slice a3 T.length c3) T.length (bV T),A]) (.slice a3 T.length c3) T:=hvT.mono (aX (i:=0) rfl)
  have hK2:qI (Sep [aK 5 1 (.slice a3 T.length c3) T.length (bV T),A]):=hK.mono (aX (i:=1) rfl)
  refine al (aq.cg [_,_] _) (go ?_)
  refine bF (fun q:Nat=>q≤T.length/64) (fun q=>T.length/64-q)
    (fun q=>[(2,ptr b2),(3,ptr b3),(6,.slice a3 T.length c3),(8,.int .i64 ((64*q:Nat):Int))])
    (fun q=>Sep [aK 5 1 (.slice a3 T.length c3) T.length (bV T),A]::ak b3 (cl (wV (Sha.chunks S1 T q).l) 156)::ak b2 (cl (dC Dg.zero) 29)::F) 0 (Nat.zero_le _) rfl cF (by unfold Sha.chunks;exact ad) ?_
  rintro q hq ih
  refine go ?_
  refine aB zr zr ?_ ?_
  · intro dk
    have hq1:q<T.length/64:=by omega
    have kH:=aeA.cut (64*q) aj
    have om:=F9 _ hK2 _ _ kH (by rw[List.length_drop];omega) (Sha.chunks S1 T q)
    have rn:Sha.chunk (Sha.chunks S1 T q) (T.drop (64*q))=Sha.chunks S1 T (q+1):=by conv=>rhs;unfold Sha.chunks
    rw[rn]at om
    refine go ?_
    refine aO (fun w=>Sat G w ([ak b3 (cl (wV (Sha.chunks S1 T q).l) 156)])) (dM 0 4 (.act 4 (.act 5 .nil))) rfl aw aw aw dI ?_
    refine go ?_
    refine dv (U:=bh) 0 zr zr zr zr zr zr (go ?_)
    refine aU (p:=((64*q:Nat):Int)) (q:=(T.length:Int)) zr zr zr zr zr zr zr aj aj (.inl rfl) ?_
    refine au 64 ((.slice (sliceAt a3 c3 (64*q) 1) (T.length-64*q) (c3-64*q))) rfl (rfl) ?_
    refine Vd om ?_
    unfold stV
    refine bE ?_
    refine gp (U:=bh) 1 eH rfl rfl rfl rfl (by intro e;have:=congrArg List.length e;rw[hl8]at this;cases this) (tD _) rfl (by rw[hl8,hl8]) rfl ?_
    refine go ?_
    refine aE 8 ((.int .i64 ((64*(q+1):Nat):Int))) rfl ((congrArg (Value.int .i64) aj)) ?_
    refine aQ ih (q+1) rfl aj aj cF ad
  intro fO
  have VI:q=T.length/64:=by omega
  subst VI
  rw[← Rf]
  have tM:(fz b).bs=Sha.out (Sha.chunks Sha.start (Sha.msg b) ((Sha.msg b).length/64)):=Tl b
  clear Rf ih
  generalize Sha.chunks Sha.start (Sha.msg b) ((Sha.msg b).length/64)=S2 at tM ⊢
  refine al (aq.cR _ _) (go ?_)
  refine aL zr zr zr bO ?_
  intro b9
  refine go ?_
  have hol:=Sha.Lv S2
  have NY:∀i,i≤32→((Sha.out S2).take i++List.replicate (32-i) (0:UInt8)).length=32:=fun i hi=>by
    grind
  refine bF (fun i:Nat=>i≤32) (fun i=>32-i)
    (fun i=>[(2,ptr b2),(3,ptr b3),(9,ptr b9),(66,.int .i64 (i:Int))])
    (fun i=>ak b9 (cl (bV ((Sha.out S2).take i++List.replicate (32-i) (0:UInt8))) 29)::ak b3 (cl (wV S2.l) 156)::ak b2 (cl (dC Dg.zero) 29)::A::F) 0 (Nat.zero_le _) rfl cF ad ?_
  rintro i hi ih
  refine go ?_
  refine aB zr zr ?_ ?_
  · intro dk
    have E0:i<32:=by omega
    have hq4:(i:Int)/4=((i/4:Nat):Int):=by omega
    have hr4:24-8*((i:Int)%4)=((24-8*(i%4):Nat):Int):=by omega
    have hwg:(wV S2.l)[i/4]?=some (u32 (S2.l.getD (i/4) 0)):=rq (by rw[List.getD_eq_getElem?_getD,List.getElem?_eq_getElem (show i/4<S2.l.length from by show i/4<8;omega)];rfl)
    have np:(Sha.out S2)[i]?=some (UInt8.ofNat ((S2.l.getD (i/4) 0) >>> (24-8*(i%4))).toNat):=by simp[Sha.out,E0]
    (repeat(first|refine g9 ?_|refine zh zr zr zr aj aj (by simp only[js];omega) ?_|refine uy zr zr zr aj aj ?_|refine nG zr zr zr (by simp only[js];omega) ?_|refine kT (U:=bh) (i/4) zr zr zr zr zr zr zr hq4 aj ?_|(refine aY ?_;refine BY (U:=bh) 1 (i/4) zr zr zr (Nat.zero_add _) hwg zr zr ?_)|refine FH (24-8*(i%4)) zr zr zr hr4 aj ?_|(refine jI ?_;refine ON (U:=bh) zr zr zr zr zr zr ?_)|refine kT (U:=bh) i zr zr zr zr zr zr zr zr E0 ?_))
    refine bE ?_
    refine n9 (U:=bh) 0 eH zr zr zr zr zr zr zr (by rw[bN,NY i aj];omega) rfl ?_
    rw[show 0+i=i from Nat.zero_add _,P3 hol np]
    refine go ?_
    refine aQ ih (i+1) rfl aj aj cF ad
  intro fO
  have E0:i=32:=by omega
  subst E0
  rw[List.take_of_length_le aj,show 32-32=0 from rfl,List.replicate_zero,List.append_nil,← tM,← fg]
  clear ih NY hol tM
  have hd:(dC (fz b)).length=32:=rfl
  have gD:jV (dC (fz b))=true:=by rw[fg];exact lz _
  have hdv:dV (fz b) = .agg (dC (fz b)).toArray:=rfl
  rw[hdv]at hE
  generalize dC (fz b)=cs at hd gD hE ⊢
  refine go ?_
  refine aW (U:=bh) 0 zr zr zr zr zr hd ?_
  refine gp (U:=bh) 2 eH rfl rfl rfl hd (by intro e;rw[e]at hd;cases hd) gD rfl (by rw[hd];rfl) rfl ?_
  refine go ?_
  refine qH (U:=bh) 2 hE Tryz.func23 zr zr zr zr zr hd rfl ⟨rfl,rfl⟩ ad
end Go.Proofs.YtlionahpheehaaaGreatDoor
namespace Go.Proofs.YtlionahpheehaaaGreatDoor
open Go Go.SL
def xh(A:HP)(v:Value)(ls:List (List UInt8)):Prop:=∃cs:List Value,Vw A v ls.length cs∧cs.length=ls.length∧(∃a c,v = .slice a ls.length c∧ls.length≤c)∧∀(i:Nat) (x:List UInt8),ls[i]?=some x→∃cv,cs[i]?=some cv∧eU A cv x
def xh.row{X:HP}{b:Nat}{e:TypeId}{n:Nat}{cs:List Value}{ls:List (List UInt8)}(hn:ls.length=n)(hc:cs.length=n)(h:∀(i:Nat) (x:List UInt8),ls[i]?=some x→∃cv,cs[i]?=some cv∧eU X cv x) :
  xh (Sep [ak b (cl cs e),X]) (.slice (some ⟨b,0,none⟩) n n) ls:=by
 subst hn
 refine⟨cs,(Vw.ak (by rw[List.drop_zero,List.take_length])).mono (aX (i:=0) rfl),hc,⟨_,_,rfl,Nat.le_refl _⟩,fun i x hx=>?_⟩
 obtain⟨cv,h1,h2⟩:=h i x hx
 exact⟨cv,h1,h2.mono (aX (i:=1) rfl)⟩
end Go.Proofs.YtlionahpheehaaaGreatDoor
namespace Go.SL
open Go
inductive ae(P:Program)(U:Tr)(L:gh)(H:List HP):List ResultVar→List Value→Prop where
 | nil:ae P U L H [] []
 | tmp {q:Nat} {u:Value} {rs:List ResultVar} {us:List Value} (hq:dU L q=some u) (h:ae P U L H rs us):ae P U L H (.tmp q::rs) (u::us)
 | agg {p b:Nat} {t e:TypeId} {cd:Ty} {cs:List Value} {rs:List ResultVar} {us:List Value} (i:Nat) (hp:dU L p=some (.pointer (some ⟨b,0,none⟩))) (ht:U.get t=some cd) (hg:cd.isAgg=true) (hi:cD H i=some (ak b (cl cs e))) (hl:cs.length=cd.info.size) (h:ae P U L H rs us):ae P U L H (.cell p t::rs) (.agg cs.toArray::us)
 | one {p b:Nat} {t e:TypeId} {cd:Ty} {u:Value} {rs:List ResultVar} {us:List Value} (i:Nat) (hp:dU L p=some (.pointer (some ⟨b,0,none⟩))) (ht:U.get t=some cd) (hg:cd.isAgg=false) (hi:cD H i=some (ak b (cl [u] e))) (h:ae P U L H rs us):ae P U L H (.cell p t::rs) (u::us)
def ae.run{P:Program}{U:Tr}[hU:gF P U]{n:Nat}{G:cL}{L:gh}{H:List HP}{a:Act}{w:World}(ha:Has n L a)(hw:Sat G w H):∀ {rs us},ae P U L H rs us→(rs.mapM (Cp a.tmps)).run P w = .ok us w:=by
 intro rs us h
 induction h with
 | nil=>simp
 | @tmp q u rs us hq h ih =>
  have g2:a.tmps.getD q undef=u:=by rw[Array.getD_eq_getD_getElem?,ha.2.2 _ _ hq];rfl
  simp only[List.mapM_cons,Sem.run_bind,Cp,g2,Sem.run_pure,Result.andThen_ok,ih]
 | @agg p b t e cd cs rs us i hp ht hg hi hl h ih =>
  have hc:∀j v,cs[j]?=some v→w.cell? ⟨b,0+j,none⟩=some v:=fun j v hj=>by rw[dD (hw.q9 hi),Nat.zero_add];exact hj
  have Rm:=gZ (P:=P) (w:=w) ht hg hl hc
  have Rl:(loadVar t ⟨b,0,none⟩).run P w = .ok (.agg cs.toArray) w:=by simpa[Instr.loadAt,Instr.sureAddr]using Rm
  have g1:a.tmps.getD p undef = .pointer (some ⟨b,0,none⟩):=by simp[Array.getD_eq_getD_getElem?,ha.2.2 p _ hp]
  simp only[List.mapM_cons,Sem.run_bind,Cp,g1,asAddr,Sem.run_pure,Result.andThen_ok,Rl,ih]
 | @one p b t e cd u rs us i hp ht hg hi h ih =>
  have g1:=Ar (P:=P) i ha hw hp ht hg hi
  simp_all
def bH{P:Program}{U:Tr}[hU:gF P U]{f:FuncId}{n:Nat}{R:Ending→World→Prop}{G:cL}{ds:List Nat}{k k0:List Item}{L:gh}{H H':List HP}{fn:Func}{F:List HP}{Post:Value→List HP→Prop}{us:List Value}{Hq:List HP}(hR:Ends R G F Post)(hf:P.funcs[f]?=some fn)(hk:iq 1000 k0 = .mk (.code .ret::k))(he:aq H (ds.map (fun r=>ak r (.deferred (some [])))++H'))(hr:ae P U L H' fn.results.toList us)(dQ:Post (dt us) Hq)(Hu:aq H' (Hq++F)):K P f n R { G with ds:=ds } k0 L H:=by
 refine Sj hR hf hk he (fun a w ha hw=>?_) dQ Hu
 have h1:=hr.run (P:=P) ha hw
 rw[m9,Array.mapM_eq_mapM_toList]
 simp only[Sem.run_bind,Sem.run_map,h1,Sem.run_pure,Result.andThen_ok]
 match us with
 | []=>simp[dt]
 | [v]=>simp[dt]
 | v::u::vs=>simp[dt]
section
variable{P:Program}{U:Tr}[hU:gF P U]{f:FuncId}{n:Nat}{R:Ending→World→Prop}{G:cL}{k:List Item}{L:gh}{H H':List HP}{S:World→Prop}{all:Array Oper}{rest:Pl}{ty:TypeId}{pos:String}{af:Array Edge}{gd:Option (Nat × Bool)}{m:Bool}{d:Tmp}
theorem OI{t elem:TypeId}{cd te:Ty}{x lo hi mx:Operand}{a0:Option Addr}{len cap:Nat}{p q r:Int}{j1 j2 j3:IntKind}(hd:Nat.blt d n=true)(ht:U.get t=some cd)(hu:cd.gx = .slice elem)(he:U.get elem=some te)(hx:ev L x=some (.slice a0 len cap))(xX:ev L lo=some (.int j1 p))(Bh:ev L hi=some (.int j2 q))(hmx:ev L mx=some (.int j3 r))(h0:0≤p)(LW:p≤q)(hqr:q≤r)(LR:r≤(cap:Int))(h:J P f n R G S all rest k ((d,.slice (sliceAt a0 r.toNat p.toNat te.info.size) (q.toNat-p.toNat) (r.toNat-p.toNat))::L) H) :
  J P f n R G S all (.cons m true ⟨some d,.slice t x (some lo) (some hi) (some mx),ty,pos,af,gd⟩ rest) k L H:=by
 refine dK hd (fun a ha w=>?_) h
 have hb:(Instr.sliceBounds true len cap (some (a.eval lo)) (some (a.eval hi)) (some (a.eval mx))).run P w = .ok (p.toNat,q.toNat,r.toNat) w:=by
  unfold Instr.sliceBounds
  have e1:0≤r∧r≤(cap:Int):=⟨aj,LR⟩
  have e2:0≤q∧q≤((r.toNat:Nat):Int):=⟨aj,aj⟩
  have e3:0≤p∧p≤((q.toNat:Nat):Int):=⟨aj,aj⟩
  have e4:q≤max r 0:=by omega
  have e5:p≤max q 0:=by omega
  have e6:0≤q:=by omega
  simp[ha.ev xX,ha.ev Bh,ha.ev hmx,Instr.sliceBound,asIntOf,e1,e2,e3,e4,e5,e6,h0]
 simp only[execOp,ha.ev hx,Instr.sliceAt,Sem.run_bind,run_underlying ht,Result.andThen_ok,hu,Instr.slice,Option.map_some,hb,run_sizeOf he,Sem.run_pure,sliceAt]
 grind
end
end Go.SL
