import Derived.Test.YtnkfkabokmcgoaaGreatDoorQNQ2
import Derived.Test.YtnkfkabokmcgoaaGreatDoorQNQ3
import Derived.Test.YtnkfkabokmcgoaaGreatDoorQNQ4
import Derived.Test.YtnkfkabokmcgoaaGreatDoorQNQ5
set_option linter.unusedSimpArgs false
set_option linter.unusedVariables false
set_option maxRecDepth 20000
set_option linter.defProp false
namespace Go.Proofs.YtnkfkabokmcgoaaGreatDoor
open Go Go.SL
variable{A:Ab}{k:ByteArray}{files:List (Nat × Value × Value)}{H:List HP}{f i:Nat}{v v1 v2:Value}{w:World}{G:bY}
attribute [local irreducible] J K aq Ends ag aI aC bF aW aP a6
def eB(l:List (ByteArray × Nat)):List (ByteArray × Value):=l.map fun x=>(x.1,ptr x.2)
structure Dk where
 room:Nat
 bm:Nat
 ke:Value
 mK:Value
 nr:Value
 off:Bool
 maps:List (Nat × List (ByteArray × Value))
 eJ:eV
 files:List (Nat × Value × Value)
 kf:List Nat
 wl:List (Nat × Nat × Value)
def lz(x:Nat × List (ByteArray × Value)):HP:=aC Value.string x.1 x.2
def fG(x:Nat × Value × Value):HP:=ag x.1 (cl [x.2.1,x.2.2] 326)
def dO(l:List (Nat × Nat × Value)):List Value:=l.flatMap fun x=>[ptr x.1,.int .i64 x.2.1,x.2.2]
def Ot(bd:Nat)(D:Dk):List HP :=
  [ag bd (cl [.int .i64 D.room,.map (some D.bm),D.ke,D.mK,D.nr,.bool D.off] 62),aP lz D.maps,a6 5 D.eJ,aP fG D.files,
   aI 58 1 D.ke D.kf.length (D.kf.map fun b => .map (some b)),aI 370 3 D.mK D.wl.length (dO D.wl)]
def fI(bd:Nat)(D:Dk):HP:=Sep (Ot bd D)
def gS(bd room bm:Nat)(ke mK nr:Value)(off:Bool)(maps:List (Nat × List (ByteArray × Value)))(eJ:eV)(files:List (Nat × Value × Value))(kf:List Nat)(wl:List (Nat × Nat × Value))(H:List HP) :
  ao (fI bd ⟨room,bm,ke,mK,nr,off,maps,eJ,files,kf,wl⟩::H)
   (ag bd (cl [.int .i64 room,.map (some bm),ke,mK,nr,.bool off] 62)::aP lz maps::a6 5 eJ::aP fG files::aI 58 1 ke kf.length (kf.map fun b => .map (some b))::aI 370 3 mK wl.length (dO wl)::H):=ao.cX _ _
def de(bd room bm:Nat)(ke mK nr:Value)(off:Bool)(maps:List (Nat × List (ByteArray × Value)))(eJ:eV)(files:List (Nat × Value × Value))(kf:List Nat)(wl:List (Nat × Nat × Value))(H:List HP) :
  ao (ag bd (cl [.int .i64 room,.map (some bm),ke,mK,nr,.bool off] 62)::aP lz maps::a6 5 eJ::aP fG files::aI 58 1 ke kf.length (kf.map fun b => .map (some b))::aI 370 3 mK wl.length (dO wl)::H)
   (fI bd ⟨room,bm,ke,mK,nr,off,maps,eJ,files,kf,wl⟩::H):=ao.cd (Ot bd ⟨room,bm,ke,mK,nr,off,maps,eJ,files,kf,wl⟩) H
structure Rel(D:Dk)(A:Ab):Prop where
 room:D.room=A.room
 off:D.off=A.off
 names:(D.bm,eB A.names)∈D.maps
 aR:eY (fun b es=>(b,eB es)∈D.maps) D.kf A.aR
 fs:eY (fun x y=>x.1=y.1∧kV D.eJ x.2.1 y.2.1∧kV D.eJ x.2.2 y.2.2) D.files A.fs
 writes:eY (fun x y=>x.1=y.1∧x.2.1=y.2.1∧kV D.eJ x.2.2 y.2.2) D.wl A.writes
 cZ:kV D.eJ D.nr A.cZ
 ids:(A.fs.map (·.1)).Nodup
 known:∀st∈A.names::A.aR,∀x∈st,x.2∈A.fs.map (·.1)
 gl:∀x∈A.writes,x.1∈A.fs.map (·.1)
 nodup:∀st∈A.names::A.aR,(st.map (·.1)).Nodup
 fC:∀x∈A.fs,x.2.1.length≤1048576∧x.2.2.length≤1048576
 gM:∀x∈A.writes,x.2.1+x.2.2.length≤1048576
 eA:∀st∈A.names::A.aR,st.length≤200
 gk:A.room≤1073741824
 ji:A.cZ.length≤1000000000
 full:A.aR≠[]
def Rel.Mh{D:Dk}(h:Rel D A){p:List UInt8}(o:Bool)(hp:kV D.eJ v p)(hl:p.length≤1000000000):Rel { D with nr:=v,off:=o } { A with cZ:=p,off:=o } :=
 ⟨h.room,rfl,h.names,h.aR,h.fs,h.writes,hp,h.ids,h.known,h.gl,h.nodup,h.fC,h.gM,h.eA,h.gk,hl,h.full⟩
def Rel.I8{D:Dk}(h:Rel D A){p:List UInt8}(hp:kV D.eJ v p)(hl:p.length≤1000000000):Rel { D with nr:=v } { A with cZ:=p } :=
 ⟨h.room,h.off,h.names,h.aR,h.fs,h.writes,hp,h.ids,h.known,h.gl,h.nodup,h.fC,h.gM,h.eA,h.gk,hl,h.full⟩
def ui(bd:Nat)(D:Dk)(A:Ab)(hR:Rel D A)(may:Bool) :
  aq Tryz.prog 119 [ptr bd,.bool may] [fI bd D] (fun v H=>∃D',Rel D' (A.meet may).2∧H=[fI bd D']∧v = .int .i64 (A.meet may).1):=by
 obtain⟨room,bm,ke,mK,nr,off,maps,eJ,files,kf,wl⟩:=D
 obtain⟨a,cap,Cn,gg⟩:=hR.cZ.shape
 simp only at Cn
 subst Cn
 have iq:=hR.off
 simp only at iq
 refine aq.aj Tryz.func119 Tryz.ntmps119 fun G F R hE=>?_
 refine ak (gS _ _ _ _ _ _ _ _ _ _ _ _ _) ?_
 cases may with
 | false =>
  refine go ?_
  refine aG hE Tryz.func119 rfl _ rfl ⟨_,hR,rfl,rfl⟩ ((ao.pick [0,1,2,3,4,5] rfl).trans (de _ _ _ _ _ _ _ _ _ _ _ _ _))
 | true =>
  cases off with
  | true =>
   have hm:A.meet true=(7,A):=by simp[Ab.meet,← iq]
   rw[hm]at hE
   refine go ?_
   refine aG hE Tryz.func119 rfl _ rfl ⟨_,hR,rfl,rfl⟩ ((ao.pick [0,1,2,3,4,5] rfl).trans (de _ _ _ _ _ _ _ _ _ _ _ _ _))
  | false =>
   refine go ?_
   refine dj zr zr ?_ ?_
   ·intro h0
    have mU:A.cZ=[]:=List.eq_nil_of_length_eq_zero (by have:=of_decide_eq_true h0;omega)
    have hm:A.meet true=(0,A):=by simp[Ab.meet,← iq,mU]
    rw[hm]at hE
    refine go ?_
    refine aG hE Tryz.func119 rfl _ rfl ⟨_,hR,rfl,rfl⟩ ((ao.pick [0,1,2,3,4,5] rfl).trans (de _ _ _ _ _ _ _ _ _ _ _ _ _))
   ·intro h0
    obtain⟨x,p,LS⟩:∃x p,A.cZ=x::p:=by
     cases h:A.cZ with
     | nil=>rw[h]at h0;simp at h0
     | cons x p=>exact⟨x,p,rfl⟩
    have hm:A.meet true=if x=1 then(6,{ A with cZ:=p })else if x=2 then(7,{ A with cZ:=p,off:=true })else(0,{ A with cZ:=p }):=by simp[Ab.meet,← iq,LS]
    have V8:kV eJ (.slice a A.cZ.length cap) (x::p):=by have:=hR.cZ;rw[LS]at this;rw[LS];exact this
    have hlen:A.cZ.length=p.length+1:=by rw[LS];rfl
    have pj:=hR.ji
    obtain⟨b,o,eX,dW⟩:=(V8.view 5).some (by simp[bV])
    simp only[Value.slice.injEq]at dW
    obtain⟨rfl,_,rfl⟩:=dW
    refine go ?_
    refine bC 0 zr zr zr zr zr zr zr zr ai ?_
    refine s9 (U:=aU) 2 zr zr zr (Vw.cell (cap:=cap) (n:=(x::p).length) (cs:=bV (x::p)) (by rw[← LS];exact hR.cZ.view _) (c:=u8 x) (by simp[bV])) zr zr ?_
    refine go ?_
    refine hD zr zr zr zr zr zr zr ai ai (.inl rfl) ?_
    intro o' Fe _
    have hn:(A.cZ.length:Int).toNat-(1:Int).toNat=p.length:=by omega
    rw[hn]
    have hp:kV eJ (.slice (some ⟨b,o',none⟩) p.length (cap-(1:Int).toNat)) p:=V8.tail o' _ (fun fy=>Fe (by
     have:0<p.length:=List.length_pos_iff.2 fy
     omega)) ai
    have hoA:A.off=false:=iq.symm
    have hR1:=hR.I8 hp ai
    have Nd:=hR.Mh true hp ai
    clear V8 hp Fe
    refine go ?_
    refine au zr zr ?_ ?_
    ·intro hx
     have hx1:x=1:=IN hx
     rw[hm,if_pos hx1]at hE
     refine go ?_
     refine aG hE Tryz.func119 rfl _ rfl ⟨_,hR1,rfl,rfl⟩ ((ao.pick [0,1,2,3,4,5] rfl).trans (de _ _ _ _ _ _ _ _ _ _ _ _ _))
    ·intro hx
     have hx1:x≠1:=fun h=>hx (by rw[h];rfl)
     refine go ?_
     refine au zr zr ?_ ?_
     ·intro hy
      have AW:x=2:=IN hy
      rw[hm,if_neg hx1,if_pos AW]at hE
      refine go ?_
      refine aG hE Tryz.func119 rfl _ rfl ⟨_,Nd,rfl,rfl⟩ ((ao.pick [0,1,2,3,4,5] rfl).trans (de _ _ _ _ _ _ _ _ _ _ _ _ _))
     ·intro hy
      have AW:x≠2:=fun h=>hy (by rw[h];rfl)
      rw[hm,if_neg hx1,if_neg AW]at hE
      refine go ?_
      refine aG hE Tryz.func119 rfl _ rfl ⟨_,hR1,rfl,rfl⟩ ((ao.pick [0,1,2,3,4,5] rfl).trans (de _ _ _ _ _ _ _ _ _ _ _ _ _))
theorem mi(l:List (ByteArray × Nat))(name:ByteArray):cw (eB l) name=(Ab.cQ l name).map ptr:=by
 unfold cw Ab.cQ eB
 induction l with
 | nil=>rfl
 | cons x l ih =>
  grind
def il{maps:List (Nat × List (ByteArray × Value))}{b:Nat}{es:List (ByteArray × Value)}(hs:Sat G w H)(hi:bS H i=some (aP lz maps))(hm:(b,es)∈maps) :
  ∃o,mL Value.string o es∧w.heap[b]?=some o:=by
 obtain⟨h,hh,hA⟩:=hs.jG hi
 obtain⟨h',s,hb⟩:=wO hm hA
 unfold lz aC at hb
 obtain⟨o,ho,hp⟩:=hb
 unfold ag at hp
 exact⟨o,ho,hh b o (s b o (by rw[hp b];simp))⟩
def vY:iz Tryz.prog 9 Value.string:=J6 Tryz.underlying9
def Vd:Option Nat→Value
 | none => .pointer none
 | some f=>ptr f
def iv(bd:Nat)(D:Dk)(A:Ab)(hR:Rel D A)(name:ByteArray)(may:Bool) :
  aq Tryz.prog 211 [ptr bd,.string name,.bool may] [fI bd D] (fun v H=>∃D',Rel D' (A.find name may).2.2∧H=[fI bd D']∧v = .tuple #[Vd (A.find name may).2.1,.int .i64 (A.find name may).1]):=by
 refine aq.aj Tryz.func211 Tryz.ntmps211 fun G F R hE=>?_
 refine go ?_
 refine bR [0] zr zr zr zr (ui bd D A hR may) rfl iE ?_
 rintro _ _⟨D',eM,rfl,rfl⟩
 refine go ?_
 refine dj zr zr ?_ ?_
 ·intro h0
  have mU:¬(A.meet may).1=0:=by have:=of_decide_eq_true h0;omega
  have hf:A.find name may=((A.meet may).1,none,(A.meet may).2):=by simp[Ab.find,mU]
  rw[hf]at hE
  refine go ?_
  refine aG hE Tryz.func211 rfl _ rfl ⟨D',eM,rfl,rfl⟩ (ao.pick [0] rfl)
 ·intro h0
  have mU:(A.meet may).1=0:=by have:=of_decide_eq_false h0;omega
  obtain⟨room,bm,ke,mK,nr,off,maps,eJ,files,kf,wl⟩:=D'
  refine ak (gS _ _ _ _ _ _ _ _ _ _ _ _ _) (go ?_)
  refine n9 (U:=aU) rfl vY zr zr zr zr zr zr zr (fun w hw=>il (i:=1) hw rfl eM.names) ?_
  rw[mi]
  cases hl:Ab.cQ (A.meet may).2.names name with
  | none =>
   have hf:A.find name may=(4,none,(A.meet may).2):=by simp[Ab.find,mU,Ab.look,hl]
   rw[hf]at hE
   refine go ?_
   refine aG hE Tryz.func211 rfl _ rfl ⟨_,eM,rfl,rfl⟩ ((ao.pick [0,1,2,3,4,5] rfl).trans (de _ _ _ _ _ _ _ _ _ _ _ _ _))
  | some fl =>
   have hf:A.find name may=(0,some fl,(A.meet may).2):=by simp[Ab.find,mU,Ab.look,hl]
   rw[hf]at hE
   refine go ?_
   refine aG hE Tryz.func211 rfl _ rfl ⟨_,eM,rfl,rfl⟩ ((ao.pick [0,1,2,3,4,5] rfl).trans (de _ _ _ _ _ _ _ _ _ _ _ _ _))
theorem DU{α:Type}{l:List (Nat × α)}(hn:(l.map (·.1)).Nodup){x:α}(hi:l[i]?=some (f,x)):(l.find? fun x=>decide (x.1=f))=some (f,x):=by
 induction l generalizing i with
 | nil=>simp at hi
 | cons y l ih =>
  grind
def Rel.file{D:Dk}(h:Rel D A)(hf:f∈A.fs.map (·.1)):∃(i:Nat) (v1 v2:Value),D.files[i]?=some (f,v1,v2)∧A.fs[i]?=some (f,A.now f,A.sure f)∧kV D.eJ v1 (A.now f)∧kV D.eJ v2 (A.sure f):=by
 obtain⟨⟨f',n,s⟩,hm,rfl⟩:=List.mem_map.1 hf
 obtain⟨i,hi⟩:=List.getElem?_of_mem hm
 obtain⟨⟨f2,v1,v2⟩,hx,h1,h2,h3⟩:=h.fs.right hi
 simp only at h1 h2 h3
 subst h1
 have xG:A.file f2=(n,s):=by unfold Ab.file;rw[DU h.ids hi];rfl
 refine⟨i,v1,v2,hx,?_,?_,?_⟩
 ·rw[hi];simp[Ab.now,Ab.sure,xG]
 ·simpa[Ab.now,xG]using h2
 ·simpa[Ab.sure,xG]using h3
def Rel.small{D:Dk}(h:Rel D A)(f:Nat):(A.now f).length≤1048576∧(A.sure f).length≤1048576:=by
 unfold Ab.now Ab.sure Ab.file
 cases hf:A.fs.find? fun x=>decide (x.1=f)with
 | none=>simp
 | some x=>simpa using h.fC x (List.mem_of_find?_eq_some hf)
def uN{j:Nat}(hs:Sat G w H)(hi:bS H i=some (aP fG files))(hm:files[j]?=some (f,v1,v2)) :
  w.heap[f]?=some (cl [v1,v2] 326):=by
 obtain⟨h,hh,hA⟩:=hs.jG hi
 obtain⟨h',s,hb⟩:=wO (List.mem_of_getElem? hm) hA
 unfold fG ag at hb
 exact hh f _ (s f _ (by rw[hb f];simp))
def qc{j:Nat}(hs:Sat G w H)(hi:bS H i=some (aP fG files))(hm:files[j]?=some (f,v1,v2)) :
  w.cell? ⟨f,0,none⟩=some v1:=by rw[cH (uN hs hi hm)];rfl
theorem uk{l:List (ByteArray × Nat)}(hn:(l.map (·.1)).Nodup)(h:(k,f)∈l):Ab.cQ l k=some f:=by
  obtain⟨i,hi⟩:=List.getElem?_of_mem h
  have:cw (l.map fun x=>(x.1,Value.int .i64 x.2)) k=some (.int .i64 f):=yd (i:=i) (by simp[hi]) (fun j hj he=>by
    rw[List.map_map]at he
    have h1:(l.map (·.1))[j]?=(l.map (·.1))[i]? := by
      grind
    have:=(List.getElem?_inj (by
      rcases Nat.lt_or_ge j (l.map (·.1)).length with h|h
      · exact h
      · rw[List.getElem?_eq_none h]at h1;simp[hi]at h1) hn).1 h1
    omega)
  unfold cw at this
  unfold Ab.cQ
  rw[List.find?_map]at this
  simp only[Option.map_map]at this
  cases hx:l.find? fun x=>decide (x.1=k)with
  | none => have e : (l.find? ((fun x => decide (x.1 = k)) ∘ fun x => (x.1, Value.int IntKind.i64 (x.2 : Nat)))) = none := hx
            rw[e]at this;cases this
  | some y => 
    have e:(l.find? ((fun x=>decide (x.1=k)) ∘ fun x=>(x.1,Value.int IntKind.i64 (x.2:Nat))))=some y:=hx
    grind
theorem ny{l:List (ByteArray × Nat)}(h:Ab.cQ l k=some f):(k,f)∈l:=by
 unfold Ab.cQ at h
 cases hx:l.find? fun x=>decide (x.1=k)with
 | none=>rw[hx]at h;cases h
 | some y =>
  grind
def lenOf(A:Ab)(k:ByteArray):Nat:=(A.look k).elim 0 fun f=>(A.now f).length
def sumOf(A:Ab)(l:List ByteArray):Nat:=(l.map (lenOf A)).sum
theorem Ag(h:∀f,(A.now f).length≤1048576)(l:List ByteArray):sumOf A l≤l.length*1048576:=by
 induction l with
 | nil=>simp[sumOf]
 | cons k l ih =>
  have h1:lenOf A k≤1048576:=by unfold lenOf;cases A.look k with|none=>simp|some f=>exact h f
  grind [sumOf]
def Dm{α:Type}[DecidableEq α]{l r:List α}(h1:l.Nodup)(h2:r.Nodup)(h:∀x,x∈l↔x∈r):l.Perm r:=(List.perm_ext_iff_of_nodup h1 h2).2 h
theorem xl{α:Type}[DecidableEq α]{l r:List α}(h1:l.Nodup)(h:∀x∈l,x∈r):l.length≤r.length:=by
 induction l generalizing r with
 | nil=>simp
 | cons x l ih =>
  simp only[List.nodup_cons]at h1
  have:=ih (r:=r.erase x) h1.2 (fun y hy=>(List.mem_erase_of_ne (by rintro rfl;exact h1.1 hy)).2 (h y (by simp[hy])))
  grind
def tC(hn:(A.names.map (·.1)).Nodup):sumOf A (A.names.map (·.1))=A.used:=by
 unfold sumOf Ab.used
 rw[List.map_map]
 congr 1
 apply List.map_congr_left
 rintro⟨k,f⟩ hx
 have:A.look k=some f:=uk hn hx
 simp[lenOf,this]
theorem K5(bd:Nat)(D:Dk)(A:Ab)(hR:Rel D A) :
  aq Tryz.prog 277 [ptr bd] [fI bd D] (fun v H=>H=[fI bd D]∧v = .int .i64 A.used):=by
 obtain⟨room,bm,ke,mK,nr,off,maps,eJ,files,kf,wl⟩:=D
 refine aq.aj Tryz.func277 Tryz.ntmps277 fun G F R hE=>?_
 refine ak (gS _ _ _ _ _ _ _ _ _ _ _ _ _) (go ?_)
 obtain⟨j,hj⟩:=List.getElem?_of_mem hR.names
 simp only at hj
 refine aS (ao.pick [1] rfl) ?_
 refine aS (jI lz hj _) ?_
 refine kT (kv:=Value.string) (es:=eB A.names) (U:=aU) 0 zr zr zr zr zr (fun _=>rfl) bh ?_
 intro it
 refine go ?_
 have gp:=hR.nodup _ (List.mem_cons_self ..)
 have Fg:(eB A.names).map (·.1)=A.names.map (·.1):=by simp[eB,Function.comp_def]
 refine bn (fun dn:List ByteArray=>dn.Nodup∧∀x∈dn,x∈A.names.map (·.1)) (fun dn=>A.names.length-dn.length)
  (fun dn=>[(3,.int .i64 (sumOf A dn)),(10,.pointer (some ⟨it,0,none⟩))])
  (fun dn=>bF Value.string bm it (eB A.names) dn::aP lz (maps.eraseIdx j)::ag bd (cl [.int .i64 room,.map (some bm),ke,mK,nr,.bool off] 62)::a6 5 eJ::aP fG files::aI 58 1 ke kf.length (kf.map fun b => .map (some b))::aI 370 3 mK wl.length (dO wl)::F)
  [] ⟨List.nodup_nil,by simp⟩ rfl bQ (ao.refl _) ?_
 rintro dn⟨lO,cu⟩ ih
 have hlen:=xl lO cu
 have hb:=Ag (fun f=>(hR.small f).1) dn
 have hN:=hR.eA _ (List.mem_cons_self ..)
 rw[List.length_map]at hlen
 refine go ?_
 refine n5 (kv:=Value.string) (es:=eB A.names) 0 rfl vY.inj zr zr (fun _=>rfl) eW bh ?_ ?_
 ·intro dX
  refine go ?_
  have hp:sumOf A dn=A.used:=by
   rw[← tC gp]
   refine List.Perm.sum_nat ((Dm lO gp fun x=>⟨cu x,fun hx=>?_⟩).map _)
   grind
  refine ak ((ao.head (B:=[lz (bm,eB A.names)]) (fun h hs=>by obtain⟨h',s,hm⟩:=gX h hs;exact⟨h',s,cV hm⟩)).trans (pL lz hj _)) ?_
  rw[hp]
  refine aG hE Tryz.func277 rfl _ rfl ⟨rfl,rfl⟩ ((ao.pick [1,0] rfl).trans ((ao.pick [0,1,2,3,4,5] rfl).trans (de _ _ _ _ _ _ _ _ _ _ _ _ _)))
 ·intro key v dF js
  obtain⟨⟨k',f⟩,hx,Io⟩:=List.mem_map.1 dF
  simp only[Prod.mk.injEq]at Io
  obtain⟨rfl,rfl⟩:=Io
  refine go ?_
  refine kU (kv:=Value.string) (es:=eB A.names) 0 rfl vY.inj zr zr dF (go ?_)
  obtain⟨i,v1,v2,hi,Bb,lB,p5⟩:=hR.file (hR.known _ (List.mem_cons_self ..) _ hx)
  obtain⟨a,cap,rfl,gg⟩:=lB.shape
  refine tk (U:=aU) zr zr (fun w hw=>qc (i:=4) hw rfl hi) zr zr ?_
  have A9:A.look k'=some f:=uk gp hx
  have hl:lenOf A k'=(A.now f).length:=by simp[lenOf,A9]
  have pj:=(hR.small f).1
  have hmk:k'∈A.names.map (·.1):=List.mem_map.2 ⟨_,hx,rfl⟩
  have Oi:(k'::dn).Nodup:=List.nodup_cons.2 ⟨js,lO⟩
  have xA:∀x∈k'::dn,x∈A.names.map (·.1):=fun x hx=>by
   grind
  have uB:=xl Oi xA
  rw[List.length_map,List.length_cons]at uB
  refine go ?_
  refine aV 3 (.int .i64 (sumOf A (k'::dn))) rfl (congrArg (Value.int .i64) (by simp only[sumOf,List.map_cons,List.sum_cons,hl];omega)) ?_
  refine aK ih (k'::dn) rfl ⟨Oi,xA⟩ (by show _-(_+1)<_;omega) bQ (ao.refl _)
def vV(b:Nat)(es:List (ByteArray × Value)) :
  aq Tryz.prog 314 [.map (some b)] [aC Value.string b es] (fun v H=>∃b',v = .map (some b')∧H=[aC Value.string b' es,aC Value.string b es]):=by
 refine aq.enter Tryz.func314 ae rfl Tryz.ntmps314 zr zr ?_
 intro G F R hR
 refine go ?_
 refine HZ (U:=aU) zr zr zr zr ?_
 refine BX (kv:=Value.string) (es:=es) 0 rfl Tryz.func387 ae ae ae ae zr zr bh ?_
 intro b'
 refine Lz (U:=aU) zr zr zr zr (go ?_)
 refine aG hR Tryz.func314 rfl _ rfl ⟨b',rfl,rfl⟩ (ao.fin [0,1] 0 zr zr)
def j4{α:Type}(bd:Nat)(D:Dk)(nm:List (ByteArray × Nat))(hm:(D.bm,eB nm)∈D.maps)(g:FuncId)(cap:Array Value)(E:HP)(nm':α→List (ByteArray × Nat))(E':α→HP)(q:α→Prop)(hc:∀b',aq Tryz.prog g (.map (some b')::cap.toList) [aC Value.string b' (eB nm),E] (fun _ H=>∃x,q x∧H=[aC Value.string b' (eB (nm' x)),E' x]))(hlen:D.kf.length≤1000000000) :
  aq Tryz.prog 213 [ptr bd,.func (.func g) #[] cap] [fI bd D,E]
   (fun _ H=>∃x b' v,q x∧H=[fI bd { D with bm:=b',maps:=(b',eB (nm' x))::D.maps,ke:=v,kf:=D.kf++[b'] },E' x]):=by
 obtain⟨room,bm,ke,mK,nr,off,maps,eJ,files,kf,wl⟩:=D
 simp only at hm hlen ⊢
 refine aq.aj Tryz.func213 Tryz.ntmps213 fun G F R hE=>?_
 refine ak (gS _ _ _ _ _ _ _ _ _ _ _ _ _) (go ?_)
 obtain⟨j,hj⟩:=List.getElem?_of_mem hm
 refine aS (ao.pick [1] rfl) ?_
 refine aS (jI lz hj _) ?_
 refine bR [0] zr zr zr zr (vV bm (eB nm)) rfl iE ?_
 rintro _ _⟨b',rfl,rfl⟩
 refine aS (ao.pick [1,2] rfl) ?_
 refine aS (pL lz hj _) (go ?_)
 refine bR [1,7] zr zr zr zr (hc b') rfl iE ?_
 rintro _ _⟨x,hq,rfl⟩
 refine aS (ao.pick [0,2] rfl) ?_
 refine aS (oh lz (b',eB (nm' x)) maps _) (go ?_)
 refine aJ (fun w=>Sat G w ([ag bd (cl [.int .i64 room,.map (some b'),ke,mK,nr,.bool off] 62)])) (cM 0 9 (.act 9 (.act 10 (.st 11 (.st 12 (.act 13 .nil)))))) rfl ae ae ae (fun w hw=>hw.cn (ao.bE ([2]) rfl)) ?_
 refine go ?_
 refine al zr zr zr zr zr zr zr zr zr (fun _ w hw=>hw.cn (ao.bE ([3]) rfl)) ?_
 intro b0
 refine aO (mm:=1) (news:=[.map (some b')]) 6 0 zr zr zr zr zr zr zr zr zr zr zr zr (Vw.ag rfl) rfl (by simp[Value.oneCell']) ai (by show _*8≤_;omega) (fun _=>rfl) (fun _ w hw=>hw.cn (ao.bE ([3]) rfl)) ?_
 intro v'
 have e1:(kf.map fun b=>Value.map (some b))++[.map (some b')]=(kf++[b']).map fun b=>Value.map (some b):=by simp
 have e2:kf.length+1=(kf++[b']).length:=by simp
 rw[e1,e2]
 refine aL 6 rfl ?_
 rintro av cv rfl
 refine go ?_
 refine ak (ao.pick [3,1,4,5,6,7,2] rfl) ?_
 refine ak (de bd room b' _ mK nr off _ eJ files (kf++[b']) wl _) ?_
 refine bB hE Tryz.func213 rfl _ rfl ⟨x,b',_,hq,rfl⟩ (ao.fin [0,1] 1 zr zr)
def Rel.new(room bm Nv:Nat)(v:Value)(h:room≤1073741824):Rel ⟨room,bm,v,.slice none 0 0,.slice none 0 0,false,[(Nv,[]),(bm,[])],[],[],[Nv],[]⟩ (Ab.new room) where
 room:=rfl
 off:=rfl
 names:=by simp[Ab.new,eB]
 aR:=eY.one (by simp[eB])
 fs:=eY.nil
 writes:=eY.nil
 cZ:=kV.nil _ _ _
 ids:=by simp[Ab.new]
 known:=by simp[Ab.new]
 gl:=by simp[Ab.new]
 nodup:=by simp[Ab.new]
 fC:=by simp[Ab.new]
 gM:=by simp[Ab.new]
 eA:=by simp[Ab.new]
 gk:=h
 ji:=by simp[Ab.new]
 full:=by simp[Ab.new]
def Lg(room:Nat)(h1:1≤room)(h2:room≤1073741824) :
  aq Tryz.prog 6 [.int .i64 room] [] (fun v H=>∃bd D,Rel D (Ab.new room)∧v = .tuple #[ptr bd,.int .i64 0]∧H=[fI bd D]):=by
 refine aq.aj Tryz.func6 Tryz.ntmps6 fun G F R hE=>?_
 repeat'(first|(with_reducible intro iI)|refine fq ?_|refine dw zr zr zr zr ?_ ?_|refine au zr zr ?_ ?_)
 ·omega
 ·omega
 refine dN rfl bh ?_
 intro bm
 refine aS (ao.head (B:=[lz (bm,[])]) (fun h hs=>⟨h,sub.refl h,cV (fO _ _ h hs)⟩)) ?_
 refine dN rfl bh ?_
 intro Nv
 refine aS (ao.head (B:=[lz (Nv,[])]) (fun h hs=>⟨h,sub.refl h,cV (fO _ _ h hs)⟩)) ?_
 refine al zr zr zr zr zr zr zr zr zr bh ?_
 intro b0
 refine go ?_
 refine bp zr zr bh ?_
 intro bd
 refine go ?_
 refine ak (wN lz _) ?_
 refine ak (ao.pick [4,0] rfl) ?_
 refine ak (oh lz (bm,[]) [] _) ?_
 refine ak (ao.pick [3,0] rfl) ?_
 refine ak (oh lz (Nv,[]) [(bm,[])] _) ?_
 refine ak (ao.pick [2] rfl) ?_
 refine ak (eL 58 1 b0 1 1 [.map (some Nv)] [] _ rfl (Nat.le_refl _) (by simp)) ?_
 refine ak (bj 370 3 none _) ?_
 refine ak (u9 5 _) ?_
 refine ak (wN fG _) ?_
 refine ak (ao.pick [5,4,1,0,3,2] rfl) ?_
 refine ak (de bd room bm (.slice (some ⟨b0,0,none⟩) 1 1) (.slice none 0 0) (.slice none 0 0) false [(Nv,[]),(bm,[])] [] [] [Nv] [] _) ?_
 refine aG hE Tryz.func6 rfl _ rfl ⟨bd,_,Rel.new room bm Nv _ h2,rfl,rfl⟩ (ao.fin [0] 0 zr zr)
theorem l5{l:List (ByteArray × Nat)}:(Ab.cQ l k).isSome=true↔k∈l.map (·.1):=by
 unfold Ab.cQ
 grind
def ye(l:List (ByteArray × Nat))(k:ByteArray):qh (eB l) k=eB (Ab.dI l k):=by
 unfold qh eB Ab.dI
 rw[List.filter_map]
 rfl
theorem xZ(l:List (ByteArray × Nat))(k:ByteArray)(f:Nat):iy (eB l) k (ptr f)=eB (Ab.jj l k f):=by
 have hk:(eB l).map (·.1)=l.map (·.1):=by simp[eB,Function.comp_def]
 unfold iy Ab.jj
 rw[hk]
 by_cases h:(Ab.cQ l k).isSome=true
 ·rw[if_pos (l5.1 h),if_pos h]
  simp only[eB,List.map_map]
  apply List.map_congr_left
  grind
 ·rw[if_neg (fun h'=>h (l5.2 h')),if_neg h]
  simp[eB]
def BO(b box:Nat)(l:List (ByteArray × Nat))(k:ByteArray) :
  aq Tryz.prog 214 [.map (some b),ptr box] [aC Value.string b (eB l),ag box (cl [.string k] 9)] (fun _ H=>H=[aC Value.string b (eB (Ab.dI l k)),ag box (cl [.string k] 9)]):=by
 refine aq.aj Tryz.func214 Tryz.ntmps214 fun G F R hE=>?_
 refine go ?_
 refine iS 0 vY eW zr zr zr zr zr zr zr ?_
 rw[ye]
 refine go ?_
 refine bB hE Tryz.func214 rfl _ zr zr (ao.fin [0,1] 0 zr zr)
def nT(b u4 u3 aad f:Nat)(l:List (ByteArray × Nat))(k k2:ByteArray) :
  aq Tryz.prog 322 [.map (some b),ptr u4,ptr u3,ptr aad] [aC Value.string b (eB l),Sep [ag u4 (cl [.string k] 9),ag u3 (cl [ptr f] 221),ag aad (cl [.string k2] 9)]]
   (fun _ H=>H=[aC Value.string b (eB (Ab.jj (Ab.dI l k) k2 f)),emp]):=by
 refine aq.aj Tryz.func322 Tryz.ntmps322 fun G F R hE=>?_
 refine ak (ao.pick [1] rfl) ?_
 refine ak (ao.cX _ _) (go ?_)
 refine iS 3 vY eW zr zr zr zr zr zr zr ?_
 rw[ye]
 refine go ?_
 refine cy 3 vY eW zr zr zr zr zr zr zr zr ?_
 rw[xZ]
 refine go ?_
 refine ak (ao.jw _) ?_
 refine bB hE Tryz.func322 rfl _ zr zr (ao.fin [4,0] 3 zr zr)
def Cb(b box:Nat)(l:List (ByteArray × Nat))(k:ByteArray) :
  aq Tryz.prog 238 [.map (some b),ptr box] [aC Value.string b (eB l),ag box (cl [.string k] 9)]
   (fun _ H=>∃f,True∧H=[aC Value.string b (eB (Ab.jj l k f)),fG (f,.slice none 0 0,.slice none 0 0)]):=by
 refine aq.aj Tryz.func238 Tryz.ntmps238 fun G F R hE=>?_
 refine go ?_
 refine bp zr zr bh ?_
 intro f
 refine go ?_
 refine cy (v:=ptr f) 1 vY eW zr zr zr zr zr zr zr zr ?_
 rw[xZ]
 refine go ?_
 refine bB hE Tryz.func238 rfl _ rfl ⟨f,trivial,rfl⟩ (ao.fin [1,0] 1 zr zr)
def fresh(l:List Nat):∃n,n ∉ l:=by
  suffices h:∃n,∀x∈l,x<n from let ⟨n,hn⟩:=h;⟨n,fun hx=>Nat.lt_irrefl _ (hn n hx)⟩
  induction l with
  | nil=>exact⟨0,by simp⟩
  | cons a l ih =>
    obtain⟨n,hn⟩:=ih
    exact⟨max n (a+1),fun x hx=>by
      rcases List.mem_cons.1 hx with rfl|h
      · omega
      · have:=hn x h;omega⟩
def DX{x:Nat × Value × Value}(hs:Sat G w (fG x::aP fG files::H)):x.1 ∉ files.map (·.1):=by
 intro hx
 obtain⟨y,hy,he⟩:=List.mem_map.1 hx
 obtain⟨i,hi⟩:=List.getElem?_of_mem hy
 have h1:=hs.cn ((ao.perm (List.Perm.swap _ _ _)).trans ((jI fG hi _).trans (ao.pick [2,0] rfl)))
 unfold fG at h1
 exact h1.ne he.symm
theorem E4(A:Ab)(may:Bool):(A.meet may).2.fs=A.fs∧(A.meet may).2.names=A.names∧(A.meet may).2.aR=A.aR∧(A.meet may).2.writes=A.writes∧(A.meet may).2.room=A.room:=by
 unfold Ab.meet
 grind
def Rel.oD{D:Dk}(h:Rel D A){b':Nat}{nm:List (ByteArray × Nat)}(hk:∀x∈nm,x.2∈A.fs.map (·.1))(hn:(nm.map (·.1)).Nodup)(hl:nm.length≤200) :
  Rel { D with bm:=b',maps:=(b',eB nm)::D.maps,ke:=v,kf:=D.kf++[b'] } (A.oD nm) where
 room:=h.room
 off:=h.off
 names:=by simp[Ab.oD]
 aR:=eY.snoc (h.aR.mono fun b es hb=>List.mem_cons_of_mem _ hb) (by simp)
 fs:=h.fs
 writes:=h.writes
 cZ:=h.cZ
 ids:=h.ids
 known:=by
  intro st dD
  simp only[Ab.oD,List.mem_cons,List.mem_append,List.not_mem_nil,or_false]at dD
  rcases dD with rfl|dD|rfl
  ·exact hk
  ·exact h.known _ (List.mem_cons_of_mem _ dD)
  ·exact hk
 gl:=h.gl
 nodup:=by
  intro st dD
  simp only[Ab.oD,List.mem_cons,List.mem_append,List.not_mem_nil,or_false]at dD
  rcases dD with rfl|dD|rfl
  ·exact hn
  ·exact h.nodup _ (List.mem_cons_of_mem _ dD)
  ·exact hn
 fC:=h.fC
 gM:=h.gM
 eA:=by
  intro st dD
  simp only[Ab.oD,List.mem_cons,List.mem_append,List.not_mem_nil,or_false]at dD
  rcases dD with rfl|dD|rfl
  ·exact hl
  ·exact h.eA _ (List.mem_cons_of_mem _ dD)
  ·exact hl
 gk:=h.gk
 ji:=h.ji
 full:=by simp[Ab.oD]
def Rel.Nz{D:Dk}(h:Rel D A)(hf:f ∉ A.fs.map (·.1)):Rel { D with files:=(f,.slice none 0 0,.slice none 0 0)::D.files } { A with fs:=(f,[],[])::A.fs } where
 room:=h.room
 off:=h.off
 names:=h.names
 aR:=h.aR
 fs:=h.fs.cons ⟨rfl,kV.nil _ _ _,kV.nil _ _ _⟩
 writes:=h.writes
 cZ:=h.cZ
 ids:=by simp only[List.map_cons,List.nodup_cons];exact⟨hf,h.ids⟩
 known:=fun st dD x hx=>List.mem_cons_of_mem _ (h.known st dD x hx)
 gl:=fun x hx=>List.mem_cons_of_mem _ (h.gl x hx)
 nodup:=h.nodup
 fC:=fun x hx=>by
  rcases List.mem_cons.1 hx with rfl|hx
  ·simp
  ·exact h.fC x hx
 gM:=h.gM
 eA:=h.eA
 gk:=h.gk
 ji:=h.ji
 full:=h.full
theorem eY.ids{q:Nat × Value × Value→Nat × List UInt8 × List UInt8→Prop}{l:List (Nat × Value × Value)}{r:List (Nat × List UInt8 × List UInt8)}(h:eY q l r)(hq:∀x y,q x y→x.1=y.1):l.map (·.1)=r.map (·.1):=by
 apply List.ext_getElem?
 intro i
 simp only[List.getElem?_map]
 cases hx:l[i]? with
 | none =>
  have:r[i]?=none:=by rw[List.getElem?_eq_none_iff]at hx ⊢;rw[← h.1];exact hx
  grind
 | some x =>
  obtain⟨y,hy,GL⟩:=h.left hx
  grind
def Rel.Z7{D:Dk}(h:Rel D A):D.files.map (·.1)=A.fs.map (·.1):=eY.ids h.fs fun x y GL=>GL.1
def I9{l:List (ByteArray × Nat)}(h:Ab.cQ l k=none):Ab.jj l k f=l++[(k,f)]:=by simp[Ab.jj,h]
theorem EB(bd:Nat)(D:Dk)(A:Ab)(hR:Rel D A)(name:ByteArray)(dD:A.aR.length≤1000000000) :
  aq Tryz.prog 137 [ptr bd,.string name] [fI bd D]
   (fun v H=>∃f D',f ∉ A.fs.map (·.1)∧Rel D' (A.create (isName name) name f).2∧H=[fI bd D']∧v = .int .i64 (A.create (isName name) name f).1):=by
 refine aq.aj Tryz.func137 Tryz.ntmps137 fun G F R hE=>?_
 refine go ?_
 refine bp zr zr bh ?_
 intro box
 refine go ?_
 refine al zr zr zr zr zr zr zr zr zr bh ?_
 intro b0
 refine go ?_
 refine bR [0] zr zr zr zr (gW _ _ [name] (Vw.ag rfl) (by simp)) rfl iE ?_
 rintro _ _⟨rfl,rfl⟩
 have e1:[name].all isName=isName name:=by simp
 rw[e1]
 refine go ?_
 refine bR [2] zr zr zr zr (ui bd D A hR (isName name)) rfl iE ?_
 rintro _ _⟨D',eM,rfl,rfl⟩
 obtain⟨f0,ZC⟩:=fresh (A.fs.map (·.1))
 have hmf:=E4 A (isName name)
 refine go ?_
 refine dj zr zr ?_ ?_
 ·intro h0
  have mU:¬(A.meet (isName name)).1=0:=by have:=of_decide_eq_true h0;omega
  have hf:A.create (isName name) name f0=((A.meet (isName name)).1,(A.meet (isName name)).2):=by simp[Ab.create,mU]
  refine go ?_
  refine aG hE Tryz.func137 rfl _ rfl ⟨f0,D',ZC,by rw[hf];exact eM,rfl,by rw[hf];rfl⟩ (ao.fin [0] 2 zr zr)
 ·intro h0
  have mU:(A.meet (isName name)).1=0:=by have:=of_decide_eq_false h0;omega
  obtain⟨room,bm,ke,mK,nr,off,maps,eJ,files,kf,wl⟩:=D'
  have Kd:kf.length≤1000000000:=by have:=eM.aR.1;simp only at this;rw[this,hmf.2.2.1];exact dD
  refine ak (gS _ _ _ _ _ _ _ _ _ _ _ _ _) ?_
  refine aJ (fun w=>Sat G w ([ag bd (cl [.int .i64 room,.map (some bm),ke,mK,nr,.bool off] 62),aP lz maps,ag box (cl [.string name] 9)])) (cM 0 11 .nil) rfl ae ae ae (fun w hw=>hw.cn (ao.bE ([0,1,7]) rfl)) ?_
  refine go ?_
  refine dK rfl vY zr zr zr zr zr zr zr (fun w hw=>il (i:=1) hw rfl eM.names) ?_
  rw[mi]
  cases hl:Ab.cQ (A.meet (isName name)).2.names name with
  | some fl =>
   have hf:A.create (isName name) name f0=(5,(A.meet (isName name)).2):=by simp[Ab.create,mU,Ab.look,hl]
   refine go ?_
   refine ak ((ao.pick [0,1,2,3,4,5] rfl).trans (de _ _ _ _ _ _ _ _ _ _ _ _ _)) ?_
   refine aG hE Tryz.func137 rfl _ rfl ⟨f0,_,ZC,by rw[hf];exact eM,rfl,by rw[hf];rfl⟩ (ao.fin [0] 2 zr zr)
  | none =>
   refine go ?_
   refine H5 (kv:=Value.string) (U:=aU) zr zr zr zr (fun w hw=>il (i:=1) hw rfl eM.names) ?_
   have Cn:(eB (A.meet (isName name)).2.names).length=(A.meet (isName name)).2.names.length:=by simp[eB]
   rw[Cn]
   refine go ?_
   refine au zr zr ?_ ?_
   ·intro Kx
    have hf:A.create (isName name) name f0=(3,(A.meet (isName name)).2):=by simp[Ab.create,mU,Ab.look,hl];omega
    refine go ?_
    refine ak ((ao.pick [0,1,2,3,4,5] rfl).trans (de _ _ _ _ _ _ _ _ _ _ _ _ _)) ?_
    refine aG hE Tryz.func137 rfl _ rfl ⟨f0,_,ZC,by rw[hf];exact eM,rfl,by rw[hf];rfl⟩ (ao.fin [0] 2 zr zr)
   ·intro Kx
    refine go ?_
    refine aS ((ao.pick [0,1,2,3,4,5] rfl).trans (de _ _ _ _ _ _ _ _ _ _ _ _ _)) ?_
    refine bR [0,2] zr zr zr zr (j4 (α:=Nat) bd _ _ eM.names 238 #[ptr box] (ag box (cl [.string name] 9)) (fun f=>Ab.jj (A.meet (isName name)).2.names name f) (fun f=>fG (f,.slice none 0 0,.slice none 0 0)) (fun _=>True) (fun b'=>Cb b' box _ name) Kd) rfl iE ?_
    rintro _ _⟨f,b',v,_,rfl⟩
    refine go ?_
    refine ak (gS _ _ _ _ _ _ _ _ _ _ _ _ _) ?_
    refine ak (ao.pick [6,3] rfl) ?_
    refine nY fun⟨w,hw⟩=>?_
    have hff:f ∉ A.fs.map (·.1):=by have:=DX hw;have h2:=eM.Z7;simp only at h2;rw[h2,hmf.1]at this;exact this
    clear hw
    refine ak (oh fG (f,.slice none 0 0,.slice none 0 0) files _) ?_
    have A9:(A.meet (isName name)).2.look name=none:=hl
    have hf:A.create (isName name) name f=(0,{ (A.meet (isName name)).2.oD ((A.meet (isName name)).2.names++[(name,f)])with fs:=(f,[],[])::(A.meet (isName name)).2.fs }):=by
     simp only[Ab.create,mU,if_true,A9,Option.isSome_none,Bool.false_eq_true,if_false]
     grind
    have jX:Ab.jj (A.meet (isName name)).2.names name f=(A.meet (isName name)).2.names++[(name,f)]:=I9 hl
    have MP:name ∉ (A.meet (isName name)).2.names.map (·.1):=fun h=>by have:=l5.2 h;rw[hl]at this;cases this
    have Nd:=(eM.Nz (f:=f) (by rw[hmf.1];exact hff)).oD (b':=b') (v:=v) (nm:=(A.meet (isName name)).2.names++[(name,f)])
     (fun x hx=>by
      rcases List.mem_append.1 hx with hx|hx
      ·exact List.mem_cons_of_mem _ (eM.known _ (List.mem_cons_self ..) x hx)
      ·simp only[List.mem_singleton]at hx;subst hx;exact List.mem_cons_self ..)
     (by
      rw[List.map_append,List.nodup_append]
      exact⟨eM.nodup _ (List.mem_cons_self ..),by simp,fun a ha b hb=>by simp at hb;subst hb;rintro rfl;exact MP ha⟩)
     (by rw[List.length_append];simp only[List.length_singleton];omega)
    rw[jX]
    refine ak (ao.pick [1,2,3,0,4,5] rfl) ?_
    refine ak (de bd room b' _ mK nr off _ eJ _ (kf++[b']) wl _) ?_
    refine aG hE Tryz.func137 rfl _ rfl ⟨f,_,hff,by rw[hf];exact Nd,rfl,by rw[hf];rfl⟩ (ao.fin [0] 1 zr zr)
def K9(bd:Nat)(D:Dk)(A:Ab)(hR:Rel D A)(name:ByteArray) :
  aq Tryz.prog 121 [ptr bd,.string name] [fI bd D] (fun v H=>H=[fI bd D]∧v = .tuple #[.int .i64 (A.size name).1,.int .i64 (A.size name).2]):=by
 obtain⟨room,bm,ke,mK,nr,off,maps,eJ,files,kf,wl⟩:=D
 refine aq.aj Tryz.func121 Tryz.ntmps121 fun G F R hE=>?_
 refine ak (gS _ _ _ _ _ _ _ _ _ _ _ _ _) (go ?_)
 refine n9 (U:=aU) rfl vY zr zr zr zr zr zr zr (fun w hw=>il (i:=1) hw rfl hR.names) ?_
 rw[mi]
 cases hl:Ab.cQ A.names name with
 | none =>
  have hs:A.size name=(0,4):=by simp[Ab.size,Ab.look,hl]
  rw[hs]at hE
  refine go ?_
  refine ak ((ao.pick [0,1,2,3,4,5] rfl).trans (de _ _ _ _ _ _ _ _ _ _ _ _ _)) ?_
  refine aG hE Tryz.func121 rfl _ rfl ⟨rfl,rfl⟩ (ao.fin [0] 0 zr zr)
 | some fl =>
  have hs:A.size name=((A.now fl).length,0):=by simp[Ab.size,Ab.look,hl]
  rw[hs]at hE
  obtain⟨i,v1,v2,hi,Bb,lB,p5⟩:=hR.file (f:=fl) (hR.known _ (List.mem_cons_self ..) _ (ny hl))
  obtain⟨a,cap,rfl,gg⟩:=lB.shape
  refine go ?_
  refine tk (U:=aU) zr zr (fun w hw=>qc (i:=3) hw rfl hi) zr zr ?_
  refine go ?_
  refine ak ((ao.pick [0,1,2,3,4,5] rfl).trans (de _ _ _ _ _ _ _ _ _ _ _ _ _)) ?_
  refine aG hE Tryz.func121 rfl _ rfl ⟨rfl,rfl⟩ (ao.fin [0] 0 zr zr)
def La(bd:Nat)(D:Dk)(A:Ab)(hR:Rel D A)(name:ByteArray)(at_ n:Int) :
  aq Tryz.prog 122 [ptr bd,.string name,.int .i64 at_,.int .i64 n] [fI bd D]
   (fun v H=>∃r,H=[aI 5 1 r (A.read name at_ n).1.length (bV (A.read name at_ n).1),fI bd D]∧v = .tuple #[r,.int .i64 (A.read name at_ n).2]):=by
 obtain⟨room,bm,ke,mK,nr,off,maps,eJ,files,kf,wl⟩:=D
 have iq:=hR.off
 simp only at iq
 refine aq.aj Tryz.func122 Tryz.ntmps122 fun G F R hE=>?_
 refine ak (gS _ _ _ _ _ _ _ _ _ _ _ _ _) ?_
 cases off with
 | true =>
  have hs:A.read name at_ n=([],7):=by simp[Ab.read,← iq]
  rw[hs]at hE
  refine go ?_
  refine ak ((ao.pick [0,1,2,3,4,5] rfl).trans (de _ _ _ _ _ _ _ _ _ _ _ _ _)) ?_
  refine ak (bj 5 1 none _) ?_
  refine aG hE Tryz.func122 rfl _ rfl ⟨_,rfl,rfl⟩ (ao.fin [0,1] 0 zr zr)
 | false =>
  refine go ?_
  refine n9 (U:=aU) rfl vY zr zr zr zr zr zr zr (fun w hw=>il (i:=1) hw rfl hR.names) ?_
  rw[mi]
  cases hl:Ab.cQ A.names name with
  | none =>
   have hs:A.read name at_ n=([],4):=by simp[Ab.read,Ab.look,hl,← iq]
   rw[hs]at hE
   refine go ?_
   refine ak ((ao.pick [0,1,2,3,4,5] rfl).trans (de _ _ _ _ _ _ _ _ _ _ _ _ _)) ?_
   refine ak (bj 5 1 none _) ?_
   refine aG hE Tryz.func122 rfl _ rfl ⟨_,rfl,rfl⟩ (ao.fin [0,1] 0 zr zr)
  | some fl =>
   have hs:A.read name at_ n=if at_<0∨n<0∨((A.now fl).length:Int)<at_∨((A.now fl).length:Int)-at_<n then([],1)else(((A.now fl).drop at_.toNat).take n.toNat,0):=by simp[Ab.read,Ab.look,hl,← iq]
   obtain⟨i,v1,v2,hi,Bb,lB,p5⟩:=hR.file (f:=fl) (hR.known _ (List.mem_cons_self ..) _ (ny hl))
   obtain⟨a,cap,rfl,gg⟩:=lB.shape
   have pj:=(hR.small fl).1
   have ju:∀(h:at_<0∨n<0∨((A.now fl).length:Int)<at_∨((A.now fl).length:Int)-at_<n),A.read name at_ n=([],1):=fun h=>by rw[hs,if_pos h]
   repeat'(first|(with_reducible intro iI)|refine fq ?_|refine dw zr zr zr zr ?_ ?_|refine au zr zr ?_ ?_|refine tk (U:=aU) zr zr (fun w hw=>qc (i:=3) hw rfl hi) zr zr ?_)
   any_goals (
    have xA:=ju ai
    rw[xA]at hE
    refine ak ((ao.pick [0,1,2,3,4,5] rfl).trans (de _ _ _ _ _ _ _ _ _ _ _ _ _)) ?_
    refine ak (bj 5 1 none _) ?_
    refine aG hE Tryz.func122 rfl _ rfl ⟨_,rfl,rfl⟩ (ao.fin [0,1] 0 zr zr))
   refine bu zr zr zr zr zr zr zr ai ai (.inr ai) ?_
   have hr:A.read name at_ n=(((A.now fl).drop at_.toNat).take n.toNat,0):=by rw[hs,if_neg ai]
   have kp:=lB.cut at_.toNat n.toNat ai
   have hlen:(((A.now fl).drop at_.toNat).take n.toNat).length=n.toNat:=by rw[List.length_take,List.length_drop];omega
   refine aD 61 (.slice (sliceAt a cap at_.toNat 1) (((A.now fl).drop at_.toNat).take n.toNat).length (cap-at_.toNat)) rfl (by rw[hlen];congr 1;omega) ?_
   have Oj:kV eJ (.slice (sliceAt a cap at_.toNat 1) (((A.now fl).drop at_.toNat).take n.toNat).length (cap-at_.toNat)) (((A.now fl).drop at_.toNat).take n.toNat):=by rw[hlen];exact kp
   rw[hr]at hE
   clear kp hr hs ju
   generalize hbs:((A.now fl).drop at_.toNat).take n.toNat=bs at hE Oj hlen ⊢
   refine go ?_
   refine bR [2] zr zr zr zr (jh _ _ bs (Oj.view _) ai) rfl iE ?_
   rintro r _ rfl
   refine go ?_
   refine ak (ao.pick [2,3,1,4,5,6] rfl) ?_
   refine ak (de bd room bm ke mK nr false maps eJ files kf wl _) ?_
   refine aG hE Tryz.func122 rfl _ rfl ⟨r,rfl,rfl⟩ (ao.fin [1,0] 0 zr zr)
def k8(name:ByteArray)(at_:Int)(b:List UInt8):Bool:=isName name && decide (0≤at_) && decide (at_≤1048576) && decide ((b.length:Int)≤1048576-at_)
def uM(A:Ab)(name:ByteArray):A.find name false=(1,none,A):=by simp[Ab.find,Ab.meet]
def wE(A:Ab)(name:ByteArray)(at_:Nat)(b:List UInt8):A.write false name at_ b=(1,A):=by simp[Ab.write,uM]
theorem L4{fs:List (Nat × List UInt8 × List UInt8)}(hn:(fs.map (·.1)).Nodup){x:List UInt8 × List UInt8}(hi:fs[i]?=some (f,x))(n:List UInt8):Ab.Ck fs f n=fs.set i (f,n,x.2):=by
 induction fs generalizing i with
 | nil=>simp at hi
 | cons y l ih =>
  simp only[List.map_cons,List.nodup_cons]at hn
  cases i with
  | zero =>
   simp at hi
   subst hi
   simp only[Ab.Ck,List.map_cons,if_true,List.set_cons_zero,List.cons.injEq,true_and]
   rw[List.map_congr_left (g:=id) (fun z hz=>?_),List.map_id]
   grind
  | succ i =>
   simp at hi
   have fy:y.1≠f:=fun e=>hn.1 (List.mem_map.2 ⟨_,List.mem_of_getElem? hi,e.symm⟩)
   have:=ih hn.2 hi
   simp only[Ab.Ck]at this
   simp only[Ab.Ck,List.map_cons,fy,if_false,List.set_cons_succ,this]
theorem pF(fs:List (Nat × List UInt8 × List UInt8))(f:Nat)(n:List UInt8):(Ab.Ck fs f n).map (·.1)=fs.map (·.1):=by
 simp only[Ab.Ck,List.map_map]
 apply List.map_congr_left
 grind
theorem Rel.wrote{D:Dk}(h:Rel D A){at_:Nat}{v3 v4:Value}{n b:List UInt8}{yc:eV}{w:Value}(hi:D.files[i]?=some (f,v1,v2))(ha:A.fs[i]?=some (f,A.now f,A.sure f))(cu:∀x∈D.eJ,x∈yc)(hn:kV yc v3 n)(hb:kV yc v4 b)(LY:n.length≤1048576)(sT:at_+b.length≤1048576) :
  Rel { D with files:=D.files.set i (f,v3,v2),eJ:=yc,mK:=w,wl:=D.wl++[(f,at_,v4)] } { A with fs:=Ab.Ck A.fs f n,writes:=A.writes++[(f,at_,b)] } where
 room:=h.room
 off:=h.off
 names:=h.names
 aR:=h.aR
 fs:=by
  rw[L4 h.ids ha]
  have h2:=h.fs.2 i _ _ hi ha
  exact eY.set (h.fs.mono fun x y GL=>⟨GL.1,GL.2.1.mono cu,GL.2.2.mono cu⟩) i ⟨rfl,hn,h2.2.2.mono cu⟩
 writes:=eY.snoc (h.writes.mono fun x y GL=>⟨GL.1,GL.2.1,GL.2.2.mono cu⟩) ⟨rfl,rfl,hb⟩
 cZ:=h.cZ.mono cu
 ids:=by simp only[pF];exact h.ids
 known:=by simp only[pF];exact h.known
 gl:=by
  simp only[pF]
  intro x hx
  rcases List.mem_append.1 hx with hx|hx
  ·exact h.gl x hx
  grind
 nodup:=h.nodup
 fC:=by
  intro x hx
  simp only[Ab.Ck,List.mem_map]at hx
  obtain⟨y,hy,rfl⟩:=hx
  have:=h.fC y hy
  grind
 gM:=by
  intro x hx
  rcases List.mem_append.1 hx with hx|hx
  ·exact h.gM x hx
  grind
 eA:=h.eA
 gk:=h.gk
 ji:=h.ji
 full:=h.full
theorem Cu(old:List UInt8)(at_:Nat)(b:List UInt8):(ea old at_ b).length=max old.length (at_+b.length):=by
 grind [ea]
theorem lH(A:Ab)(name:ByteArray)(ok:Bool):(A.find name ok).2.2.fs=A.fs∧(A.find name ok).2.2.names=A.names∧(A.find name ok).2.2.aR=A.aR∧(A.find name ok).2.2.writes=A.writes∧(A.find name ok).2.2.room=A.room:=by
 have:=E4 A ok
 unfold Ab.find
 grind
theorem Rel.EI{D:Dk}(h:Rel D A):A.used≤209715200:=by
 rw[← tC (h.nodup _ (List.mem_cons_self ..))]
 have:=Ag (fun f=>(h.small f).1) (A.names.map (·.1))
 have h2:=h.eA _ (List.mem_cons_self ..)
 grind
theorem HB(e:TypeId)(v:Value)(bs:List UInt8)(M:eV):∀h,star (aI e 1 v bs.length (bV bs)) (a6 e M) h→∃M',(kV M' v bs∧∀x∈M,x∈M')∧Sep [a6 e M'] h:=fun h hs=>by
 grind [KY,cV]
theorem j0{name:ByteArray}{ok:Bool}(h:(A.find name ok).1=0):ok=true∧∃fl,(A.find name ok).2.1=some fl∧(name,fl)∈(A.find name ok).2.2.names:=by
 unfold Ab.find at h ⊢
 split
 ·rename_i h0
  rw[if_pos h0]at h
  cases hl:(A.meet ok).2.look name with
  | none=>rw[hl]at h;cases h
  | some f =>
   refine⟨?_,f,rfl,ny hl⟩
   cases ok with
   | true=>rfl
   | false=>simp[Ab.meet]at h0
 grind
def HE(bd:Nat)(D:Dk)(A:Ab)(hR:Rel D A)(name:ByteArray)(at_:Int)(X:HP)(bv:Value)(b:List UInt8)(hv:Vw X bv b.length (bV b))(lg:A.writes.length≤1000000000)(sT:b.length≤1000000000)(hat : -9223372036854775808≤at_∧at_≤9223372036854775807) :
  aq Tryz.prog 168 [ptr bd,.string name,.int .i64 at_,bv] [fI bd D,X]
   (fun v H=>∃D',Rel D' (A.write (k8 name at_ b) name at_.toNat b).2∧H=[fI bd D',X]∧v = .int .i64 (A.write (k8 name at_ b) name at_.toNat b).1):=by
 obtain⟨a0,c0,rfl⟩:=hv.shape
 refine aq.aj Tryz.func168 Tryz.ntmps168 fun G F R hE=>?_
 refine go ?_
 refine al zr zr zr zr zr zr zr zr zr bh ?_
 intro b0
 refine go ?_
 refine bR [0] zr zr zr zr (gW _ _ [name] (Vw.ag rfl) (by simp)) rfl iE ?_
 rintro _ _⟨rfl,rfl⟩
 have e1:[name].all isName=isName name:=by simp
 rw[e1]
 cases y4:isName name with
 | false =>
  have hm:k8 name at_ b=false:=by simp[k8,y4]
  rw[hm,wE]at hE
  refine go ?_
  refine bR [1] zr zr zr zr (iv bd D A hR name false) rfl iE ?_
  rw[uM]
  rintro _ _⟨D',eM,rfl,rfl⟩
  refine go ?_
  refine aG hE Tryz.func168 rfl _ rfl ⟨D',eM,rfl,rfl⟩ (ao.fin [0,2] 1 zr zr)
 | true =>
  repeat'(first|(with_reducible intro iI)|refine fq ?_|refine dw zr zr zr zr ?_ ?_|fail)
  any_goals (
   have hm:k8 name at_ b=false:=by simp[k8,y4, *]
   rw[hm,wE]at hE
   refine bR [1] zr zr zr zr (iv bd D A hR name false) rfl iE ?_
   rw[uM]
   rintro _ _⟨D',eM,rfl,rfl⟩
   refine go ?_
   refine aG hE Tryz.func168 rfl _ rfl ⟨D',eM,rfl,rfl⟩ (ao.fin [0,2] 1 zr zr))
  rename_i h2
  obtain⟨at_,rfl⟩:=Int.eq_ofNat_of_zero_le h2
  simp only[Int.toNat_natCast]at hE
  have hm:k8 name at_ b=decide ((b.length:Int)≤1048576-at_):=by simp[k8,y4, *]
  refine aD 31 (.bool (k8 name at_ b)) rfl (congrArg Value.bool hm.symm) ?_
  refine bR [1] zr zr zr zr (iv bd D A hR name (k8 name at_ b)) rfl iE ?_
  generalize hJ:k8 name at_ b=ok at hE hm ⊢
  rintro _ _⟨D',eM,rfl,rfl⟩
  refine go ?_
  refine dj zr zr ?_ ?_
  ·intro h0
   have mU:¬(A.find name ok).1=0:=by have:=of_decide_eq_true h0;omega
   have hw:A.write ok name at_ b=((A.find name ok).1,(A.find name ok).2.2):=by simp[Ab.write,mU]
   rw[hw]at hE
   refine go ?_
   refine aG hE Tryz.func168 rfl _ rfl ⟨D',eM,rfl,rfl⟩ (ao.fin [0,2] 1 zr zr)
  ·intro h0
   have mU:(A.find name ok).1=0:=by have:=of_decide_eq_false h0;omega
   obtain⟨VC,fl,qD,dF⟩:=j0 mU
   rw[VC]at hm
   have hlen:=of_decide_eq_true hm.symm
   have hw:A.write ok name at_ b=if(A.find name ok).2.2.room<(A.find name ok).2.2.used+(at_+b.length-((A.find name ok).2.2.now fl).length)then(3,(A.find name ok).2.2)
    else(0,{ (A.find name ok).2.2 with fs:=Ab.Ck (A.find name ok).2.2.fs fl (ea ((A.find name ok).2.2.now fl) at_ b),writes:=(A.find name ok).2.2.writes++[(fl,at_,b)] }):=by simp[Ab.write,mU,qD]
   rw[qD]
   have aaQ:(A.find name ok).2.2.writes.length≤1000000000:=by rw[(lH A name ok).2.2.2.1];exact lg
   generalize (A.find name ok).2.2=A1 at *
   obtain⟨room,bm,ke,mK,nr,off,maps,eJ,files,kf,wl⟩:=D'
   obtain⟨i,v1,v2,hi,Bb,lB,p5⟩:=eM.file (f:=fl) (eM.known _ (List.mem_cons_self ..) _ dF)
   obtain⟨a,cap,rfl,gg⟩:=lB.shape
   have pj:=(eM.small fl).1
   have rY:=eM.room
   have WN:=eM.gk
   simp only at rY
   refine ak (gS _ _ _ _ _ _ _ _ _ _ _ _ _) ?_
   refine aJ (fun w=>Sat G w ([ag bd (cl [.int .i64 room,.map (some bm),ke,mK,nr,.bool off] 62),aP fG files])) (.st 0 (cM 2 11 (cM 14 4 (.act 1 (.st 13 (.st 18 .nil)))))) rfl ae ae ae (fun w hw=>hw.cn (ao.bE ([0,3]) rfl)) ?_
   refine go ?_
   refine tj (U:=aU) zr zr (fun w hw=>qc (i:=1) hw rfl hi) zr zr ?_
   refine go ?_
   refine aS ((ao.pick [0,1,2,3,4,5] rfl).trans (de _ _ _ _ _ _ _ _ _ _ _ _ _)) ?_
   have hul:=eM.EI
   refine bR [0] rfl rfl rfl rfl (K5 bd _ A1 eM) rfl (fun _ _ w hp hw=>by obtain⟨rfl,_⟩:=hp;exact hw.cn ((gS _ _ _ _ _ _ _ _ _ _ _ _ _).trans (ao.bE [0,3] rfl))) ?_
   rintro _ _⟨rfl,rfl⟩
   refine go ?_
   refine au zr zr ?_ ?_
   ·intro Kx
    rw[if_pos ai]at hw
    rw[hw]at hE
    refine go ?_
    refine aG hE Tryz.func168 rfl _ rfl ⟨_,eM,rfl,rfl⟩ (ao.fin [0,2] 1 zr zr)
   ·intro Kx
    rw[if_neg ai]at hw
    rw[hw]at hE
    refine go ?_
    refine aS (gS _ _ _ _ _ _ _ _ _ _ _ _ _) (go ?_)
    refine aS (ao.pick [3] rfl) ?_
    refine aS (jI fG hi _) (go ?_)
    refine aS (ao.pick [4,8] rfl) ?_
    refine aS (ao.join _ _ _) ?_
    refine bR [0] zr zr zr zr (FY (star (a6 5 eJ) X) _ _ (A1.now fl) b at_ (lB.view _).left hv.right ai) rfl iE ?_
    rintro _ _⟨bl,zh,rfl,ZL,rfl⟩
    refine aS (ao.pick [1] rfl) ?_
    refine aS (ao.part _ _ _) ?_
    refine aS (ao.pick [2,0] rfl) ?_
    refine aS (KZ 5 bl _ eJ _) (go ?_)
    refine ak (ao.pick [2,3] rfl) ?_
    refine ak (wM fG (y:=(fl,.slice (some ⟨bl,0,none⟩) (ea (A1.now fl) at_ b).length zh,v2)) hi _) ?_
    refine aJ (fun w=>Sat G w ([ag bd (cl [.int .i64 room,.map (some bm),ke,mK,nr,.bool off] 62)])) (cM 0 8 (.act 8 (.st 9 (.act 10 (.act 11 (.st 12 (.st 13 (.act 14 .nil)))))))) rfl ae ae ae (fun w hw=>hw.cn (ao.bE ([3]) rfl)) ?_
    refine go ?_
    refine bR [2] rfl rfl rfl rfl (jh X _ b hv sT) rfl (fun _ _ w hp hw=>by subst hp;exact hw.cn (ao.bE [4] rfl)) ?_
    rintro r _ rfl
    refine aL 0 rfl ?_
    rintro ar cr rfl
    refine go ?_
    refine al zr zr zr zr zr zr zr zr zr (fun _ w hw=>hw.cn (ao.bE ([5]) rfl)) ?_
    intro b1
    refine aO (mm:=1) (news:=[ptr fl,.int .i64 at_,.slice ar b.length cr]) 8 0 zr zr zr zr zr zr zr zr zr zr zr zr (Vw.ag rfl) rfl (by simp[Value.oneCell',ptr]) (by have:=eM.writes.1;simp only at this;omega) (by have:=eM.writes.1;simp only at this;show _*40≤_;omega) (fun _=>rfl) (fun _ w hw=>hw.cn (ao.bE ([5]) rfl)) ?_
    intro v'
    have e2:dO wl++[ptr fl,.int .i64 at_,.slice ar b.length cr]=dO (wl++[(fl,at_,.slice ar b.length cr)]):=by simp[dO]
    have e3:wl.length+1=(wl++[(fl,at_,Value.slice ar b.length cr)]).length:=by simp
    rw[e2,e3]
    refine aL 8 rfl ?_
    rintro av cv rfl
    refine go ?_
    refine aY ?_;refine bG 5 eW zr zr zr zr zr zr zr zr zr ?_
    refine go ?_
    refine ak (ao.pick [1,4] rfl) ?_
    refine ak (ao.join _ _ _) ?_
    refine cI (HB 5 _ b _) ?_
    rintro yc⟨Wb,cu⟩
    have Nd:=eM.wrote (w := .slice av (wl++[(fl,at_,Value.slice ar b.length cr)]).length cv) hi Bb (fun x hx=>cu x (List.mem_cons_of_mem _ hx)) ((kV.row (cap:=zh) ZL).mono cu) Wb (by rw[Cu];omega) (by omega:at_+b.length≤1048576)
    refine ak (ao.pick [4,5,0,3,6,7] rfl) ?_
    refine ak (de bd room bm ke _ nr off maps yc _ kf _ _) ?_
    refine aG hE Tryz.func168 rfl _ rfl ⟨_,Nd,rfl,rfl⟩ (ao.fin [0,2] 2 zr zr)
def Bt{l:List (ByteArray × Nat)}{x:ByteArray × Nat}(h:x∈Ab.dI l k):x∈l∧x.1≠k:=by
 simpa[Ab.dI]using h
def KL(l:List (ByteArray × Nat))(k:ByteArray):(Ab.dI l k).length≤l.length:=List.length_filter_le _ _
def uR{l:List (ByteArray × Nat)}(h:(l.map (·.1)).Nodup)(k:ByteArray):((Ab.dI l k).map (·.1)).Nodup:=(List.filter_sublist.map _).nodup h
theorem Nq{l:List (ByteArray × Nat)}(h:(k,f)∈l):(Ab.dI l k).length+1≤l.length:=by
 have:(Ab.dI l k).length<l.length:=by
  unfold Ab.dI
  rw[List.length_filter_lt_length_iff_exists]
  grind
 omega
theorem Ja(l:List (ByteArray × Nat))(k:ByteArray)(f:Nat):(Ab.jj l k f).length≤l.length+1:=by
 unfold Ab.jj
 grind
theorem I'{l:List (ByteArray × Nat)}{x:ByteArray × Nat}(h:x∈Ab.jj l k f):x=(k,f)∨x∈l:=by
 unfold Ab.jj at h
 grind
theorem CH{l:List (ByteArray × Nat)}(h:(l.map (·.1)).Nodup)(k:ByteArray)(f:Nat):((Ab.jj l k f).map (·.1)).Nodup:=by
 unfold Ab.jj
 split
 ·grind
 ·rename_i hk
  rw[List.map_append,List.nodup_append]
  exact⟨h,by simp,fun a ha b hb=>by simp at hb;subst hb;rintro rfl;exact hk (l5.2 ha)⟩
theorem En(bd:Nat)(D:Dk)(A:Ab)(hR:Rel D A)(name:ByteArray)(dD:A.aR.length≤1000000000) :
  aq Tryz.prog 114 [ptr bd,.string name] [fI bd D]
   (fun v H=>∃D',Rel D' (A.remove (isName name) name).2∧H=[fI bd D']∧v = .int .i64 (A.remove (isName name) name).1):=by
 refine aq.aj Tryz.func114 Tryz.ntmps114 fun G F R hE=>?_
 refine go ?_
 refine bp zr zr bh ?_
 intro box
 refine go ?_
 refine aJ (fun w=>Sat G w ([ag box (cl [.string name] 9)])) (cM 0 3 (.act 3 (.act 4 (.act 5 (cM 6 5 .nil))))) rfl ae ae ae (fun w hw=>hw.cn (ao.bE ([0]) rfl)) ?_
 refine go ?_
 refine al zr zr zr zr zr zr zr zr zr (fun _ w hw=>hw.cn (ao.bE ([1]) rfl)) ?_
 intro b0
 refine bR [0] rfl rfl rfl rfl (gW _ _ [name] (Vw.ag rfl) (by simp)) rfl (fun _ _ w hp hw=>by obtain⟨_,rfl⟩:=hp;exact hw.cn (ao.bE [1] rfl)) ?_
 rintro _ _⟨rfl,rfl⟩
 have e1:[name].all isName=isName name:=by simp
 rw[e1]
 refine bR [2] rfl rfl rfl rfl (iv bd D A hR name (isName name)) rfl (fun _ _ w hp hw=>by obtain⟨_,_,rfl,_⟩:=hp;exact hw.cn (ao.bE [2] rfl)) ?_
 generalize hJ:isName name=ok at hE ⊢
 rintro _ _⟨D',eM,rfl,rfl⟩
 refine go ?_
 refine dj zr zr ?_ ?_
 ·intro h0
  have mU:¬(A.find name ok).1=0:=by have:=of_decide_eq_true h0;omega
  have hw:A.remove ok name=((A.find name ok).1,(A.find name ok).2.2):=by
   unfold Ab.remove
   grind
  rw[hw]at hE
  refine go ?_
  refine aG hE Tryz.func114 rfl _ rfl ⟨D',eM,rfl,rfl⟩ (ao.fin [0] 2 zr zr)
 ·intro h0
  have mU:(A.find name ok).1=0:=by have:=of_decide_eq_false h0;omega
  obtain⟨VC,fl,qD,dF⟩:=j0 mU
  have hw:A.remove ok name=(0,(A.find name ok).2.2.oD (Ab.dI (A.find name ok).2.2.names name)):=by
   unfold Ab.remove
   grind
  have Kd:(A.find name ok).2.2.aR.length≤1000000000:=by rw[(lH A name ok).2.2.1];exact dD
  rw[hw]at hE
  generalize (A.find name ok).2.2=A1 at *
  have Kb:D'.kf.length≤1000000000:=by rw[eM.aR.1];exact Kd
  refine go ?_
  refine bR [0,2] zr zr zr zr (j4 (α:=Unit) bd D' A1.names eM.names 214 #[ptr box] (ag box (cl [.string name] 9)) (fun _=>Ab.dI A1.names name) (fun _=>ag box (cl [.string name] 9)) (fun _=>True) (fun b'=>aq.post (BO b' box A1.names name) (fun v H h=>⟨(),trivial,h⟩)) Kb) rfl iE ?_
  rintro _ _⟨_,b',v,_,rfl⟩
  have Nd:=eM.oD (b':=b') (v:=v) (nm:=Ab.dI A1.names name) (fun x hx=>eM.known _ (List.mem_cons_self ..) x (Bt hx).1) (uR (eM.nodup _ (List.mem_cons_self ..)) name) (Nat.le_trans (KL _ _) (eM.eA _ (List.mem_cons_self ..)))
  refine go ?_
  refine aG hE Tryz.func114 rfl _ rfl ⟨_,Nd,rfl,rfl⟩ (ao.fin [0] 2 zr zr)
abbrev BU:=Nat × Nat × Value
def xu(x:BU):List Value:=[ptr x.1,.int .i64 x.2.1,x.2.2]
def fY(l:List BU):dO l=l.flatMap xu:=rfl
theorem ej(x:BU):(xu x).length=3:=rfl
theorem vy(A X:HP)(v:Value)(l:List BU)(hv:Vw A v l.length (dO l))(hlen:l.length≤1000000000)(g:FuncId)(cap:List Value)(p:BU→Bool)(hf:∀x∈l,aq Tryz.prog g (.agg #[ptr x.1,.int .i64 x.2.1,x.2.2]::cap) [X] (fun v H=>v = .bool (p x)∧H=[X])) :
  aq Tryz.prog 391 [v,.func (.func g) #[] cap.toArray] [A,X] (fun r H=>r = .int .i64 (gQ p l)∧H=[A,X]):=by
 obtain⟨a,c0,rfl⟩:=hv.shape
 refine aq.enter Tryz.func391 ae rfl Tryz.ntmps391 zr zr ?_
 intro G F R hR
 refine go ?_
 refine bn (fun i:Nat=>i≤l.length∧∀y∈l.take i,p y=false) (fun i=>l.length-i) (fun i=>[(0,.slice a l.length c0),(1,.func (.func g) #[] cap.toArray),(7,.int .i64 l.length),(8,.int .i64 i)]) (fun _=>[A,X]++F) 0 ⟨by simp,by simp⟩ rfl bQ (ao.refl _) ?_
 rintro i⟨hi,hb⟩ ih
 refine go ?_
 refine au zr zr ?_ ?_
 ·intro cq
  refine go ?_
  have dq:i<l.length:=by omega
  have hx:l[i]?=some l[i]:=by simp[dq]
  generalize Vp:l[i]=x at hx
  obtain⟨b,o,eX,dW⟩:=hv.some (by rw[← List.length_pos_iff,fY,bI ej];omega)
  simp only[Value.slice.injEq]at dW
  obtain⟨rfl,_,rfl⟩:=dW
  refine bX i 3 zr zr zr zr zr zr zr zr dq ?_
  refine bW (U:=aU) (es:=xu x) 0 (i*3) zr zr zr hv rfl (fun j v hj=>?_) zr zr zr ?_
  ·have vJ:j<3:=by
    grind [ej]
   rw[fY,ck ej hx j vJ];exact hj
  refine bR [1] zr zr zr zr (hf x (List.mem_of_getElem? hx)) rfl iE ?_
  rintro _ _⟨rfl,rfl⟩
  refine go ?_
  refine dj zr zr ?_ ?_
  ·intro hp
   refine go ?_
   refine aG hR Tryz.func391 rfl _ rfl ⟨by rw[gb hx hp hb];rfl,rfl⟩ (ao.fin [1,0] 0 zr zr)
  ·intro hp
   refine go ?_
   refine aK ih (i+1) rfl ⟨ai,jH hb hx hp⟩ ai bQ (ao.pick [1,0] rfl)
 ·intro ek
  refine go ?_
  have:i=l.length:=by omega
  subst this
  refine aG hR Tryz.func391 rfl _ rfl ⟨by rw[gY (fun x hx=>hb x (by simpa using hx))];rfl,rfl⟩ (ao.fin [0,1] 0 zr zr)
def HH(c5 f g at_:Nat)(bv:Value)(files:List (Nat × Value × Value))(hf:f∈files.map (·.1))(hg:g∈files.map (·.1))(fT:bv.oneCell'=true) :
  aq Tryz.prog 321 [.agg #[ptr g,.int .i64 at_,bv],ptr c5] [star (ag c5 (cl [ptr f] 221)) (aP fG files)] (fun v H=>v = .bool (decide (g=f))∧H=[star (ag c5 (cl [ptr f] 221)) (aP fG files)]):=by
 have row:∀ {G:bY} {w:World} {H:List HP} {i y:Nat},Sat G w H→bS H i=some (aP fG files)→y∈files.map (·.1)→Row w y:=by
  intro G w H i y hs hi hy
  obtain⟨⟨y',v1,v2⟩,hm,rfl⟩:=List.mem_map.1 hy
  obtain⟨j,hj⟩:=List.getElem?_of_mem hm
  exact⟨_,_,uN hs hi hj⟩
 refine aq.aj Tryz.func321 Tryz.ntmps321 fun G F R hE=>?_
 refine ak (ao.part _ _ _) (go ?_)
 refine bp zr zr bh ?_
 intro bx
 refine go ?_
 refine NM (U:=aU) zr zr zr zr zr zr zr (fun w hw=>row (i:=2) hw rfl hg) (fun w hw=>row (i:=2) hw rfl hf) ?_
 refine go ?_
 refine ak (ao.pick [1,2] rfl) ?_
 refine ak (ao.join _ _ _) ?_
 refine aG hE Tryz.func321 rfl _ rfl ⟨congrArg Value.bool (by simp),rfl⟩ (ao.fin [0] 1 zr zr)
theorem sI(v:Value)(l:List BU)(X:HP)(g:FuncId)(cap:List Value)(p:BU→Bool)(hlen:l.length≤1000000000)(dW:∀x∈l,∃a n c,x.2.2 = .slice a n c)(hf:∀x∈l,aq Tryz.prog g (.agg #[ptr x.1,.int .i64 x.2.1,x.2.2]::cap) [X] (fun v H=>v = .bool (p x)∧H=[X])) :
  aq Tryz.prog 320 [v,.func (.func g) #[] cap.toArray] [aI 370 3 v l.length (dO l),X]
   (fun r H=>H=[aI 370 3 r (l.filter fun x => !p x).length (dO (l.filter fun x => !p x)),X]):=by
 refine aq.aj Tryz.func320 Tryz.ntmps320 fun G F R hE=>?_
 refine cL 0 rfl ?_
 rintro a0 c rfl
 refine go ?_
 refine dT 0 rfl ?_
 intro hv
 refine bR [0,1] zr zr zr zr (vy _ X _ l hv hlen g cap p hf) rfl iE ?_
 rintro _ _⟨rfl,rfl⟩
 refine go ?_
 refine au zr zr ?_ ?_
 ·intro h0
  have mO:l.any p=false:=jW.1 ai
  have qD:(l.filter fun x => !p x)=l:=List.filter_eq_self.2 fun x hx=>by
   grind
  rw[qD]at hE
  refine go ?_
  refine aG hE Tryz.func320 rfl _ zr zr (ao.fin [0,1] 0 zr zr)
 ·intro h0
  obtain⟨i0,x0,G4,Vq,GR,Bj⟩:=ph h0
  have Zu:i0<l.length:=by
   grind
  rw[G4]
  refine go ?_
  refine pq (fun a l8 hn _=>by omega) ?_
  rintro b o c' pre bL vG jq hnc gg mF
  simp only[Value.slice.injEq,true_and]at vG
  obtain⟨rfl,rfl⟩:=vG
  have h1:l.take (i0+1)=l.take i0++[x0]:=by rw[List.take_add_one,Vq];rfl
  have Cp:(l.take i0).filter (fun x => !p x)=l.take i0:=List.filter_eq_self.2 fun x hx=>by simp[Bj x hx]
  refine bn (fun s:Nat × Nat × List BU=>s.1<s.2.1∧s.2.1≤l.length∧s.2.2.length=l.length∧s.2.2.take s.1=(l.take s.2.1).filter (fun x => !p x)∧s.2.2.drop s.2.1=l.drop s.2.1) (fun s=>l.length-s.2.1)
   (fun s=>[(0,.slice (some ⟨b,o,none⟩) l.length c),(1,.func (.func g) #[] cap.toArray),(5,.int .i64 s.1),(6,.int .i64 s.2.1)])
   (fun s=>ag b (cl (pre++dO s.2.2++bL) 370)::X::F) (i0,i0+1,l) ⟨by simp,by simp only;omega,rfl,by simp only[h1,List.filter_append,Cp];simp[GR],rfl⟩ rfl bQ (ao.refl _) ?_
  rintro⟨i,j,E⟩⟨G1,Fh,Cq,se,Fq⟩ ih
  simp only at G1 Fh Cq se Fq
  have lg:(dO E).length=l.length*3:=by rw[fY,bI ej,Cq]
  have YP:Vw (ag b (cl (pre++dO E++bL) 370)) (.slice (some ⟨b,o,none⟩) l.length c) l.length (dO E):=Vw.ag (by rw[List.append_assoc,← jq,List.drop_left,List.take_left])
  refine go ?_
  refine au zr zr ?_ ?_
  ·intro cq
   simp only at cq
   have nC:j<l.length:=by omega
   obtain⟨⟨fx,ax,bx⟩,hx⟩:∃x,l[j]?=some x:=⟨l[j],by simp[nC]⟩
   have ZW:E[j]?=some (fx,ax,bx):=by
    have:=congrArg (·[0]?) Fq
    grind
   have dF:=List.mem_of_getElem? hx
   obtain⟨ab,nb,cb,y8⟩:=dW _ dF
   simp only at y8
   subst y8
   have M1:=hf _ dF
   refine go ?_
   refine bX j 3 zr zr zr zr zr zr zr zr nC ?_
   refine bW (U:=aU) (es:=xu (fx,ax,.slice ab nb cb)) 0 (j*3) zr zr zr YP rfl (fun q v hq=>?_) zr zr zr ?_
   ·have vJ:q<3:=by
     grind [ej]
    rw[fY,ck ej ZW q vJ];exact hq
   refine az zr zr zr bh ?_
   intro bv
   refine go ?_
   refine bq 0 zr zr zr zr zr zr ?_
   refine bR [2] zr zr zr zr (M1) rfl iE ?_
   rintro _ _⟨rfl,rfl⟩
   refine go ?_
   refine dj zr zr ?_ ?_
   ·intro hp
    have pC:p (fx,ax,.slice ab nb cb)=false:=by simpa using hp
    refine go ?_
    refine bq 1 zr zr zr zr zr zr (go ?_)
    refine bX i 3 zr zr zr zr zr zr zr zr ai ?_
    refine j9 (U:=aU) (l':=pre++dO (E.set i (fx,ax,.slice ab nb cb))++bL) 2 eW zr zr zr zr zr zr zr ?_ ?_ rfl ?_
    ·show o+i*3+3≤_
     rw[List.length_append,List.length_append,lg];omega
    ·show _=List.take (o+i*3) (pre++dO E++bL)++xu (fx,ax,.slice ab nb cb)++List.drop (o+i*3+(xu (fx,ax,.slice ab nb cb)).length) (pre++dO E++bL)
     rw[← jq,oX _ _ _ _ _ (by rw[ej,lg];omega),fY,xV ej ai]
     rfl
    refine go ?_
    refine aK ih (i+1,j+1,E.set i (fx,ax,.slice ab nb cb)) rfl ⟨by simp only;omega,by simp only;omega,by simp only[List.length_set];exact Cq,?_,?_⟩ (by simp only;omega) bQ (ao.to [2,0] 1 zr zr zr)
    ·simp only
     rw[List.take_add_one,List.take_set_of_le (Nat.le_refl i),se,List.take_add_one (l:=l),hx,List.getElem?_set_self ai]
     simp[List.filter_append,pC]
    ·simp only
     rw[List.drop_set_of_lt ai,← List.drop_drop,Fq,List.drop_drop]
   ·intro hp
    have pC:p (fx,ax,.slice ab nb cb)=true:=by simpa using hp
    refine go ?_
    refine aK ih (i,j+1,E) rfl ⟨by simp only;omega,by simp only;omega,Cq,by simp only;rw[se,List.take_add_one,hx];simp[List.filter_append,pC],by simp only;rw[← List.drop_drop,Fq,List.drop_drop]⟩ (by simp only;omega) bQ (ao.to [2,0] 1 zr zr zr)
  ·intro ek
   refine go ?_
   simp only at ek
   have Zl:j=l.length:=by omega
   subst Zl
   rw[List.take_length]at se
   have uB:(l.filter fun x => !p x).length=i:=by rw[← se,List.length_take];omega
   refine hD zr zr zr zr zr zr zr ai ai (.inl rfl) ?_
   intro o1 Fe N'
   simp only[Int.toNat_natCast]at Fe N'
   have A5:i≠c→o1=o+i*3:=Fe
   have hL:(pre++dO E++bL).length=o+l.length*3+bL.length:=by rw[List.length_append,List.length_append,lg,jq]
   obtain⟨jV,Ba,Zm⟩:∃jV,(pre++dO E++bL).take o1++(List.replicate (((l.length:Int).toNat-(i:Int).toNat)) [Value.pointer none,.int .i64 0,.slice none 0 0]).flatten++(pre++dO E++bL).drop (o1+((l.length:Int).toNat-(i:Int).toNat)*3)=pre++dO (E.take i)++jV∧c*3≤i*3+jV.length:=by
    have Kv:i≠c:=by omega
    rw[A5 Kv,← jq,List.append_assoc pre,List.take_length_add_append,List.take_append_of_le_length (by rw[lg];omega),fY,fY,po ej E i ai]
    refine⟨_,by rw[List.append_assoc],?_⟩
    rw[List.length_append,List.length_drop,iu]
    simp only[List.length_append,List.length_cons,List.length_nil,bI ej,Cq,Int.toNat_natCast]
    grind
   refine zL (U:=aU) (l':=pre++dO (E.take i)++jV) 0 eW zr zr zr zr zr zr zr zr ?_ ?_ rfl ?_
   ·have Kv:i≠c:=by omega
    show o1+((l.length:Int).toNat-(i:Int).toNat)*3≤_
    rw[A5 Kv,hL];omega
   ·rw[← Ba];rfl
   refine go ?_
   refine hD zr zr zr zr zr zr zr ai ai (.inr ai) ?_
   intro o2 ho3 ho4
   have Kl:o2=o:=by
    grind
   subst Kl
   refine go ?_
   refine ak (gN (sz:=3) (nn:=i) (c:=c) jq ai (by rw[fY,bI ej,List.length_take];omega) (by rw[fY,bI ej,List.length_take];omega) _) ?_
   rw[← se,se,uB,← se]at hE
   refine aG hE Tryz.func320 rfl _ zr zr (ao.fin [0,1] 0 zr zr)
def wk(bd:Nat)(D:Dk)(A:Ab)(hR:Rel D A) :
    aq Tryz.prog 58 [ptr bd] [fI bd D] (fun v H=>∃D',Rel D' A.cj.2∧H=[fI bd D']∧v = .int .i64 A.cj.1):=by
  refine aq.aj Tryz.func58 Tryz.ntmps58 fun G F R hE=>?_
  refine go ?_
  refine bR [0] zr zr zr zr (ui bd D A hR true) rfl iE ?_
  rintro _ _⟨D',eM,rfl,rfl⟩
  refine go ?_
  refine dj zr zr ?_ ?_
  · intro h0
    have mU:¬(A.meet true).1=0:=by have:=of_decide_eq_true h0;omega
    have hf:A.cj=((A.meet true).1,(A.meet true).2):=by simp[Ab.cj,mU]
    rw[hf]at hE
    refine go ?_
    refine aG hE Tryz.func58 rfl _ rfl ⟨D',eM,rfl,rfl⟩ (ao.fin [0] 0 zr zr)
  · intro h0
    have mU:(A.meet true).1=0:=by have:=of_decide_eq_false h0;omega
    have hf:A.cj=(0,{ (A.meet true).2 with aR:=[(A.meet true).2.names] }):=by simp[Ab.cj,mU]
    rw[hf]at hE
    obtain⟨room,bm,ke,mK,nr,off,maps,eJ,files,kf,wl⟩:=D'
    refine ak (gS _ _ _ _ _ _ _ _ _ _ _ _ _) (go ?_)
    refine al zr zr zr zr zr zr zr zr zr bh ?_
    intro b0
    refine go ?_
    refine ak (eL 58 1 b0 1 1 [.map (some bm)] [] _ rfl (Nat.le_refl _) (by simp)) ?_
    refine ak (ao.pick [1,2,3,4,0,6] rfl) ?_
    refine ak (de bd room bm _ mK nr off maps eJ files [bm] wl _) ?_
    have Nd:Rel ⟨room,bm,.slice (some ⟨b0,0,none⟩) 1 1,mK,nr,off,maps,eJ,files,[bm],wl⟩ { (A.meet true).2 with aR:=[(A.meet true).2.names] } :=
      { room:=eM.room,off:=eM.off,names:=eM.names,aR:=eY.one eM.names,fs:=eM.fs,writes:=eM.writes,cZ:=eM.cZ,ids:=eM.ids
        known:=fun st dD=>eM.known st (by simp only[List.mem_cons,List.not_mem_nil,or_false]at dD;rcases dD with rfl|rfl <;> exact List.mem_cons_self ..)
        gl:=eM.gl
        nodup:=fun st dD=>eM.nodup st (by simp only[List.mem_cons,List.not_mem_nil,or_false]at dD;rcases dD with rfl|rfl <;> exact List.mem_cons_self ..)
        fC:=eM.fC,gM:=eM.gM
        eA:=fun st dD=>eM.eA st (by simp only[List.mem_cons,List.not_mem_nil,or_false]at dD;rcases dD with rfl|rfl <;> exact List.mem_cons_self ..)
        gk:=eM.gk,ji:=eM.ji,full:=by simp }
    refine aG hE Tryz.func58 rfl _ rfl ⟨_,Nd,rfl,rfl⟩ (ao.fin [0] 1 zr zr)
theorem eY.filter{α β:Type}{q:α→β→Prop}{l:List α}{r:List β}(h:eY q l r){p1:α→Bool}{p2:β→Bool}(hp:∀x y,q x y→p1 x=p2 y):eY q (l.filter p1) (r.filter p2):=by
 induction l generalizing r with
 | nil =>
  have:r=[]:=List.eq_nil_of_length_eq_zero h.1.symm
  grind
 | cons x l ih =>
  cases r with
  | nil=>exact absurd h.1 (by simp)
  | cons y r =>
   have h0:=h.2 0 x y zr zr
   have ht:eY q l r:=⟨by have:=h.1;simpa using this,fun i a b ha hb=>h.2 (i+1) a b (by simpa using ha) (by simpa using hb)⟩
   rw[List.filter_cons,List.filter_cons,hp x y h0]
   split
   ·exact(ih ht).cons h0
   grind
theorem IM{fs:List (Nat × List UInt8 × List UInt8)}(hn:(fs.map (·.1)).Nodup){x:List UInt8 × List UInt8}(hi:fs[i]?=some (f,x)):Ab.nc fs f=fs.set i (f,x.1,x.1):=by
 induction fs generalizing i with
 | nil=>simp at hi
 | cons y l ih =>
  simp only[List.map_cons,List.nodup_cons]at hn
  cases i with
  | zero =>
   simp at hi
   subst hi
   simp only[Ab.nc,List.map_cons,if_true,List.set_cons_zero,List.cons.injEq,true_and]
   rw[List.map_congr_left (g:=id) (fun z hz=>?_),List.map_id]
   grind
  | succ i =>
   simp at hi
   have fy:y.1≠f:=fun e=>hn.1 (List.mem_map.2 ⟨_,List.mem_of_getElem? hi,e.symm⟩)
   have:=ih hn.2 hi
   simp only[Ab.nc]at this
   simp only[Ab.nc,List.map_cons,fy,if_false,List.set_cons_succ,this]
theorem tt(fs:List (Nat × List UInt8 × List UInt8))(f:Nat):(Ab.nc fs f).map (·.1)=fs.map (·.1):=by
 simp only[Ab.nc,List.map_map]
 apply List.map_congr_left
 grind
theorem Rel.synced{D:Dk}(h:Rel D A){w:Value}(hi:D.files[i]?=some (f,v1,v2))(ha:A.fs[i]?=some (f,A.now f,A.sure f)) :
  Rel { D with files:=D.files.set i (f,v1,v1),mK:=w,wl:=D.wl.filter fun x => !decide (x.1=f) } { A with fs:=Ab.nc A.fs f,writes:=A.writes.filter fun x => !decide (x.1=f) } where
 room:=h.room
 off:=h.off
 names:=h.names
 aR:=h.aR
 fs:=by
  rw[IM h.ids ha]
  have h2:=h.fs.2 i _ _ hi ha
  exact eY.set h.fs i ⟨rfl,h2.2.1,h2.2.1⟩
 writes:=eY.filter h.writes (fun x y GL=>by rw[GL.1])
 cZ:=h.cZ
 ids:=by simp only[tt];exact h.ids
 known:=by simp only[tt];exact h.known
 gl:=by
  simp only[tt]
  exact fun x hx=>h.gl x (List.mem_filter.1 hx).1
 nodup:=h.nodup
 fC:=by
  intro x hx
  simp only[Ab.nc,List.mem_map]at hx
  obtain⟨y,hy,rfl⟩:=hx
  have:=h.fC y hy
  grind
 gM:=fun x hx=>h.gM x (List.mem_filter.1 hx).1
 eA:=h.eA
 gk:=h.gk
 ji:=h.ji
 full:=h.full
theorem K8(bd:Nat)(D:Dk)(A:Ab)(hR:Rel D A)(name:ByteArray)(lg:A.writes.length≤1000000000) :
  aq Tryz.prog 230 [ptr bd,.string name] [fI bd D]
   (fun v H=>∃D',Rel D' (A.sync (isName name) name).2∧H=[fI bd D']∧v = .int .i64 (A.sync (isName name) name).1):=by
 refine aq.aj Tryz.func230 Tryz.ntmps230 fun G F R hE=>?_
 refine go ?_
 refine al zr zr zr zr zr zr zr zr zr bh ?_
 intro b0
 refine go ?_
 refine bR [0] zr zr zr zr (gW _ _ [name] (Vw.ag rfl) (by simp)) rfl iE ?_
 rintro _ _⟨rfl,rfl⟩
 have e1:[name].all isName=isName name:=by simp
 rw[e1]
 refine go ?_
 refine bR [1] zr zr zr zr (iv bd D A hR name (isName name)) rfl iE ?_
 generalize hJ:isName name=ok at hE ⊢
 rintro _ _⟨D',eM,rfl,rfl⟩
 by_cases mU:(A.find name ok).1=0
 ·obtain⟨VC,fl,qD,dF⟩:=j0 mU
  have hw:A.sync ok name=(0,{ (A.find name ok).2.2 with fs:=Ab.nc (A.find name ok).2.2.fs fl,writes:=(A.find name ok).2.2.writes.filter fun x => !decide (x.1=fl) }):=by simp[Ab.sync,mU,qD]
  rw[hw]at hE
  rw[qD,mU]
  have aaQ:(A.find name ok).2.2.writes.length≤1000000000:=by rw[(lH A name ok).2.2.2.1];exact lg
  generalize (A.find name ok).2.2=A1 at *
  obtain⟨room,bm,ke,mK,nr,off,maps,eJ,files,kf,wl⟩:=D'
  obtain⟨i,v1,v2,hi,Bb,lB,p5⟩:=eM.file (f:=fl) (eM.known _ (List.mem_cons_self ..) _ dF)
  obtain⟨a,cap,rfl,gg⟩:=lB.shape
  refine go ?_
  refine az zr zr zr bh ?_
  intro c5
  refine go ?_
  refine ak (ao.pick [1] rfl) ?_
  refine ak (gS _ _ _ _ _ _ _ _ _ _ _ _ _) ?_
  refine ak (ao.pick [3] rfl) ?_
  refine ak (jI fG hi _) ?_
  refine aJ (fun w=>Sat G w ([ag c5 (cl [ptr fl] 221),ag fl (cl [.slice a (A1.now fl).length cap,v2] 326)])) (cM 0 7 (.act 7 .nil)) rfl ae ae ae (fun w hw=>hw.cn (ao.bE ([7,0]) rfl)) ?_
  refine go ?_
  refine aS (wM fG (y:=(fl,.slice a (A1.now fl).length cap,.slice a (A1.now fl).length cap)) hi _) ?_
  refine aS (ao.pick [6,0] rfl) ?_
  refine aS (ao.join _ _ _) ?_
  have mM:(files.set i (fl,.slice a (A1.now fl).length cap,.slice a (A1.now fl).length cap)).map (·.1)=files.map (·.1):=by
   rw[List.map_set]
   apply List.ext_getElem?
   grind
  have M4:=eM.Z7
  simp only at M4
  have hwx:∀x∈wl,(∃a n c,x.2.2 = .slice a n c)∧x.1∈files.map (·.1):=fun x hx=>by
   obtain⟨j,hj⟩:=List.getElem?_of_mem hx
   obtain⟨y,hy,h1,_,h3⟩:=eM.writes.left hj
   obtain⟨a,c,h4,_⟩:=h3.shape
   refine⟨⟨_,_,_,h4⟩,?_⟩
   rw[M4,h1]
   exact eM.gl y (List.mem_of_getElem? hy)
  refine bR [5,0] zr zr zr zr (sI mK wl (star (ag c5 (cl [ptr fl] 221)) (aP fG (files.set i (fl,.slice a (A1.now fl).length cap,.slice a (A1.now fl).length cap)))) 321 [ptr c5] (fun x=>decide (x.1=fl)) (by have:=eM.writes.1;simp only at this;omega) (fun x hx=>(hwx x hx).1)
   (fun x hx=>HH c5 fl x.1 x.2.1 x.2.2 _ (by rw[mM,M4];exact List.mem_map.2 ⟨_,List.mem_of_getElem? Bb,rfl⟩) (by rw[mM];exact(hwx x hx).2) (by obtain⟨⟨a,n,c,h⟩,_⟩:=hwx x hx;rw[h];rfl))) rfl iE ?_
  rintro r _ rfl
  refine aL 0 rfl ?_
  rintro ar cr rfl
  refine go ?_
  refine ak (ao.pick [1] rfl) ?_
  refine ak (ao.part _ _ _) ?_
  refine ak (ao.pick [3,4,5,1,6,2] rfl) ?_
  refine ak (de bd room bm ke _ nr off maps eJ _ kf _ _) ?_
  refine aG hE Tryz.func230 rfl _ rfl ⟨_,eM.synced hi Bb,rfl,rfl⟩ (ao.fin [0] 2 zr zr)
 ·have hw:A.sync ok name=((A.find name ok).1,(A.find name ok).2.2):=by simp[Ab.sync,mU]
  rw[hw]at hE
  cases zW:(A.find name ok).2.1 with
  | none =>
   refine go ?_
   refine az zr zr zr bh ?_
   intro c5
   refine go ?_
   refine dj zr zr ?_ ?_
   ·intro _
    refine go ?_
    refine aG hE Tryz.func230 rfl _ rfl ⟨D',eM,rfl,rfl⟩ (ao.fin [1] 2 zr zr)
   ·intro h;exfalso;have:=of_decide_eq_false h;omega
  | some fl =>
   refine go ?_
   refine az zr zr zr bh ?_
   intro c5
   refine go ?_
   refine dj zr zr ?_ ?_
   ·intro _
    refine go ?_
    refine aG hE Tryz.func230 rfl _ rfl ⟨D',eM,rfl,rfl⟩ (ao.fin [1] 2 zr zr)
   ·intro h;exfalso;have:=of_decide_eq_false h;omega
abbrev Fss:=List (Nat × List UInt8 × List UInt8)
def mark(S:List Nat)(fs:Fss):Fss:=fs.map fun x=>if x.1∈S then(x.1,x.2.2,x.2.2)else x
def Em(bd:Nat)(D:Dk)(A:Ab)(hR:Rel D A)(old name:ByteArray)(dD:A.aR.length≤1000000000) :
  aq Tryz.prog 232 [ptr bd,.string old,.string name] [fI bd D]
   (fun v H=>∃D',Rel D' (A.rename ([old,name].all isName) old name).2∧H=[fI bd D']∧v = .int .i64 (A.rename ([old,name].all isName) old name).1):=by
 refine aq.aj Tryz.func232 Tryz.ntmps232 fun G F R hE=>?_
 refine go ?_
 refine bp zr zr bh ?_
 intro u4
 refine bp zr zr bh ?_
 intro u3
 refine go ?_
 cases zW:(A.find old ([old,name].all isName)).2.1 with
 | none =>
  refine aJ (fun w=>Sat G w ([ag u3 (cl [.string name] 9),ag u4 (cl [.string old] 9)])) (cM 0 4 (.fork (.act 4 (.fork (.act 5 (.fork (.act 6 (cM 7 3 (.act 10 (.act 11 (.st 12 .nil))))) (.act 10 (.act 6 (cM 7 3 (.act 11 (.st 12 .nil))))))) (.act 10 (.act 5 (.act 6 (cM 7 3 (.act 11 (.st 12 .nil)))))))) (.act 10 (.act 4 (.act 5 (.act 6 (cM 7 3 (.act 11 (.st 12 .nil))))))))) rfl ae ae ae (fun w hw=>hw.cn (ao.bE ([0,1]) rfl)) ?_
  repeat'(first|(with_reducible intro iI)|refine fq ?_|refine od ?_ ?_|refine au zr zr ?_ ?_|(refine al zr zr zr zr zr zr zr zr zr (fun _ w hw=>hw.cn (by first|exact ao.bE [1,2] rfl|exact ao.bE [2,3] rfl)) ?_;intro _)|(refine az zr zr zr (fun _ w hw=>hw.cn (by first|exact ao.bE [1,2] rfl|exact ao.bE [2,3] rfl|exact ao.bE [3,4] rfl)) ?_;intro _)|(refine bR [0] rfl rfl rfl rfl (gW _ _ [old,name] (Vw.ag rfl) (by simp)) rfl (fun _ _ w hp hw=>by obtain⟨_,rfl⟩:=hp;exact(fun _ w hw=>hw.cn (by first|exact ao.bE [1,2] rfl|exact ao.bE [2,3] rfl)) 0 w hw) ?_;rintro _ _⟨rfl,rfl⟩)|(refine bR [1] rfl rfl rfl rfl (gW _ _ [old,name] (Vw.ag rfl) (by simp)) rfl (fun _ _ w hp hw=>by obtain⟨_,rfl⟩:=hp;exact(fun _ w hw=>hw.cn (by(exact ao.bE [2,3] rfl))) 0 w hw) ?_;rintro _ _⟨rfl,rfl⟩)|(refine bR [3] rfl rfl rfl rfl (iv bd D A hR old ([old,name].all isName)) rfl (fun _ _ w hp hw=>by obtain⟨_,_,rfl,_⟩:=hp;exact(fun _ w hw=>hw.cn (by(exact ao.bE [2,3] rfl))) 0 w hw) ?_;rintro _ _⟨D',eM,rfl,rfl⟩;rw[zW])|(refine bR [4] rfl rfl rfl rfl (iv bd D A hR old ([old,name].all isName)) rfl (fun _ _ w hp hw=>by obtain⟨_,_,rfl,_⟩:=hp;exact(fun _ w hw=>hw.cn (by(exact ao.bE [3,4] rfl))) 0 w hw) ?_;rintro _ _⟨D',eM,rfl,rfl⟩;rw[zW])|(refine aY ?_;first|refine bG 0 (fun w hw=>(fun _ w hw=>hw.cn (by(exact ao.bE [3,4] rfl))) 0 w hw) zr zr zr zr zr zr zr zr zr ?_|refine bG 1 (fun w hw=>(fun _ w hw=>hw.cn (by(exact ao.bE [3,4] rfl))) 0 w hw) zr zr zr zr zr zr zr zr zr ?_|refine bG 2 (fun w hw=>(fun _ w hw=>hw.cn (by(exact ao.bE [3,4] rfl))) 0 w hw) zr zr zr zr zr zr zr zr zr ?_))
  all_goals(
   have mU:¬(A.find old ([old,name].all isName)).1=0:=fun h=>by obtain⟨_,fl,h1,_⟩:=j0 h;rw[zW]at h1;cases h1
   have hw:A.rename ([old,name].all isName) old name=((A.find old ([old,name].all isName)).1,(A.find old ([old,name].all isName)).2.2):=by
    unfold Ab.rename
    generalize A.find old ([old,name].all isName)=z at mU zW ⊢
    obtain⟨e,fo,A1⟩:=z
    simp only at zW
    subst zW
    cases e <;> rfl
   rw[hw]at hE
   first|(exfalso;omega)|refine aG hE Tryz.func232 rfl _ rfl ⟨D',eM,rfl,rfl⟩ (ao.fin [0] 4 zr zr)|refine aG hE Tryz.func232 rfl _ rfl ⟨D',eM,rfl,rfl⟩ (ao.fin [1] 4 zr zr))
 | some fl =>
  refine aJ (fun w=>Sat G w ([ag u3 (cl [.string name] 9),ag u4 (cl [.string old] 9)])) (cM 0 4 (.fork (.act 4 (.fork (.act 5 (.fork (.act 6 (cM 7 3 (.act 10 (.act 11 (.st 12 .nil))))) (.act 10 (.act 6 (cM 7 3 (.act 11 (.st 12 .nil))))))) (.act 10 (.act 5 (.act 6 (cM 7 3 (.act 11 (.st 12 .nil)))))))) (.act 10 (.act 4 (.act 5 (.act 6 (cM 7 3 (.act 11 (.st 12 .nil))))))))) rfl ae ae ae (fun w hw=>hw.cn (ao.bE ([0,1]) rfl)) ?_
  repeat'(first|(with_reducible intro iI)|refine fq ?_|refine od ?_ ?_|refine au zr zr ?_ ?_|(refine al zr zr zr zr zr zr zr zr zr (fun _ w hw=>hw.cn (by first|exact ao.bE [1,2] rfl|exact ao.bE [2,3] rfl)) ?_;intro _)|(refine az zr zr zr (fun _ w hw=>hw.cn (by first|exact ao.bE [1,2] rfl|exact ao.bE [2,3] rfl|exact ao.bE [3,4] rfl)) ?_;intro _)|(refine bR [0] rfl rfl rfl rfl (gW _ _ [old,name] (Vw.ag rfl) (by simp)) rfl (fun _ _ w hp hw=>by obtain⟨_,rfl⟩:=hp;exact(fun _ w hw=>hw.cn (by first|exact ao.bE [1,2] rfl|exact ao.bE [2,3] rfl)) 0 w hw) ?_;rintro _ _⟨rfl,rfl⟩)|(refine bR [1] rfl rfl rfl rfl (gW _ _ [old,name] (Vw.ag rfl) (by simp)) rfl (fun _ _ w hp hw=>by obtain⟨_,rfl⟩:=hp;exact(fun _ w hw=>hw.cn (by(exact ao.bE [2,3] rfl))) 0 w hw) ?_;rintro _ _⟨rfl,rfl⟩)|(refine bR [3] rfl rfl rfl rfl (iv bd D A hR old ([old,name].all isName)) rfl (fun _ _ w hp hw=>by obtain⟨_,_,rfl,_⟩:=hp;exact(fun _ w hw=>hw.cn (by(exact ao.bE [2,3] rfl))) 0 w hw) ?_;rintro _ _⟨D',eM,rfl,rfl⟩;rw[zW])|(refine bR [4] rfl rfl rfl rfl (iv bd D A hR old ([old,name].all isName)) rfl (fun _ _ w hp hw=>by obtain⟨_,_,rfl,_⟩:=hp;exact(fun _ w hw=>hw.cn (by(exact ao.bE [3,4] rfl))) 0 w hw) ?_;rintro _ _⟨D',eM,rfl,rfl⟩;rw[zW])|(refine aY ?_;first|refine bG 0 (fun w hw=>(fun _ w hw=>hw.cn (by(exact ao.bE [3,4] rfl))) 0 w hw) zr zr zr zr zr zr zr zr zr ?_|refine bG 1 (fun w hw=>(fun _ w hw=>hw.cn (by(exact ao.bE [3,4] rfl))) 0 w hw) zr zr zr zr zr zr zr zr zr ?_|refine bG 2 (fun w hw=>(fun _ w hw=>hw.cn (by(exact ao.bE [3,4] rfl))) 0 w hw) zr zr zr zr zr zr zr zr zr ?_))
  all_goals(
   have mU:(A.find old ([old,name].all isName)).1=0:=by
    rcases Nat.eq_zero_or_pos (A.find old ([old,name].all isName)).1 with h|h
    ·exact h
    ·exfalso
     unfold Ab.find at zW h
     split at zW
     ·rename_i h1
      rw[if_pos h1]at h
      cases hl:(A.meet ([old,name].all isName)).2.look old with
      | none=>rw[hl]at zW;cases zW
      | some f=>rw[hl]at h;simp at h
     ·cases zW)
  any_goals (exfalso;omega)
  all_goals(
   obtain⟨_,fl',ZA,dF⟩:=j0 mU
   rw[zW]at ZA
   cases ZA
   have hw:A.rename ([old,name].all isName) old name=(0,(A.find old ([old,name].all isName)).2.2.oD (Ab.jj (Ab.dI (A.find old ([old,name].all isName)).2.2.names old) name fl)):=by
    unfold Ab.rename
    generalize A.find old ([old,name].all isName)=z at mU zW ⊢
    obtain⟨e,fo,A1⟩:=z
    simp only at mU zW
    subst mU zW
    rfl
   rw[hw]at hE
   have Kd:(A.find old ([old,name].all isName)).2.2.aR.length≤1000000000:=by rw[(lH A old _).2.2.1];exact dD
   generalize (A.find old ([old,name].all isName)).2.2=A1 at *
   have Kb:D'.kf.length≤1000000000:=by rw[eM.aR.1];exact Kd
   have hN:=eM.eA _ (List.mem_cons_self ..)
   have cq:=Nq dF
   have VJ:=Ja (Ab.dI A1.names old) name fl
   have V6:∀b' v,Rel { D' with bm:=b',maps:=(b',eB (Ab.jj (Ab.dI A1.names old) name fl))::D'.maps,ke:=v,kf:=D'.kf++[b'] } (A1.oD (Ab.jj (Ab.dI A1.names old) name fl)):=fun b' v=>eM.oD
    (fun x hx=>by
     rcases I' hx with rfl|hx
     ·have:=eM.known _ (List.mem_cons_self ..) _ dF;exact this
     ·exact eM.known _ (List.mem_cons_self ..) _ (Bt hx).1)
    (CH (uR (eM.nodup _ (List.mem_cons_self ..)) old) name fl) ai
   first|(refine aS (ao.pick ([4,0,3,1]) rfl) ?_;refine aS (ao.cd [_,_,_] _) ?_;refine bR [1,0] zr zr zr zr (j4 (α:=Unit) bd D' A1.names eM.names 322 #[ptr u4,ptr _,ptr u3] _ (fun _=>Ab.jj (Ab.dI A1.names old) name fl) (fun _=>emp) (fun _=>True) (fun b'=>aq.post (nT b' u4 _ u3 fl A1.names old name) (fun v H h=>⟨(),trivial,h⟩)) Kb) rfl iE ?_;rintro _ _⟨_,b',v,_,rfl⟩;refine go ?_;refine aG hE Tryz.func232 rfl _ rfl ⟨_,V6 b' v,rfl,rfl⟩ (ao.fin [0] 2 zr zr))|(refine aS (ao.pick ([4,1,3,0]) rfl) ?_;refine aS (ao.cd [_,_,_] _) ?_;refine bR [1,0] zr zr zr zr (j4 (α:=Unit) bd D' A1.names eM.names 322 #[ptr u4,ptr _,ptr u3] _ (fun _=>Ab.jj (Ab.dI A1.names old) name fl) (fun _=>emp) (fun _=>True) (fun b'=>aq.post (nT b' u4 _ u3 fl A1.names old name) (fun v H h=>⟨(),trivial,h⟩)) Kb) rfl iE ?_;rintro _ _⟨_,b',v,_,rfl⟩;refine go ?_;refine aG hE Tryz.func232 rfl _ rfl ⟨_,V6 b' v,rfl,rfl⟩ (ao.fin [0] 2 zr zr))|(refine aS (ao.pick ([4,2,3,0]) rfl) ?_;refine aS (ao.cd [_,_,_] _) ?_;refine bR [1,0] zr zr zr zr (j4 (α:=Unit) bd D' A1.names eM.names 322 #[ptr u4,ptr _,ptr u3] _ (fun _=>Ab.jj (Ab.dI A1.names old) name fl) (fun _=>emp) (fun _=>True) (fun b'=>aq.post (nT b' u4 _ u3 fl A1.names old name) (fun v H h=>⟨(),trivial,h⟩)) Kb) rfl iE ?_;rintro _ _⟨_,b',v,_,rfl⟩;refine go ?_;refine aG hE Tryz.func232 rfl _ rfl ⟨_,V6 b' v,rfl,rfl⟩ (ao.fin [0] 2 zr zr)))
attribute [local irreducible] aZ
def uf(n:Nat)(h:n<9223372036854775808):aq Tryz.prog 318 [.int .i64 (n:Int)] [] (fun v H=>∃b,v = .slice (some ⟨b,0,none⟩) 4 4∧H=[ag b (cl (bV (AS n)) 5)]):=by
 refine aq.aj Tryz.func318 Tryz.ntmps318 fun G F R hE=>?_
 (repeat(first|refine fq ?_|refine jO zr zr zr zr zr zr ?_|refine iA zr zr zr ai ?_))
 refine aD 4 (u8 (UInt8.ofNat n)) rfl (me n) ?_
 refine aD 7 (u8 (UInt8.ofNat (n/256))) rfl (by rw[show(n:Int)/2 ^ (min (Int.toNat 8) IntKind.i64.bits)=((n/256:Nat):Int)from by show(n:Int)/256=_;omega];exact me _) ?_
 refine aD 10 (u8 (UInt8.ofNat (n/65536))) rfl (by rw[show(n:Int)/2 ^ (min (Int.toNat 16) IntKind.i64.bits)=((n/65536:Nat):Int)from by show(n:Int)/65536=_;omega];exact me _) ?_
 refine aD 13 (u8 (UInt8.ofNat (n/16777216))) rfl (by rw[show(n:Int)/2 ^ (min (Int.toNat 24) IntKind.i64.bits)=((n/16777216:Nat):Int)from by show(n:Int)/16777216=_;omega];exact me _) ?_
 refine al (cs:=bV (AS n)) zr zr zr zr zr zr zr zr zr bh ?_
 intro b
 refine go ?_
 refine ad hE Tryz.func318 zr zr ⟨b,rfl,rfl⟩
def z6(A:HP)(v:Value)(bs:List UInt8)(hv:Vw A v bs.length (bV bs))(h:4≤bs.length):aq Tryz.prog 221 [v] [A] (fun r H=>r = .int .i64 (ow bs:Int)∧H=[A]):=by
 obtain⟨b,o,c,rfl⟩:=KV hv ai
 have hx:∀x:UInt8,x.toNat<256:=fun x=>x.toNat_lt
 have h0:=hx (bs.getD 0 0);have h1:=hx (bs.getD 1 0);have h2:=hx (bs.getD 2 0);have h3:=hx (bs.getD 3 0)
 refine aq.aj Tryz.func221 Tryz.ntmps221 fun G F R hE=>?_
 refine go ?_
 refine aJ (fun w=>Sat G w ([A])) (ke 0 23 .nil) rfl ae ae ae cY ?_
 refine go ?_
 refine bC 0 zr zr zr zr zr zr zr zr ai ?_
 refine dp 0 0 zr zr zr hv rfl (sW ai) zr zr (go ?_)
 refine bC 1 zr zr zr zr zr zr zr zr ai ?_
 refine dp 0 1 zr zr zr hv rfl (sW ai) zr zr (go ?_)
 refine nZ zr zr zr ai ?_
 refine aD 11 (.int .i64 (((bs.getD 1 0).toNat*2 ^ 8:Nat):Int)) rfl (tM (q:=8) _ rfl ai) (go ?_)
 refine aD 12 (.int .i64 (((bs.getD 0 0).toNat+(bs.getD 1 0).toNat*2 ^ 8:Nat):Int)) rfl (congrArg (Value.int .i64) (C5 ai ai)) ?_
 refine bC 2 zr zr zr zr zr zr zr zr ai ?_
 refine dp 0 2 zr zr zr hv rfl (sW ai) zr zr (go ?_)
 refine nZ zr zr zr ai ?_
 refine aD 17 (.int .i64 (((bs.getD 2 0).toNat*2 ^ 16:Nat):Int)) rfl (tM (q:=16) _ rfl ai) (go ?_)
 refine aD 18 (.int .i64 (((bs.getD 0 0).toNat+(bs.getD 1 0).toNat*2 ^ 8+(bs.getD 2 0).toNat*2 ^ 16:Nat):Int)) rfl (congrArg (Value.int .i64) (C5 ai ai)) ?_
 refine bC 3 zr zr zr zr zr zr zr zr ai ?_
 refine dp 0 3 zr zr zr hv rfl (sW ai) zr zr (go ?_)
 refine nZ zr zr zr ai ?_
 refine aD 23 (.int .i64 (((bs.getD 3 0).toNat*2 ^ 24:Nat):Int)) rfl (tM (q:=24) _ rfl ai) (go ?_)
 refine aV 2 (.int .i64 (ow bs:Int)) rfl (congrArg (Value.int .i64) (C5 ai ai)) ?_
 refine ad hE Tryz.func221 zr zr ⟨rfl,rfl⟩
def H9(A B:HP)(v1 v2:Value)(b1 b2:List UInt8)(h1:Vw A v1 b1.length (bV b1))(h2:Vw B v2 b2.length (bV b2)):aq Tryz.prog 222 [v1,v2] [A,B] (fun r H=>r = .bool (decide (b1=b2))∧H=[A,B]):=by
 obtain⟨a1,c1,rfl⟩:=h1.shape
 obtain⟨a2,c2,rfl⟩:=h2.shape
 refine aq.aj Tryz.func222 Tryz.ntmps222 fun G F R hE=>?_
 refine go ?_
 refine zH (U:=aU) 0 zr zr zr zr zr zr zr zr zr h1 (go ?_)
 refine zH (U:=aU) 1 zr zr zr zr zr zr zr zr zr h2 (go ?_)
 rw[xP]
 refine ad hE Tryz.func222 zr zr ⟨rfl,rfl⟩
theorem HU(a b:Nat)(ha:a<4294967296)(hb:b<4294967296):aq Tryz.prog 170 [.int .u64 (a:Int),.int .u64 (b:Int)] [] (fun r H=>r = .tuple #[.int .u64 0,.int .u64 ((a*b:Nat):Int)]∧H=[]):=by
 have hab:a*b<18446744073709551616:=Nat.lt_of_lt_of_le (Nat.mul_lt_mul'' ha hb) ai
 have hw:∀x:Nat,x<18446744073709551616→IntKind.u64.wrap (x:Int)=(x:Int):=fun x hx=>cT (by simp only[gm];omega)
 have hm:∀x:Nat,x<4294967296→IntKind.u64.wrap ((BitVec.ofInt IntKind.u64.bits (x:Int) &&& BitVec.ofInt IntKind.u64.bits 4294967295).toNat:Int)=(x:Int):=fun x hx=>by
  have:=qg x 32 ai ai
  grind
 have hs:∀x:Nat,x<4294967296→(x:Int)/2 ^ (min (Int.toNat 32) IntKind.u64.bits)=0:=fun x hx=>by show(x:Int)/4294967296=0;omega
 refine aq.aj Tryz.func170 Tryz.ntmps170 fun G F R hE=>?_
 refine go ?_
 refine aD 6 (.int .u64 (a:Int)) rfl (congrArg (Value.int .u64) (hm a ha)) ?_
 refine iA zr zr zr ai ?_
 refine aD 17 (.int .u64 0) rfl (congrArg (Value.int .u64) (hs a ha)) (go ?_)
 refine aD 8 (.int .u64 (b:Int)) rfl (congrArg (Value.int .u64) (hm b hb)) ?_
 refine iA zr zr zr ai ?_
 refine aD 21 (.int .u64 0) rfl (congrArg (Value.int .u64) (hs b hb)) (go ?_)
 refine hG zr zr zr (by rw[← Int.natCast_mul];simp only[gm];omega) ?_
 refine aD 24 (.int .u64 ((a*b:Nat):Int)) rfl (by rw[Int.natCast_mul]) (go ?_)
 refine hG zr zr zr (by simp[gm]) ?_
 refine aD 27 (.int .u64 0) rfl (by simp) (go ?_)
 refine iA zr zr zr ai ?_
 refine aD 29 (.int .u64 ((a*b/4294967296:Nat):Int)) rfl (congrArg (Value.int .u64) (by show((a*b:Nat):Int)/4294967296=_;omega)) ?_
 refine go ?_
 refine aD 11 (.int .u64 ((a*b/4294967296:Nat):Int)) rfl (congrArg (Value.int .u64) ai) (go ?_)
 have hq:a*b/4294967296<4294967296:=by omega
 refine aD 12 (.int .u64 ((a*b/4294967296:Nat):Int)) rfl (congrArg (Value.int .u64) (by rw[show(0:Int)+((a*b/4294967296:Nat):Int)=((a*b/4294967296:Nat):Int)from by omega];exact hm _ hq)) ?_
 refine iA zr zr zr ai ?_
 refine aD 34 (.int .u64 0) rfl (congrArg (Value.int .u64) (by simp only[Int.zero_add,Int.add_zero];exact hs _ hq)) ?_
 refine go ?_
 refine hG zr zr zr (by simp[gm]) ?_
 refine aD 38 (.int .u64 0) rfl (by simp) (go ?_)
 refine hG zr zr zr (by simp[gm]) ?_
 refine aD 42 (.int .u64 0) rfl (by simp) (go ?_)
 refine iA zr zr zr ai ?_
 refine aD 46 (.int .u64 0) rfl (congrArg (Value.int .u64) (by rw[show((a*b/4294967296:Nat):Int)+0=((a*b/4294967296:Nat):Int)from by omega];exact hs (a*b/4294967296) hq)) ?_
 refine go ?_
 refine hG zr zr zr (by rw[← Int.natCast_mul];simp only[gm];omega) ?_
 refine aD 50 (.int .u64 ((a*b:Nat):Int)) rfl (by rw[Int.natCast_mul]) (go ?_)
 refine ad hE Tryz.func170 zr zr ⟨rfl,rfl⟩
def NG(a b:Nat)(ha:a<4294967296)(hb:b<4294967296):aq Tryz.prog 389 [.int .u64 (a:Int),.int .u64 (b:Int)] [] (fun r H=>r = .tuple #[.int .u64 0,.int .u64 ((a*b:Nat):Int)]∧H=[]):=by
 refine aq.aj Tryz.func389 Tryz.ntmps389 fun G F R hE=>?_
 refine go ?_
 refine aw (HU a b ha hb) ?_
 refine go ?_
 refine ad hE Tryz.func389 zr zr ⟨rfl,rfl⟩
theorem BN(v:Value)(bs:List UInt8)(h0:0<bs.length)(hl:bs.length≤1000) :
  aq Tryz.prog 317 [v,.int .i64 2] [aI 5 1 v bs.length (bV bs)] (fun r H=>H=[aI 5 1 r (bs++bs).length (bV (bs++bs))]):=by
 refine aq.aj Tryz.func317 Tryz.ntmps317 fun G F R hE=>?_
 refine rA 0 rfl h0 ?_
 rintro b o c rfl hc _ dt
 refine go ?_
 refine aw (NG bs.length 2 ai ai) ?_
 repeat'(first|(with_reducible intro iI)|refine fq ?_|refine au zr zr ?_ ?_)
 any_goals (exfalso;omega)
 obtain⟨N,hN⟩:∃N,N=bs.length*2:=⟨_,rfl⟩
 rw[← hN]
 refine zK (U:=aU) (t:=38) (elem:=5) (q:=N) rfl Tryz.func390 zr zr ae zr zr zr zr ai (fun _ _ _ _=>trivial) ?_
 intro nb c2 l W0 qY
 refine go ?_
 refine HY (U:=aU) (q:=(N:Int)) (r:=(N:Int)) zr zr zr zr zr zr zr ai ai ai ?_
 refine aD 57 (.slice (some ⟨nb,0,none⟩) N N) rfl (by rw[show((N:Int)).toNat=N from by omega];rw[SL.jB]) ?_
 refine go ?_
 refine FP (U:=aU) (src:=bV bs) (mm:=bs.length) (l':=bV bs++l.drop bs.length) 0 1 zr zr zr zr zr zr zr zr dt (by show _=_*1;rw[bJ];omega) (fun u hu=>dm bs u (List.mem_of_mem_take hu)) (by show 0+_*1≤_;omega) ?_ rfl eW ?_
 ·show _=List.take 0 l++List.take (min bs.length N*1) (bV bs)++List.drop (0+min bs.length N*1) l
  grind
 rw[show((min bs.length N:Nat):Int)=(bs.length:Int)from by omega]
 refine go ?_
 refine bn (fun _:Bool=>True) (fun s=>bif s then 0 else 1)
  (fun s=>[(7,.int .i64 (N:Int)),(8,.int .i64 (N:Int)),(9,.slice (some ⟨nb,0,none⟩) N N),(10,.int .i64 ((bif s then N else bs.length:Nat):Int))])
  (fun s=>ag nb (cl (bif s then bV (bs++bs)++l.drop N else bV bs++l.drop bs.length) 5)::F) false trivial rfl bQ ah ?_
 rintro s _ ih
 cases s with
 | true =>
  repeat'(first|(with_reducible intro iI)|refine fq ?_|refine au zr zr ?_ ?_)
  any_goals (exfalso;simp only[cond_true]at *;omega)
  simp only[cond_true]
  refine ak (eL 5 1 nb N N (bV (bs++bs)) (l.drop N) _ (by rw[bJ,List.length_append];omega) (Nat.le_refl _) (by rw[bJ,List.length_append,List.length_drop];omega)) ?_
  rw[show N=(bs++bs).length from by rw[List.length_append];omega]
  refine aG hE Tryz.func317 rfl _ zr zr ah
 | false =>
  repeat'(first|(with_reducible intro iI)|refine fq ?_|refine au zr zr ?_ ?_)
  any_goals (exfalso;simp only[cond_false]at *;omega)
  simp only[cond_false]
  rw[show min (bs.length:Int) (N:Int)=(bs.length:Int)from by omega]
  refine aJ (fun w=>Sat G w ([])) (ke 0 7 (.act 7 (ke 8 2 .nil))) rfl ae ae ae cY ?_
  refine go ?_
  refine bu (p:=(bs.length:Int)) (q:=(N:Int)) zr zr zr zr zr zr zr ai ai (.inl rfl) ?_
  refine aD 70 (.slice (some ⟨nb,bs.length,none⟩) bs.length bs.length) rfl (by rw[show((N:Int)).toNat=N from by omega,show((bs.length:Int)).toNat=bs.length from by omega,show N-bs.length=bs.length from by omega];show Value.slice (sliceAt _ N bs.length 1) _ _=_;rw[pP _ _ _ _ _ ai,Nat.zero_add,Nat.mul_one]) ?_
  refine go ?_
  refine bu (p:=0) (q:=(bs.length:Int)) zr zr zr zr zr zr zr ai ai (.inr ai) ?_
  refine aD 73 (.slice (some ⟨nb,0,none⟩) bs.length N) rfl (by rw[show(0:Int).toNat=0 from rfl,show((bs.length:Int)).toNat=bs.length from by omega,SL.jB];rfl) ?_
  refine FP (U:=aU) (src:=bV bs) (mm:=bs.length) (l':=bV (bs++bs)++l.drop N) 0 0 zr zr zr zr zr zr zr zr (Vw.ag (by simp)) (by show _=_*1;rw[bJ];omega) (fun u hu=>dm bs u (List.mem_of_mem_take hu)) (by show bs.length+_*1≤_;rw[List.length_append,bJ,List.length_drop];omega) ?_ rfl (fun _ hw=>hw.cn (ao.NR _)) ?_
  ·show _=List.take bs.length _++List.take (min bs.length bs.length*1) (bV bs)++List.drop (bs.length+min bs.length bs.length*1) _
   rw[show min bs.length bs.length*1=bs.length from by omega,List.take_of_length_le (l:=bV bs) (by rw[bJ];omega),List.take_left' (bJ bs),List.drop_append,bJ,show(bV bs).drop (bs.length+bs.length)=[]from List.drop_eq_nil_of_le (by rw[bJ];omega),List.drop_drop,show bs.length+(bs.length+bs.length-bs.length)=N from by omega]
   simp[bV]
  rw[show((min bs.length bs.length:Nat):Int)=(bs.length:Int)from by omega]
  refine go ?_
  refine aV 10 (.int .i64 (N:Int)) rfl (congrArg (Value.int .i64) ai) ?_
  refine aK ih true rfl trivial (by simp) bQ ah
def du(n m:Nat):List UInt8:=(AS n++AS m)++(AS n++AS m)
def qZ(n m:Nat):(du n m).length=16:=rfl
def Bg(n m:Nat)(h:n<9223372036854775808)(h2:m<9223372036854775808):aq Tryz.prog 223 [.int .i64 (n:Int),.int .i64 (m:Int)] [] (fun r H=>H=[aI 5 1 r (du n m).length (bV (du n m))]):=by
 refine aq.aj Tryz.func223 Tryz.ntmps223 fun G F R hE=>?_
 refine go ?_
 refine aF (uf n h) ?_
 rintro _ _⟨b1,rfl,rfl⟩
 refine go ?_
 refine aF (uf m h2) ?_
 rintro _ _⟨b2,rfl,rfl⟩
 refine aS (ao.pick [1] rfl) ?_
 refine aS (eL 5 1 b1 4 4 (bV (AS n)) [] _ rfl (Nat.le_refl _) (by simp[bJ,yV])) ?_
 refine aO (mm:=4) (news:=bV (AS m)) 0 1 zr zr zr zr zr zr zr zr zr zr zr zr (Vw.ag rfl) rfl (dm _) ai (by show(4+4)*1≤_;omega) (fun _=>rfl) bh ?_
 intro v1
 rw[show bV (AS n)++bV (AS m)=bV (AS n++AS m)from by simp[bV],show 4+4=(AS n++AS m).length from rfl]
 refine aF (BN v1 (AS n++AS m) (by simp[yV]) (by simp[yV])) ?_
 rintro r _ rfl
 refine go ?_
 refine aG hE Tryz.func223 rfl _ zr zr ah
def sk(A:HP)(v:Value)(bs:List UInt8)(hv:fb A v bs)(hl:bs.length≤1000000000000):aq Tryz.prog 145 [v] [A] (fun r H=>H=[aI 5 1 r (dH bs).length (bV (dH bs)),A]):=by
 obtain⟨a,c,rfl,hc⟩:=hv.2
 refine aq.aj Tryz.func145 Tryz.ntmps145 fun G F R hE=>?_
 refine go ?_
 refine aF (j5 bs.length ai) ?_
 rintro r _ rfl
 refine aL 0 rfl ?_
 rintro ra rc rfl
 refine go ?_
 have hu:=na (n:=bs.length) ai
 refine aO (mm:=bs.length) (news:=bV bs) 0 1 zr zr zr zr zr zr zr zr zr zr zr zr hv.1 (by show _=_*1;rw[bJ];omega) (dm _) ai (by show(_+_)*1≤_;omega) (fun _=>rfl) bh ?_
 intro v1
 rw[show bV (uv bs.length)++bV bs=bV (dH bs)from by simp[bV,dH],show(uv bs.length).length+bs.length=(dH bs).length from by simp[dH]]
 refine go ?_
 refine aG hE Tryz.func145 rfl _ zr zr ah
theorem JZ(A:HP)(v:Value)(bs:List UInt8)(hv:fb A v bs)(hl:bs.length≤9223372036854775807) :
    aq Tryz.prog 220 [v] [A] (fun r H=>r=(match mB bs with
      | some (k,n) => .tuple #[.int .i64 (k:Int),.int .i64 (n:Int),.bool (decide (n≤4096))]
      | none => .tuple #[.int .i64 0,.int .i64 0,.bool false])∧H=[A]):=by
  obtain⟨a,c,rfl,hc⟩:=hv.2
  refine aq.aj Tryz.func220 Tryz.ntmps220 fun G F R hE=>?_
  refine go ?_
  refine bn (fun k:Nat=>1≤k∧k≤3∧(2≤k→1≤bs.length∧cO (bs.take 1)=none)∧(3≤k→2≤bs.length∧cO (bs.take 2)=none)) (fun k=>3-k)
    (fun k=>[(0,.slice a bs.length c),(5,.int .i64 (k:Int))])
    (fun _=>A::F) 1 ⟨ai,ai,ai,ai⟩ rfl bQ ah ?_
  rintro k⟨Ix,DK,h1,h2⟩ ih
  refine go ?_
  refine au zr zr ?_ ?_
  case' refine_2 =>
    intro ek
    have hn:mB bs=none:=by
      unfold mB
      split
      · obtain⟨_,h3⟩:=h1 ai
        rw[h3]
        simp only
        split
        · obtain⟨_,h4⟩:=h2 ai
          rw[h4];rfl
        · rfl
      · rfl
    rw[hn]at hE
    refine go ?_
    refine ad hE Tryz.func220 zr zr ⟨rfl,rfl⟩
  intro cq
  have MW:k≤bs.length:=by omega
  refine go ?_
  refine bu (p:=0) (q:=(k:Int)) zr zr zr zr zr zr zr ai ai (.inr ai) ?_
  have hf:=hv.front k MW
  refine aD 18 (.slice (sliceAt a c 0 1) k c) rfl (by rw[show(0:Int).toNat=0 from rfl,show((k:Int)).toNat=k from by omega];rfl) ?_
  ((refine aF (j6 A _ (bs.take k) hf (by rw[List.length_take];omega)) ?_))
  cases hu:cO (bs.take k)with
  | none =>
    rintro _ _⟨rfl,rfl⟩
    refine go ?_
    refine aK ih (k+1) rfl ⟨ai,ai,fun h=>by
      by_cases hk:k=1
      · grind
      · exact h1 ai,fun h=>by
      have hk:k=2:=by omega
      subst hk;exact⟨ai,hu⟩⟩ ai bQ ah
  | some n =>
    rintro _ _⟨rfl,rfl⟩
    have acj:=lP hu (by rw[List.length_take];omega)
    have kj:mB bs=some (k,n):=by
      unfold mB
      rw[if_pos ai]
      by_cases hk:k=1
      · grind
      · have hk:k=2:=by omega
        grind
    rw[kj]at hE
    simp only at hE
    rw[show decide (n≤4096)=decide ((n:Int)≤4096)from decide_eq_decide.2 ⟨fun _=>by omega,fun _=>by omega⟩]at hE
    refine go ?_
    refine ad hE Tryz.func220 zr zr ⟨rfl,rfl⟩
def nE(b:List UInt8)(k last:Nat):Bool :=
 let h:=(b.drop (16*k)).take 16
 decide (last<ow h∧ow h≤1073741824∧ow h%2=k∧ow (h.drop 4)+32≤b.length∧h=du (ow h) (ow (h.drop 4)))
def fZ(b:List UInt8)(k:Nat)(s:Nat × Nat):Nat × Nat:=if nE b k s.1 then(ow ((b.drop (16*k)).take 16),ow (((b.drop (16*k)).take 16).drop 4))else s
def eC(b:List UInt8):List UInt8:=if b.length<32 then []else(b.drop 32).take (fZ b 1 (fZ b 0 (0,0))).2
def abA{b:List UInt8}{k:Nat}(hk:16*k+16≤b.length):((b.drop (16*k)).take 16).length=16:=by rw[List.length_take,List.length_drop];omega
theorem Hm(A:HP)(v:Value)(b:List UInt8)(hv:fb A v b)(hl:b.length≤9223372036854775807) :
  aq Tryz.prog 124 [v] [A] (fun r H=>fb A r (eC b)∧H=[A]):=by
 obtain⟨a,c,rfl,hc⟩:=hv.2
 refine aq.aj Tryz.func124 Tryz.ntmps124 fun G F R hE=>?_
 repeat'(first|(with_reducible intro iI)|refine fq ?_|refine au zr zr ?_ ?_)
 case' refine_1 =>
  have hn:eC b=[]:=by unfold eC;rw[if_pos ai]
  rw[hn]at hE
  refine ad hE Tryz.func124 zr zr ⟨⟨AI A,none,0,rfl,Nat.le_refl _⟩,rfl⟩
 have acw:32≤b.length:=by omega
 refine bn (fun s:Nat × Nat × Nat=>s.1≤2∧(s.1=0→s.2=(0,0))∧(s.1=1→s.2=fZ b 0 (0,0))∧(s.1=2→s.2=fZ b 1 (fZ b 0 (0,0)))∧s.2.2+32≤b.length∧s.2.1≤1073741824) (fun s=>2-s.1)
  (fun s=>[(0,.slice a b.length c),(3,.int .i64 (s.2.1:Int)),(4,.int .i64 (s.2.2:Int)),(12,.int .i64 (s.1:Int))])
  (fun _=>A::F) (0,0,0) ⟨ai,fun _=>rfl,ai,ai,by simp only;omega,by simp only;omega⟩ rfl bQ ah ?_
 rintro⟨k,last,len⟩⟨hk,WV,Ix,DK,hlen,kG⟩ ih
 simp only at hk WV Ix DK hlen kG
 refine go ?_
 refine au zr zr ?_ ?_
 case' refine_2 =>
  intro ek
  simp only at ek
  have h2:=DK ai
  have hf:eC b=(b.drop 32).take len:=by unfold eC;rw[if_neg ai,← h2]
  refine go ?_
  refine bu (p:=32) (q:=32+(len:Int)) zr zr zr zr zr zr zr ai ai (.inr ai) ?_
  have hp:=hv.piece 32 (32+len) ai ai
  rw[show 32+len-32=len from by omega,← hf]at hp
  refine aD 58 (.slice (sliceAt a c 32 1) len (c-32)) rfl (by rw[show(32:Int).toNat=32 from rfl,show(32+(len:Int)).toNat=32+len from by omega,show 32+len-32=len from by omega];rfl) ?_
  refine go ?_
  refine ad hE Tryz.func124 zr zr ⟨hp,rfl⟩
 intro cq
 simp only at cq
 have abp:16*k+16≤b.length:=by omega
 refine go ?_
 refine hG zr zr zr (by simp only[gm];omega) ?_
 refine aD 17 (.int .i64 ((16*k:Nat):Int)) rfl (congrArg (Value.int .i64) (by simp only;omega)) ?_
 refine bu (p:=((16*k:Nat):Int)) (q:=(b.length:Int)) zr zr zr zr zr zr zr ai ai (.inl rfl) ?_
 refine aD 18 (.slice (sliceAt a c (16*k) 1) (b.length-16*k) (c-16*k)) rfl (by rw[show(((16*k:Nat):Int)).toNat=16*k from by omega,show((b.length:Int)).toNat=b.length from by omega];rfl) ?_
 have hh1:=hv.cut (16*k) ai
 refine bu (p:=0) (q:=16) zr zr zr zr zr zr zr ai ai (.inr ai) ?_
 obtain⟨hd,hhd⟩:∃hd,hd=(b.drop (16*k)).take 16:=⟨_,rfl⟩
 have Oh:hd.length=16:=by rw[hhd];exact abA abp
 obtain⟨a1,ha1⟩:∃a1,a1=sliceAt (sliceAt a c (16*k) 1) (c-16*k) 0 1:=⟨_,rfl⟩
 have hh2:fb A (.slice a1 16 (c-16*k)) hd:=by
  rw[show b.length-16*k=(b.drop (16*k)).length from by rw[List.length_drop]]at hh1
  have:=hh1.front 16 (by rw[List.length_drop];omega)
  grind
 refine aD 19 (.slice a1 16 (c-16*k)) rfl (by rw[show(0:Int).toNat=0 from rfl,show(16:Int).toNat=16 from rfl,ha1];rfl) ?_
 refine go ?_
 refine aJ (fun w=>Sat G w ([])) (.st 0 (.st 2 (.st 3 (.act 1 (.act 4 (.st 5 (.st 6 .nil))))))) rfl ae ae ae cY ?_
 refine go ?_
 refine bu (p:=4) (q:=16) zr zr zr zr zr zr zr ai ai (.inl rfl) ?_
 have hh3:=(show fb A (.slice a1 hd.length (c-16*k)) hd by rw[Oh];exact hh2).cut 4 ai
 rw[Oh]at hh3
 refine aD 23 (.slice (sliceAt a1 (c-16*k) 4 1) (16-4) (c-16*k-4)) rfl (by rw[show(4:Int).toNat=4 from rfl,show(16:Int).toNat=16 from rfl];rfl) ?_
 refine bP (z6 A _ hd hh2.1 ai) ?_
 ((refine dx (z6 A _ (hd.drop 4) hh3.1 (by rw[List.length_drop];omega)) ?_))
 rintro _ _⟨rfl,rfl⟩
 have hn:=J1 hd
 have hm:=J1 (hd.drop 4)
 have hJ:nE b k last=decide (last<ow hd∧ow hd≤1073741824∧ow hd%2=k∧ow (hd.drop 4)+32≤b.length∧hd=du (ow hd) (ow (hd.drop 4))):=by unfold nE;rw[← hhd]
 have DH:∀s':Nat × Nat,s'=fZ b k (last,len)→s'.2+32≤b.length∧s'.1≤1073741824→(k+1≤2∧(k+1=0→s'=(0,0))∧(k+1=1→s'=fZ b 0 (0,0))∧(k+1=2→s'=fZ b 1 (fZ b 0 (0,0)))∧s'.2+32≤b.length∧s'.1≤1073741824):=by
  grind
 have ju:nE b k last=false→(last,len)=fZ b k (last,len):=fun h=>by unfold fZ;rw[if_neg (by rw[h];simp)]
 have p6:nE b k last=true→(ow hd,ow (hd.drop 4))=fZ b k (last,len):=fun h=>by unfold fZ;rw[if_pos h,← hhd]
 repeat'(first|(with_reducible intro iI)|refine fq ?_|refine dw zr zr zr zr ?_ ?_|refine sw zr zr zr ai ai ?_)
 any_goals (
  have hf:nE b k last=false:=by rw[hJ];exact decide_eq_false (fun h=>by simp only at *;omega)
  refine aK ih (k+1,last,len) rfl (DH _ (ju hf) ⟨hlen,kG⟩) (by simp only;omega) bQ ah)
 refine aF (Bg (ow hd) (ow (hd.drop 4)) ai ai) ?_
 rintro p5 _ rfl
 refine dT 0 rfl ?_
 intro hvh
 refine aL 0 rfl ?_
 rintro xa xc rfl
 refine go ?_
 refine aw (H9 A (aI 5 1 (.slice xa (du (ow hd) (ow (hd.drop 4))).length xc) (du (ow hd) (ow (hd.drop 4))).length (bV (du (ow hd) (ow (hd.drop 4))))) (.slice a1 16 (c-16*k)) (.slice xa (du (ow hd) (ow (hd.drop 4))).length xc) hd (du (ow hd) (ow (hd.drop 4))) hh2.1 hvh) ?_
 repeat'(first|(with_reducible intro iI)|refine fq ?_|refine au zr zr ?_ ?_)
 ·have hf:nE b k last=true:=by rw[hJ];exact decide_eq_true (by refine⟨?_,?_,?_,?_,‹_›⟩ <;> (simp only at *;omega))
  refine go ?_
  refine aK ih (k+1,ow hd,ow (hd.drop 4)) rfl (DH _ (p6 hf) ⟨by simp only at *;omega,by simp only at *;omega⟩) (by simp only;omega) bQ ah
 ·have hf:nE b k last=false:=by rw[hJ];exact decide_eq_false (fun h=>‹¬_› h.2.2.2.2)
  refine aK ih (k+1,last,len) rfl (DH _ (ju hf) ⟨hlen,kG⟩) (by simp only;omega) bQ ah
end Go.Proofs.YtnkfkabokmcgoaaGreatDoor
