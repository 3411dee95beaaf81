import Derived.Test.YtnkfkabokmcgoaaGreatDoorQNQ2
import Derived.Test.YtnkfkabokmcgoaaGreatDoorQNQ3
import Derived.Test.YtnkfkabokmcgoaaGreatDoorQNQ5
import Derived.Test.YtnkfkabokmcgoaaGreatDoorQNQ7
set_option linter.unusedSectionVars false
set_option linter.unusedSimpArgs false
set_option linter.unusedVariables false
set_option maxHeartbeats 1000000
set_option maxRecDepth 20000
set_option linter.defProp false
namespace Go.Proofs.YtnkfkabokmcgoaaGreatDoor
open Go Go.SL
def sS(l:List ByteArray):List Value:=l.map Value.string
def U3(l:List ByteArray):∀v∈sS l,v.oneCell'=true:=by
 intro v hv
 obtain⟨x,_,rfl⟩:=List.mem_map.1 hv
 rfl
def SI(bs:Nat)(ks:List ByteArray):HP:=fun h=>∃v:Value,True∧Sep [ag bs (cl [v] 121),aI 9 1 v ks.length (sS ks)] h
def FH(bs:Nat)(ks:List ByteArray):∀h,SI bs ks h→∃v:Value,True∧Sep [ag bs (cl [v] 121),aI 9 1 v ks.length (sS ks)] h:=fun h hs=>hs
def BM(bs:Nat)(ks:List ByteArray)(v:Value)(H:List HP):ao (ag bs (cl [v] 121)::aI 9 1 v ks.length (sS ks)::H) (SI bs ks::H) :=
 ao.fold (A:=SI bs ks) (B:=[ag bs (cl [v] 121),aI 9 1 v ks.length (sS ks)]) fun h hs=>⟨h,sub.refl h,v,trivial,hs⟩
def NY:iz Tryz.prog 9 Value.string:=J6 Tryz.underlying9
attribute [local irreducible] J K aq Ends ag aI aC bF aW aP a6 aZ bN SI
def Lj(bm:Nat):aq Tryz.prog 113 [.map (some bm)] [] (fun r H=>∃bx,r = .func (.func 210) #[] #[ptr bx]∧H=[ag bx (cl [.map (some bm)] 58)]):=by
 refine aq.aj Tryz.func113 Tryz.ntmps113 fun G F R hE=>?_
 refine go ?_
 refine bp zr zr bh ?_
 intro bx
 refine go ?_
 refine ad hE Tryz.func113 zr zr ⟨bx,rfl,rfl⟩
theorem HW(l bx bm:Nat)(es:List (ByteArray × Value))(gp:(es.map (·.1)).Nodup)(Lp:HP)(Inv:List ByteArray→HP)(hy:∀dn k,k∈es.map (·.1)→dn.length<es.length→bN Tryz.prog l [.string k] [Lp,Inv dn] (fun v H=>v = .bool true∧H=[Lp,Inv (dn++[k])])) :
  aq Tryz.prog 210 [.func (.yield l) #[] #[],ptr bx] [Lp,ag bx (cl [.map (some bm)] 58),aC Value.string bm es,Inv [] ] (fun _ H=>∃dn:List ByteArray,dn.Perm (es.map (·.1))∧H=[Lp,ag bx (cl [.map (some bm)] 58),aC Value.string bm es,Inv dn]):=by
 refine aq.aj Tryz.func210 Tryz.ntmps210 fun G F R hE=>?_
 refine ak (ao.pick [2,0,1] rfl) (go ?_)
 refine kT (kv:=Value.string) (es:=es) (U:=aU) 0 zr zr zr zr zr (fun _=>rfl) bh ?_
 intro it
 refine go ?_
 refine bn (fun s:List ByteArray=>s.Nodup∧∀x∈s,x∈es.map (·.1)) (fun s=>es.length-s.length) (fun s=>[(0,.func (.yield l) #[] #[]),(5,.pointer (some ⟨it,0,none⟩))])
  (fun s=>bF Value.string bm it es s::Lp::ag bx (cl [.map (some bm)] 58)::Inv s.reverse::F) [] ⟨List.nodup_nil,by simp⟩ rfl bQ ah ?_
 rintro dn⟨lO,cu⟩ ih
 refine go ?_
 refine n5 (kv:=Value.string) (es:=es) 0 rfl NY.inj zr zr (fun _=>rfl) eW bh ?_ ?_
 ·intro dX
  refine go ?_
  refine ak (ao.head (B:=[aC Value.string bm es]) (fun h hs=>by obtain⟨h',s,hm⟩:=gX h hs;exact⟨h',s,cV hm⟩)) ?_
  have hp:dn.reverse.Perm (es.map (·.1)):=(List.reverse_perm dn).trans ((List.perm_ext_iff_of_nodup lO gp).2 fun a=>⟨cu a,fun h=>by obtain⟨y,hy,rfl⟩:=List.mem_map.1 h;exact dX y hy⟩)
  refine bB hE Tryz.func210 rfl _ rfl ⟨_,hp,rfl⟩ ah
 ·intro key v dF js
  have hk:key∈es.map (·.1):=List.mem_map.2 ⟨_,dF,rfl⟩
  have cq:dn.length<es.length:=by
   have h1:((List.filter (fun x=>decide (x∈dn)) (es.map (·.1)))).length≤(es.map (·.1)).length:=List.length_filter_le _ _
   have h2:dn.length=(List.filter (fun x=>decide (x∈dn)) (es.map (·.1))).length:=Dn lO (gp.sublist List.filter_sublist) (fun n=>by
    simp only[List.mem_filter,decide_eq_true_eq]
    exact⟨fun h=>⟨cu n h,h⟩,fun h=>h.2⟩)
   rw[List.length_map]at h1
   rcases Nat.lt_or_ge dn.length es.length with h|h
   ·exact h
   ·exfalso
    have h3:(List.filter (fun x=>decide (x∈dn)) (es.map (·.1))).length=(es.map (·.1)).length:=by rw[List.length_map];omega
    have h4:=List.filter_eq_self.1 ((List.filter_sublist (p:=fun x=>decide (x∈dn)) (l:=es.map (·.1))).eq_of_length h3) key hk
    grind
  refine go ?_
  refine kU (kv:=Value.string) (es:=es) 0 rfl NY.inj zr zr dF (go ?_)
  refine iW zr zr zr (hy dn.reverse key hk (by rw[List.length_reverse];exact cq)) ah ?_ iE
  rintro _ _⟨rfl,rfl⟩
  rw[show dn.reverse++[key]=(key::dn).reverse from by simp]
  refine go ?_
  refine aK ih (key::dn) rfl (⟨List.nodup_cons.2 ⟨js,lO⟩,fun x hx=>by rcases List.mem_cons.1 hx with rfl|h;exact hk;exact cu x h⟩) (by show _-(key::dn).length<_;simp only[List.length_cons];omega) bQ ah
def wD(bx bm:Nat)(es:List (ByteArray × Value))(gp:(es.map (·.1)).Nodup)(mT:es.length≤1000000) :
  aq Tryz.prog 310 [.slice none 0 0,.func (.func 210) #[] #[ptr bx] ] [ag bx (cl [.map (some bm)] 58),aC Value.string bm es] (fun r H=>∃dn:List ByteArray,dn.Perm (es.map (·.1))∧H=[aI 9 1 r dn.length (sS dn),ag bx (cl [.map (some bm)] 58),aC Value.string bm es]):=by
 refine aq.aj Tryz.func310 Tryz.ntmps310 fun G F R hE=>?_
 refine aH rfl ?_
 refine bp zr zr bh ?_
 intro bs
 refine go ?_
 refine gT rfl ?_
 refine ak (ao.trans (ao.cons _ (bj 9 1 none _)) (BM bs [] (.slice none 0 0) _)) ?_
 refine qp (Fr:=F) (Pre:=fun _ _=>[ag bx (cl [.map (some bm)] 58),aC Value.string bm es,SI bs [] ]) (Post:=?Po) rfl hE.1.1 rfl ?c (fun l r=>ah) ?gR
 case c =>
  intro l r
  refine HW l bx bm es gp _ (fun dn=>SI bs dn) ?_
  intro dn k hk cq
  refine bN.C' zr zr ?_
  intro G2 F2 R2 hY
  refine go ?_
  refine fm rfl hY ?_
  refine ak (ao.pick [1] rfl) ?_
  refine cI (FH bs dn) ?_
  rintro v -
  refine cL 1 rfl ?_
  rintro va vc rfl
  refine go ?_
  refine al (cs:=sS [k]) zr zr zr zr zr zr zr zr zr bh ?_
  intro row
  refine go ?_
  refine aO (mm:=1) (news:=sS [k]) 2 0 zr zr zr zr zr zr zr zr zr zr zr zr (Vw.ag rfl) rfl (U3 _) ai (by show(_+1)*16≤_;omega) (fun _=>rfl) bh ?_
  intro v1
  rw[show sS dn++sS [k]=sS (dn++[k])from by simp[sS],show dn.length+1=(dn++[k]).length from by simp]
  refine aL 2 rfl ?_
  rintro Ih Ig rfl
  refine go ?_
  refine ak (ao.trans ah (BM bs (dn++[k]) (.slice Ih (dn++[k]).length Ig) _)) ?_
  refine eE hY rfl ah ⟨rfl,rfl⟩
 intro l r v H dE
 obtain⟨dn,hp,rfl⟩:=dE
 refine⟨_,_,_,rfl,by decide,?_⟩
 rw[hE.1.2]
 refine ak (ao.pick [2] rfl) ?_
 refine cI (FH bs dn) ?_
 rintro w -
 refine go ?_
 refine lM hE Tryz.func310 rfl _ rfl ⟨dn,hp,rfl⟩ ah
def Cd(bx bm:Nat)(es:List (ByteArray × Value))(gp:(es.map (·.1)).Nodup)(mT:es.length≤1000000) :
  aq Tryz.prog 208 [.func (.func 210) #[] #[ptr bx] ] [ag bx (cl [.map (some bm)] 58),aC Value.string bm es] (fun r H=>∃dn:List ByteArray,dn.Perm (es.map (·.1))∧H=[aI 9 1 r dn.length (sS dn),ag bx (cl [.map (some bm)] 58),aC Value.string bm es]):=by
 refine aq.aj Tryz.func208 Tryz.ntmps208 fun G F R hE=>?_
 refine go ?_
 refine aF (wD bx bm es gp mT) ?_
 rintro w _⟨dn,hp,rfl⟩
 refine go ?_
 refine ad hE Tryz.func208 zr zr ⟨dn,hp,rfl⟩
def nS(l:List (List UInt8)):List Value:=l.map Go.Proofs.encStr
def Yy(l:List ByteArray):sS l=nS (l.map fun b=>b.data.toList):=by
 unfold sS nS
 rw[List.map_map]
 rfl
def HI(v:Value)(l:List ByteArray)(hl:l.length≤1000000000):aq Tryz.prog 209 [v] [aI 9 1 v l.length (sS l)] (fun r H=>r = .tuple #[]∧H=[aI 9 1 v l.length (nS (ni l))]):=by
 have h:=Aj (ρ:=wR) Yv 9 v (l.map fun b=>b.data.toList) ae (by rw[List.length_map];omega)
 rw[List.length_map]at h
 rw[Yy]
 exact h
def Ej(bx bm:Nat)(es:List (ByteArray × Value))(gp:(es.map (·.1)).Nodup)(mT:es.length≤1000000) :
  aq Tryz.prog 112 [.func (.func 210) #[] #[ptr bx] ] [ag bx (cl [.map (some bm)] 58),aC Value.string bm es] (fun r H=>H=[aI 9 1 r es.length (nS (ni (es.map (·.1)))),ag bx (cl [.map (some bm)] 58),aC Value.string bm es]):=by
 refine aq.aj Tryz.func112 Tryz.ntmps112 fun G F R hE=>?_
 refine go ?_
 refine aF (Cd bx bm es gp mT) ?_
 rintro w _⟨dn,hp,rfl⟩
 have hlen:dn.length=es.length:=by rw[hp.length_eq,List.length_map]
 refine aL 0 rfl ?_
 rintro wa wc rfl
 refine go ?_
 refine aw (HI (.slice wa dn.length wc) dn ai) ?_
 rw[CE hp,hlen]
 refine go ?_
 refine aG hE Tryz.func112 rfl _ zr zr ah
def HT(bd:Nat)(D:Dk)(A:Ab)(hR:Rel D A):aq Tryz.prog 49 [ptr bd] [fI bd D] (fun r H=>H=[aI 9 1 r (fF A).length (nS (ni (fF A))),fI bd D]):=by
 have gp:=hR.nodup _ (List.mem_cons_self ..)
 have pj:=hR.eA _ (List.mem_cons_self ..)
 have Fg:(eB A.names).map (·.1)=fF A:=by simp[eB,fF,Function.comp_def]
 have MW:(eB A.names).length=(fF A).length:=by simp[eB,fF]
 have dW:(fF A).length≤200:=by unfold fF;rw[List.length_map];exact pj
 obtain⟨jm,hjm⟩:=List.getElem?_of_mem hR.names
 obtain⟨room,bm,ke,mK,nr,off,maps,eJ,files,kf,wl⟩:=D
 simp only at hjm
 refine aq.aj Tryz.func49 Tryz.ntmps49 fun G F R hE=>?_
 refine ak (gS _ _ _ _ _ _ _ _ _ _ _ _ _) (go ?_)
 refine aF (Lj bm) ?_
 rintro _ _⟨bx,rfl,rfl⟩
 have Ke:=Ej bx bm (eB A.names) (by rw[Fg];exact gp) ai
 rw[Fg,MW]at Ke
 refine aS (ao.pick [2] rfl) ?_
 refine aS (jI lz hjm _) ?_
 refine aS (ao.pick [2,0] rfl) (go ?_)
 refine aF Ke ?_
 rintro v _ rfl
 refine aS (ao.pick [2,3] rfl) ?_
 refine aS (pL lz hjm _) (go ?_)
 refine ak ((ao.pick [3,0,4,5,6,7] rfl).trans (de _ _ _ _ _ _ _ _ _ _ _ _ _)) ?_
 refine aG hE Tryz.func49 rfl _ zr zr ah
end Go.Proofs.YtnkfkabokmcgoaaGreatDoor
namespace Go.Proofs.YtnkfkabokmcgoaaGreatDoor
open Go Go.SL
attribute [local irreducible] J K aq Ends ag aI aC bF aW aP a6 aZ bN Sha.chunks Sha.chunk Sha.rounds Sha.sched fg cD GI fR
structure FV(A:Ab):Prop where
 ids:(A.fs.map (·.1)).Nodup
 known:∀st∈A.names::A.aR,∀x∈st,x.2∈A.fs.map (·.1)
 gl:∀x∈A.writes,x.1∈A.fs.map (·.1)
 nodup:∀st∈A.names::A.aR,(st.map (·.1)).Nodup
 fC:∀x∈A.fs,x.2.1.length≤1048576∧x.2.2.length≤1048576
 gM:∀x∈A.writes,x.2.1+x.2.2.length≤1048576
 eA:∀st∈A.names::A.aR,st.length≤200
 gk:A.room≤1073741824
 full:A.aR≠[]
def FV.of{D:Dk}{A:Ab}(h:Rel D A):FV A:=⟨h.ids,h.known,h.gl,h.nodup,h.fC,h.gM,h.eA,h.gk,h.full⟩
def FV.file{A:Ab}(h:FV A)(f:Nat):(A.file f).1.length≤1048576∧(A.file f).2.length≤1048576:=by
 unfold Ab.file
 cases hx:A.fs.find? (fun x=>decide (x.1=f))with
 | none=>simp
 | some x=>exact h.fC x (List.mem_of_find?_eq_some hx)
def FV.now{A:Ab}(h:FV A)(f:Nat):(A.now f).length≤1048576:=(h.file f).1
def y9{G:bY}{w:World}{H:List HP}(hs:Sat G w H){i:Nat}{A:HP}(hi:bS H i=some A):∃h,A h:=let ⟨h,_,hA⟩:=hs.jG hi;⟨h,hA⟩
def Bs{bd:Nat}{A:Ab}{h:Hp}(hd:aB bd A h):FV A:=let ⟨_,hR,_⟩:=hd;FV.of hR
section
variable{P:Program}{f:FuncId}{n:Nat}{R:Ending→World→Prop}{G:bY}{k:List Item}{L:dS}{H:List HP}{S:World→Prop}{all:Array Oper}{rest:Pl}
def qq{bd:Nat}{A:Ab}(i:Nat)(hi:bS H i=some (aB bd A))(h:FV A→K P f n R G k L H):K P f n R G k L H :=
 nY fun⟨w,hw⟩=>by obtain⟨h1,hA⟩:=y9 hw hi;exact h (Bs hA)
def FO{bd:Nat}{A:Ab}(i:Nat)(hi:bS H i=some (aB bd A))(h:FV A→J P f n R G S all rest k L H):J P f n R G S all rest k L H :=
 yl fun w hw=>by obtain⟨h1,hA⟩:=y9 hw hi;exact h (Bs hA)
end
attribute [local irreducible] aB
def cF(bd:Nat)(q:Int)(mb:Nat)(brk:Bool):List Value:=[ptr bd,.int .i64 q,.map (some mb),.bool brk]
def nM(kind:List UInt8)(d:Dg)(hk:kind.length≤1000):aq Tryz.prog 116 [.string (strOf kind),dV d] [] (fun r H=>r = .string (dg kind d)∧H=[]):=by
 have ht:=K6 d
 unfold dV at ht ⊢
 refine aq.aj Tryz.func116 Tryz.ntmps116 fun G F R hE=>?_
 refine aH rfl ?_
 refine bp zr zr bh ?_
 intro b3
 refine go ?_
 refine aM (U:=aU) (l:=dC d) 0 zr zr zr zr zr zr ?_
 refine aw ht ?_
 refine vo zr zr zr (by show kind.length+(gx d).length≤_;rw[lk];omega) ?_
 ((refine aD 8 ((.string (dg kind d))) rfl ((congrArg Value.string (by unfold dg strOf;apply ByteArray.ext;simp))) ?_))
 refine go ?_
 refine ad hE Tryz.func116 zr zr ⟨rfl,rfl⟩
def uG(o:Option Dg):Value:=match o with
 | none => .tuple #[dV Dg.zero,.bool false]
 | some d => .tuple #[dV d,.bool true]
def KG(s:ByteArray)(k:Nat):s.extract (0:Int).toNat (k:Int).toNat=strOf (s.data.toList.take k):=by
 unfold strOf
 apply ByteArray.ext
 apply Array.ext'
 simp_all
def KH(s:ByteArray)(k:Nat):s.extract (k:Int).toNat (s.size:Int).toNat=strOf (s.data.toList.drop k):=by
 unfold strOf
 apply ByteArray.ext
 apply Array.ext'
 have:s.size=s.data.toList.length:=rfl
 rw[ByteArray.data_extract,this]
 simp
 rw[List.take_of_length_le (by simp)]
def uF(kind:List UInt8)(nm:ByteArray)(hk:kind.length≤1000):aq Tryz.prog 108 [.string (strOf kind),.string nm] [] (fun r H=>r=uG (gj kind nm)∧H=[]):=by
 have MU:(strOf kind).size=kind.length:=rfl
 have LX:nm.size=nm.data.toList.length:=rfl
 refine aq.aj Tryz.func108 Tryz.ntmps108 fun G F R hE=>?_
 refine aH rfl ?_
 refine az zr zr zr bh ?_
 intro b4
 have hN:¬kind.isPrefixOf nm.data.toList=true→gj kind nm=none:=fun h=>by unfold gj;rw[if_neg h]
 have hP:kind.isPrefixOf nm.data.toList=true→gj kind nm=ik (nm.data.toList.drop kind.length):=fun h=>by unfold gj;rw[if_pos h]
 have M0:kind.isPrefixOf nm.data.toList=true↔nm.data.toList.take kind.length=kind:=by
  rw[List.isPrefixOf_iff_prefix,List.prefix_iff_eq_take]
  exact eq_comm
 refine go ?_
 refine dw zr zr zr zr ?_ ?_
 ·intro cq
  have Km:=hN (fun h=>by rw[M0]at h;have:=congrArg List.length h;rw[List.length_take]at this;omega)
  rw[Km]at hE
  refine go ?_
  refine gG (U:=aU) zr zr zr zr zr (go ?_)
  (refine bg hE ?_;apply a7 (U:=aU) hE Tryz.func108 rfl (ao.refl _);(repeat(first|exact aQ.nil|apply aQ.tmp rfl|apply aQ.agg 0 zr zr zr zr zr));exact⟨rfl,rfl⟩;exact ah)
 ·intro ek
  have WU:(kind.length:Int)≤(nm.size:Int):=by omega
  refine go ?_
  refine vq (U:=aU) (p:=0) (q:=(kind.length:Int)) zr zr zr zr zr zr (Int.le_refl _) (Int.natCast_nonneg _) WU ?_
  refine aD 17 ((.string (strOf (nm.data.toList.take kind.length)))) rfl ((congrArg Value.string (KG nm kind.length))) (go ?_)
  refine aV 20 (.bool (!decide (nm.data.toList.take kind.length=kind))) rfl (by rw[xP]) ?_
  by_cases hp:nm.data.toList.take kind.length=kind
  ·rw[decide_eq_true hp]
   have hh:=hP (M0.2 hp)
   rw[hh]at hE
   refine go ?_
   refine vq (U:=aU) (p:=(kind.length:Int)) (q:=(nm.size:Int)) zr zr zr zr zr zr (Int.natCast_nonneg _) WU (Int.le_refl _) ?_
   refine aD 26 ((.string (strOf (nm.data.toList.drop kind.length)))) rfl ((congrArg Value.string (KH nm kind.length))) ?_
   have Y8:=HN (strOf (nm.data.toList.drop kind.length))
   rw[tD]at Y8
   refine aw Y8 ?_
   cases Cn:ik (nm.data.toList.drop kind.length)with
   | none =>
    rw[Cn]at hE
    simp only
    unfold dV
    refine go ?_
    refine az zr zr zr bh ?_
    intro b6
    refine go ?_
    refine aM (U:=aU) (l:=dC Dg.zero) 0 zr zr zr zr zr zr (go ?_)
    (refine bg hE ?_;apply a7 (U:=aU) hE Tryz.func108 rfl (ao.refl _);(repeat(first|exact aQ.nil|apply aQ.tmp rfl|apply aQ.agg 1 zr zr zr zr zr));exact⟨rfl,rfl⟩;exact ah)
   | some d =>
    rw[Cn]at hE
    simp only
    unfold dV
    refine go ?_
    refine az zr zr zr bh ?_
    intro b6
    refine go ?_
    refine aM (U:=aU) (l:=dC d) 0 zr zr zr zr zr zr (go ?_)
    (refine bg hE ?_;apply a7 (U:=aU) hE Tryz.func108 rfl (ao.refl _);(repeat(first|exact aQ.nil|apply aQ.tmp rfl|apply aQ.agg 1 zr zr zr zr zr));exact⟨rfl,rfl⟩;exact ah)
  ·rw[decide_eq_false hp]
   have Km:=hN (fun h=>hp (M0.1 h))
   rw[Km]at hE
   refine go ?_
   refine gG (U:=aU) zr zr zr zr zr (go ?_)
   (refine bg hE ?_;apply a7 (U:=aU) hE Tryz.func108 rfl (ao.refl _);(repeat(first|exact aQ.nil|apply aQ.tmp rfl|apply aQ.agg 0 zr zr zr zr zr));exact⟨rfl,rfl⟩;exact ah)
def I5(A:Ab)(nm:ByteArray):decide (((A.size nm).2:Int)=0)=jF A nm:=by
 unfold Ab.size jF
 cases A.look nm <;> rfl
def J8(bs bd:Nat)(q:Int)(mb:Nat)(brk:Bool)(A:Ab)(nm:ByteArray):aq Tryz.prog 134 [ptr bs,.string nm] [ag bs (cl (cF bd q mb brk) 120),aB bd A]
  (fun r H=>r = .bool (jF A nm)∧H=[ag bs (cl (cF bd q mb brk) 120),aB bd A]):=by
 have hs:=I5 A nm
 refine aq.aj Tryz.func134 Tryz.ntmps134 fun G F R hE=>?_
 refine go ?_
 refine aw (qj bd A nm) ?_
 refine go ?_
 rw[← hs]at hE
 refine ad hE Tryz.func134 zr zr ⟨rfl,rfl⟩
def xX(bs bd:Nat)(q:Int)(mb:Nat)(brk:Bool)(A:Ab)(nm:ByteArray):aq Tryz.prog 115 [ptr bs,.string nm] [ag bs (cl (cF bd q mb brk) 120),aB bd A]
  (fun r H=>∃rv,r = .tuple #[rv,.bool (fD A nm).isSome]∧H=[aI 5 1 rv ((fD A nm).getD []).length (bV ((fD A nm).getD [])),ag bs (cl (cF bd q mb brk) 120),aB bd A]):=by
 refine aq.aj Tryz.func115 Tryz.ntmps115 fun G F R hE=>?_
 refine go ?_
 refine aw (qj bd A nm) ?_
 have hn:A.look nm=none→fD A nm=none∧A.size nm=(0,4):=fun h=>by unfold fD Ab.size;rw[h];exact⟨rfl,rfl⟩
 have hr:∀f,A.look nm=some f→A.size nm=((A.now f).length,0)∧A.read nm 0 ((A.now f).length:Int)=((fD A nm).getD [],if(fD A nm).isSome then 0 else 7):=fun f h=>by
  unfold fD Ab.size Ab.read
  rw[h]
  cases iq:A.off with
  | true=>exact⟨rfl,rfl⟩
  | false =>
   simp_all
 cases hl:A.look nm with
 | none =>
  obtain⟨h1,h2⟩:=hn hl
  rw[h2]
  rw[h1]at hE
  simp only
  refine go ?_
  refine ak (bj 5 1 none _) ?_
  refine ad hE Tryz.func115 zr zr ⟨_,rfl,rfl⟩
 | some f =>
  obtain⟨h1,h2⟩:=hr f hl
  rw[h1]
  simp only
  have sQ:=zz bd A nm 0 ((A.now f).length:Int)
  rw[h2]at sQ
  refine go ?_
  refine aF sQ ?_
  rintro _ _⟨r,rfl,rfl⟩
  generalize fD A nm=o at hE ⊢
  cases o with
  | none =>
   refine go ?_
   refine ad hE Tryz.func115 zr zr ⟨_,rfl,rfl⟩
  | some b =>
   refine go ?_
   refine ad hE Tryz.func115 zr zr ⟨_,rfl,rfl⟩
end Go.Proofs.YtnkfkabokmcgoaaGreatDoor
namespace Go.SL
open Go
namespace Sha
def aak(n o:List jf)(i:Nat):List jf:=(List.zipWith (· + ·) n o).take i++n.drop i
end Sha
end Go.SL
namespace Go.Proofs.YtnkfkabokmcgoaaGreatDoor
open Go Go.SL
attribute [local irreducible] J K aq Ends ag aI aC bF aW aP a6 aZ bN Sha.chunks Sha.chunk Sha.rounds Sha.sched fg Sha.aak
end Go.Proofs.YtnkfkabokmcgoaaGreatDoor
namespace Go.Proofs.YtnkfkabokmcgoaaGreatDoor
open Go Go.SL
attribute [local irreducible] J K aq Ends ag aI aC bF aW aP a6 aZ bN Sha.chunks Sha.chunk Sha.rounds Sha.sched fg cD GI fR
def KC:Tryz.prog.eqGuardType Tryz.prog.depth 36=false:=by kernel_rfl
def KI(a b:Dg)(w:World):(Op.equal 36 (.agg (dC a).toArray) (.agg (dC b).toArray)).run Tryz.prog w = .ok (decide (a=b)) w :=
 lU Tryz.underlying36 Tryz.underlying5 Wp a b 9998 w
attribute [local irreducible] aB
def uY{A:Ab}(h:FV A)(nm:ByteArray):((fD A nm).getD []).length≤1048576:=by
 unfold fD
 cases A.look nm with
 | none=>simp
 | some f =>
  cases A.off with
  | true=>simp
  | false=>simpa using h.now f
def wG(X:HP)(hK:pt X)(bs bd:Nat)(q:Int)(mb:Nat)(brk:Bool)(A:Ab)(d:Dg):aq Tryz.prog 54 [ptr bs,dV d] [ag bs (cl (cF bd q mb brk) 120),aB bd A,X]
  (fun r H=>r = .bool (iK A d)∧H=[ag bs (cl (cF bd q mb brk) 120),aB bd A,X]):=by
 have hf:=nM kB d (by decide)
 refine aq.aj Tryz.func54 Tryz.ntmps54 fun G F R hE=>?_
 refine aH rfl ?_
 refine bp zr zr bh ?_
 intro b3
 refine FO (bd:=bd) (A:=A) 2 rfl ?_
 intro DN
 refine go ?_
 refine aM (U:=aU) (l:=dC d) 0 zr zr zr zr zr zr ?_
 refine aw hf ?_
 refine aF (xX bs bd q mb brk A (dg kB d)) ?_
 rintro _ _⟨rv,rfl,rfl⟩
 have hw:iK A d=match fD A (dg kB d)with|none=>false|some b=>decide (fg b=d):=rfl
 have sT:=uY DN (dg kB d)
 cases hb:fD A (dg kB d)with
 | none =>
  rw[hb]at hw
  rw[hw]at hE
  refine go ?_
  refine aJ (fun w=>Sat G w ([])) (cM 0 3 (.st 4 (.act 3 (cM 5 3 .nil)))) rfl ae ae ae cY ?_
  refine go ?_
  refine ad hE Tryz.func54 zr zr ⟨rfl,rfl⟩
 | some b =>
  rw[hb]at hw sT
  rw[hw]at hE
  simp only[Option.getD_some]at sT ⊢
  refine gU (bs:=b) 0 rfl ?_
  intro ZR
  refine aS (ao.trans (ao.pick [0,4] rfl) (ao.cd [aI 5 1 rv b.length (bV b),X] _)) ?_
  have sC:=zq _ (hK.mono (bz (H:=[aI 5 1 rv b.length (bV b),X]) (i:=1) rfl)) rv b (ZR.mono (bz (i:=0) rfl)) ai
  refine go ?_
  refine aJ (fun w=>Sat G w ([ag b3 (cl (dC d) 36)])) (cM 0 3 (.st 4 (.act 3 (cM 5 3 .nil)))) rfl ae ae ae cY ?_
  refine go ?_
  refine df (U:=aU) (l:=dC d) 0 zr zr zr zr zr zr (go ?_)
  refine bP sC ?_
  refine go ?_
  refine mw (b:=decide (fg b=d)) zr zr zr KC (fun w=>KI (fg b) d w) ?_
  refine go ?_
  refine ak (ao.cX _ _) ?_
  refine ad hE Tryz.func54 zr zr ⟨rfl,rfl⟩
def vB(bs bd:Nat)(q:Int)(mb:Nat)(brk:Bool)(A:Ab)(d:Dg):aq Tryz.prog 111 [ptr bs,dV d] [ag bs (cl (cF bd q mb brk) 120),aB bd A]
  (fun r H=>∃rv,r = .tuple #[LR rv,.bool (gn A d).isSome]∧H=[aI 107 66 rv ((gn A d).getD []).length (((gn A d).getD []).flatMap dY),ag bs (cl (cF bd q mb brk) 120),aB bd A]):=by
 have hf:=nM kI d (by decide)
 refine aq.aj Tryz.func111 Tryz.ntmps111 fun G F R hE=>?_
 refine aH rfl ?_
 refine bp zr zr bh ?_
 intro b3
 refine az zr zr zr bh ?_
 intro b4
 refine FO (bd:=bd) (A:=A) 3 rfl ?_
 intro DN
 refine go ?_
 refine aM (U:=aU) (l:=dC d) 1 zr zr zr zr zr zr ?_
 refine aw hf ?_
 refine aF (xX bs bd q mb brk A (dg kI d)) ?_
 rintro _ _⟨rv,rfl,rfl⟩
 have hw:gn A d=(fD A (dg kI d)).bind uS:=rfl
 have sT:=uY DN (dg kI d)
 cases hb:fD A (dg kI d)with
 | none =>
  rw[hb]at hw
  rw[hw]at hE
  refine go ?_
  refine ak (bj 107 66 none _) ?_
  (refine bg hE ?_;apply a7 (U:=aU) hE Tryz.func111 rfl (ao.refl _);(repeat(first|exact aQ.nil|apply aQ.tmp rfl|apply aQ.agg 4 zr zr zr zr zr));exact⟨_,rfl,rfl⟩;exact ah)
 | some b =>
  rw[hb]at hw sT
  simp only[Option.getD_some,Option.bind_some]at sT hw ⊢
  rw[hw]at hE
  refine gU (bs:=b) 0 rfl ?_
  intro ZR
  refine go ?_
  refine aF (AQ _ rv b ZR ai) ?_
  rintro _ _ (⟨hn,⟨e,he,rfl⟩,rfl⟩|⟨l,lv,hs,rfl,rfl⟩)
  ·rw[hn]at hE
   refine go ?_
   refine az zr zr zr bh ?_
   intro b8
   refine go ?_
   refine aM (U:=aU) (l:=[.slice none 0 0]) 0 zr zr zr zr zr zr (go ?_)
   refine aD 27 ((.bool false)) rfl ((congrArg Value.bool (decide_eq_false he))) (go ?_)
   (refine aY ?_;(refine bG 4 eW zr zr zr zr zr zr zr zr zr ?_))
   refine go ?_
   refine ak (bj 107 66 none _) ?_
   (refine bg hE ?_;apply a7 (U:=aU) hE Tryz.func111 rfl (ao.refl _);(repeat(first|exact aQ.nil|apply aQ.tmp rfl|apply aQ.agg 5 zr zr zr zr zr));exact⟨_,rfl,rfl⟩;exact ah)
  ·rw[hs]at hE
   refine aL 0 rfl ?_
   rintro la lc rfl
   refine go ?_
   refine az zr zr zr bh ?_
   intro b8
   refine go ?_
   refine aM (U:=aU) (l:=[.slice la l.length lc]) 0 zr zr zr zr zr zr (go ?_)
   (refine aY ?_;(refine bG 5 eW zr zr zr zr zr zr zr zr zr ?_))
   refine go ?_
   (refine bg hE ?_;apply a7 (U:=aU) hE Tryz.func111 rfl (ao.refl _);(repeat(first|exact aQ.nil|apply aQ.tmp rfl|apply aQ.agg 5 zr zr zr zr zr));exact⟨_,rfl,rfl⟩;exact ah)
def D4(X:HP)(hK:pt X)(b2 bs bd:Nat)(q:Int)(mb:Nat)(brk:Bool)(A:Ab)(y:Bl) :
  aq Tryz.prog 118 [mH y,ptr b2] [Sep [ag b2 (cl [ptr bs] 66),ag bs (cl (cF bd q mb brk) 120),aB bd A,X] ]
  (fun r H=>r = .bool (!iK A y.d)∧H=[Sep [ag b2 (cl [ptr bs] 66),ag bs (cl (cF bd q mb brk) 120),aB bd A,X] ]):=by
 have hw:=wG X hK bs bd q mb brk A y.d
 refine aq.aj Tryz.func118 Tryz.ntmps118 fun G F R hE=>?_
 refine aH rfl ?_
 refine bp zr zr bh ?_
 intro b0
 refine aS (ao.trans (ao.pick [1] rfl) (ao.cX [_,_,_,_] _)) (go ?_)
 refine bq 4 zr zr zr zr zr zr ?_
 refine aw hw ?_
 refine go ?_
 refine ak (ao.trans (ao.pick [3,0,1,2] rfl) (ao.cd [_,_,_,_] _)) ?_
 refine ad hE Tryz.func118 zr zr ⟨rfl,rfl⟩
def uU{A:Ab}{d:Dg}(h:gn A d=none):eo A d=false:=by unfold eo;rw[h]
theorem uT{A:Ab}{d:Dg}{l:List Bl}(h:gn A d=some l):eo A d=(decide (ug l=d) && !l.any fun y => !iK A y.d):=by
 grind [eo]
def GK{A:Ab}{d:Dg}{l:List Bl}(h:gn A d=some l):fj l=0:=by
 obtain⟨b,_,hb⟩:=Option.bind_eq_some_iff.1 h
 exact D1 hb
def zf(X:HP)(hK:pt X)(bs bd:Nat)(q:Int)(mb:Nat)(brk:Bool)(A:Ab)(d:Dg):aq Tryz.prog 57 [ptr bs,dV d] [ag bs (cl (cF bd q mb brk) 120),aB bd A,X]
  (fun r H=>r = .bool (eo A d)∧H=[ag bs (cl (cF bd q mb brk) 120),aB bd A,X]):=by
 have hi:=vB bs bd q mb brk A d
 refine aq.aj Tryz.func57 Tryz.ntmps57 fun G F R hE=>?_
 refine aH rfl ?_
 refine bp zr zr bh ?_
 intro b2
 refine bp zr zr bh ?_
 intro b3
 refine go ?_
 refine aM (U:=aU) (l:=dC d) 0 zr zr zr zr zr zr ?_
 refine aF hi ?_
 rintro _ _⟨rv,rfl,rfl⟩
 refine aL 0 rfl ?_
 rintro ra rc rfl
 refine go ?_
 refine az zr zr zr bh ?_
 intro b5
 refine go ?_
 cases MZ:gn A d with
 | none =>
  rw[uU MZ]at hE
  have y4:=BQ X hK (.slice ra 0 rc) [] (Vw.nil X ra rc) (by simp)
  refine aM (U:=aU) (l:=[.slice ra 0 rc]) 0 zr zr zr zr zr zr ?_
  refine aw y4 ?_
  refine go ?_
  refine az zr zr zr bh ?_
  intro b7
  refine go ?_
  refine ad hE Tryz.func57 zr zr ⟨rfl,rfl⟩
 | some l =>
  have hJ:=GK MZ
  have hlr:=l7 hJ
  rw[uT MZ]at hE
  refine FM 1 rfl ?_
  intro dt gg
  refine aS (H':=Sep [aI 107 66 (.slice ra l.length rc) l.length (l.flatMap dY),X]::ag b5 (cl [.slice ra l.length rc] 167)::ag bs (cl (cF bd q mb brk) 120)::aB bd A::ag b3 (cl (dC d) 36)::ag b2 (cl [ptr bs] 66)::F) (ao.trans (H2:=aI 107 66 (.slice ra l.length rc) l.length (l.flatMap dY)::X::ag b5 (cl [.slice ra l.length rc] 167)::ag bs (cl (cF bd q mb brk) 120)::aB bd A::ag b3 (cl (dC d) 36)::ag b2 (cl [ptr bs] 66)::F) ah (ao.cd [_,_] _)) ?_
  have y4:=BQ _ (hK.mono (bz (H:=[aI 107 66 (.slice ra l.length rc) l.length (l.flatMap dY),X]) (i:=1) rfl)) _ l (dt.mono (bz (i:=0) rfl)) ai
  rw[if_pos hJ]at y4
  refine aM (U:=aU) (l:=[.slice ra l.length rc]) 1 zr zr zr zr zr zr ?_
  refine aw y4 ?_
  refine go ?_
  refine az zr zr zr bh ?_
  intro b7
  refine go ?_
  refine aM (U:=aU) (l:=dC (ug l)) 0 zr zr zr zr zr zr (go ?_)
  refine aM (U:=aU) (l:=dC d) 5 zr zr zr zr zr zr (go ?_)
  refine mw (b:=decide (ug l=d)) zr zr zr KC (fun w=>KI (ug l) d w) ?_
  by_cases gp:ug l=d
  ·rw[decide_eq_true gp]at hE ⊢
   refine go ?_
   refine aS (H':=aI 107 66 (.slice ra l.length rc) l.length (l.flatMap dY)::Sep [ag b2 (cl [ptr bs] 66),ag bs (cl (cF bd q mb brk) 120),aB bd A,X]::F) (ao.trans (ao.trans (ao.pick [1] rfl) (ao.cX [_,_] _)) (ao.trans (H2:=ag b2 (cl [ptr bs] 66)::ag bs (cl (cF bd q mb brk) 120)::aB bd A::X::aI 107 66 (.slice ra l.length rc) l.length (l.flatMap dY)::F) ah (ao.trans (ao.cd [_,_,_,_] _) ah))) ?_
   refine aw (mJ _ (Sep [ag b2 (cl [ptr bs] 66),ag bs (cl (cF bd q mb brk) 120),aB bd A,X]) _ l dt ai 118 [ptr b2] (fun y => !iK A y.d) (fun y _=>D4 X hK b2 bs bd q mb brk A y)) ?_
   refine go ?_
   refine ak (ao.trans (ao.pick [1] rfl) (ao.cX [_,_,_,_] _)) ?_
   refine ad hE Tryz.func57 zr zr ⟨rfl,rfl⟩
  ·rw[decide_eq_false gp]at hE ⊢
   refine go ?_
   refine ak (ao.trans (ao.pick [1] rfl) (ao.cX [_,_] _)) ?_
   refine ad hE Tryz.func57 zr zr ⟨rfl,rfl⟩
def zy(g:FuncId)(fi:List Value)(Y:Ab→HP)(right:Ab→Dg→Bool):Prop:=∀(A:Ab) (d:Dg),aq Tryz.prog g (fi++[dV d]) [Y A] (fun r H=>r = .bool (right A d)∧H=[Y A])
end Go.Proofs.YtnkfkabokmcgoaaGreatDoor
namespace Go.Proofs.YtnkfkabokmcgoaaGreatDoor
open Go Go.SL
attribute [local irreducible] J K aq Ends ag aI aC bF aW aP a6 aZ bN
theorem BI{σ:Type}(I:σ→HP)(V:HP)(v:Value)(mG:List Value)(hv:Vw V v mG.length mG)(hn:mG.length≤1000000000)(ss:List (σ→Nat→σ→Prop))(hlen:ss.length=mG.length)(Q:Nat→σ→Prop)(dD:∀(i:Nat) (fv:Value) (s:σ→Nat→σ→Prop),mG[i]?=some fv→ss[i]?=some s→∃g fi cap,fv = .func (.func g) fi cap∧∀x,Q i x→aq Tryz.prog g (fi.toList++cap.toList) [I x] (fun r H=>∃(e:Nat) (x':σ),r = .int .i64 (e:Int)∧H=[I x']∧s x e x'∧(e=0→Q (i+1) x')))(x0:σ)(hQ:Q 0 x0) :
  aq Tryz.prog 51 [v] [V,I x0] (fun r H=>∃(e:Nat) (x':σ),r = .int .i64 (e:Int)∧H=[V,I x']∧ry ss x0 e x'∧(e=0→Q mG.length x')):=by
 obtain⟨a,c,rfl⟩:=hv.shape
 refine aq.aj Tryz.func51 Tryz.ntmps51 fun G F R hE=>?_
 refine go ?_
 refine bn (fun y:Nat × σ=>y.1≤mG.length∧Q y.1 y.2∧∀e x',ry (ss.drop y.1) y.2 e x'→ry ss x0 e x') (fun y=>mG.length-y.1)
  (fun y=>[(0,.slice a mG.length c),(6,.slice a mG.length c),(7,.int .i64 (mG.length:Int)),(8,.int .i64 (y.1:Int))])
  (fun y=>V::I y.2::F) (0,x0) ⟨Nat.zero_le _,hQ,fun _ _ h=>h⟩ rfl bQ ah ?_
 rintro⟨i,x⟩⟨hi,hq,hr⟩ ih
 simp only at hi hq hr
 refine go ?_
 refine au zr zr ?_ ?_
 ·intro cq
  simp only at cq
  have ko:i<mG.length:=by omega
  obtain⟨fv,M3⟩:∃fv,mG[i]?=some fv:=⟨mG[i],List.getElem?_eq_getElem ko⟩
  obtain⟨s,hs⟩:∃s,ss[i]?=some s:=⟨ss[i],List.getElem?_eq_getElem ai⟩
  obtain⟨g,fi,cap,rfl,hc⟩:=dD i fv s M3 hs
  have jz:ss.drop i=s::ss.drop (i+1):=by
   rw[List.drop_eq_getElem_cons ai]
   grind
  obtain⟨b0,o0,c0,vL⟩:=hv.some (by intro h;rw[h]at ko;simp at ko)
  simp only[Value.slice.injEq]at vL
  obtain⟨rfl,-,rfl⟩:=vL
  refine go ?_
  refine bC i zr zr zr zr zr zr zr zr ko ?_
  refine aN 0 i zr zr zr hv rfl M3 zr zr (go ?_)
  refine iC zr zr zr (by simp) (hc x hq) ah ?_ iE
  rintro _ _⟨e,x',rfl,rfl,YV,N8⟩
  refine go ?_
  refine au zr zr ?_ ?_
  ·intro fy
   have he:e≠0:=by omega
   refine go ?_
   ((refine ad hE Tryz.func51 zr zr ⟨e,x',rfl,rfl,hr e x' (by rw[jz];exact⟨e,x',YV,.inl ⟨he,rfl,rfl⟩⟩),fun h=>absurd h he⟩))
  ·intro heq
   have he:e=0:=by omega
   refine go ?_
   refine aK ih (i+1,x') rfl (⟨by simp only;omega,N8 he,fun e2 x2 h2=>hr e2 x2 (by rw[jz];exact⟨e,x',YV,.inr ⟨he,h2⟩⟩)⟩) (by simp only;omega) bQ ah
 ·intro ek
  simp only at ek
  have dq:i=mG.length:=by omega
  subst dq
  refine go ?_
  ((refine ad hE Tryz.func51 zr zr ⟨0,x,rfl,rfl,hr 0 x (by rw[List.drop_eq_nil_of_le ai];exact⟨rfl,rfl⟩),fun _=>hq⟩))
attribute [local irreducible] Sha.chunks Sha.chunk Sha.rounds Sha.sched fg cD GI fR
def nW(bd:Nat)(A:Ab):aq Tryz.prog 49 [ptr bd] [aB bd A] (fun r H=>H=[aI 9 1 r (ed A).length ((ed A).map Value.string),aB bd A]):=by
 have hl:(ed A).length=(fF A).length:=by unfold ed;rw[List.length_map,qK]
 have hm:(ed A).map Value.string=nS (ni (fF A)):=by unfold ed nS;rw[List.map_map];rfl
 rw[hl,hm]
 exact gC (Post:=fun v H=>∃D,Rel D A∧H=[aI 9 1 v (fF A).length (nS (ni (fF A))),fI bd D]) ae (fun D hR=>(HT bd D A hR).post (fun v H h=>⟨D,hR,h⟩)) (by rintro v H⟨D',hR,rfl⟩;exact⟨_,rfl,ao.cons _ (fV hR [])⟩)
attribute [local irreducible] aB
def l3{A:Ab}(h:FV A):(ed A).length≤200:=by
 unfold ed fF
 rw[List.length_map,qK,List.length_map]
 exact h.eA _ (List.mem_cons_self ..)
def qz(bs bd:Nat)(q:Int)(mb:Nat)(brk:Bool)(X:HP)(A:Ab):HP:=Sep [ag bs (cl (cF bd q mb brk) 120),aB bd A,X]
def v8{A B:Ab}{nm:ByteArray}{e:Nat}(h:Ah nm A e B):kd A B:=by
 have:=nH A (isName nm) nm
 rw[← h]at this
 exact this
theorem qN(bs bd:Nat)(q:Int)(mb:Nat)(brk:Bool)(X:HP)(kind:List UInt8)(hk:kind.length≤1000)(g:FuncId)(fi:List Value)(right:Ab→Dg→Bool)(hr:zy g fi (qz bs bd q mb brk X) right)(A:Ab)(dD:A.aR.length≤900000000) :
  aq Tryz.prog 53 [ptr bs,.string (strOf kind),.func (.func g) fi.toArray #[] ] [qz bs bd q mb brk X A]
  (fun r H=>∃(e:Nat) (B:Ab),r = .int .i64 (e:Int)∧H=[qz bs bd q mb brk X B]∧di kind right A e B∧B.aR.length≤A.aR.length+200):=by
 refine aq.aj Tryz.func53 Tryz.ntmps53 fun G F R hE=>?_
 refine ak (ao.cX [_,_,_] _) ?_
 refine qq (bd:=bd) (A:=A) 1 rfl ?_
 intro DN
 have A6:=l3 DN
 obtain⟨l,hl⟩:∃l,l=ed A:=⟨_,rfl⟩
 have hsd:∀e B,lL kind right l A e B→di kind right A e B:=fun e B h=>by unfold di;rw[← hl];exact h
 refine go ?_
 have y4:=nW bd A
 rw[← hl]at y4 A6
 refine aF y4 ?_
 rintro r _ rfl
 refine aL 0 rfl ?_
 rintro ra rc rfl
 refine dT 0 rfl ?_
 intro dt
 refine go ?_
 refine bn (fun y:Nat × Ab=>y.1≤l.length∧y.2.aR.length≤A.aR.length+y.1∧∀e B,lL kind right (l.drop y.1) y.2 e B→di kind right A e B) (fun y=>l.length-y.1)
  (fun y=>[(0,ptr bs),(1,.string (strOf kind)),(2,.func (.func g) fi.toArray #[]),(16,.slice ra l.length rc),(17,.int .i64 (l.length:Int)),(18,.int .i64 (y.1:Int))])
  (fun y=>aI 9 1 (.slice ra l.length rc) l.length (l.map Value.string)::ag bs (cl (cF bd q mb brk) 120)::aB bd y.2::X::F) (0,A) ⟨Nat.zero_le _,by simp,hsd⟩ rfl bQ ah ?_
 rintro⟨i,B⟩⟨hi,hbs,Vv⟩ ih
 simp only at hi hbs Vv
 dsimp only
 refine go ?_
 refine au zr zr ?_ ?_
 ·intro cq
  have dq:i<l.length:=by omega
  obtain⟨nm,hx⟩:∃x,l[i]?=some x:=⟨l[i],by simp⟩
  have jz:l.drop i=nm::l.drop (i+1):=by
   rw[List.drop_eq_getElem_cons dq]
   grind
  rw[jz]at Vv
  have cG:(l.map Value.string)[i]?=some (.string nm):=by rw[List.getElem?_map,hx];rfl
  obtain⟨b,o,eX,dW⟩:=dt.some (by intro h;rw[h]at cG;simp at cG)
  simp only[Value.slice.injEq]at dW
  obtain⟨rfl,_,rfl⟩:=dW
  refine go ?_
  refine bX i 1 zr zr zr zr zr zr zr zr dq ?_
  refine aT ?_
  refine aN 0 (i*1) zr zr zr dt rfl (by rw[Nat.mul_one];exact cG) zr zr ?_
  refine go ?_
  refine aw (uF kind nm hk) ?_
  cases hh:gj kind nm with
  | none =>
   have GO:∀e B',lL kind right (l.drop (i+1)) B e B'→di kind right A e B':=fun e B' h=>Vv e B' (by unfold lL;rw[hh];exact h)
   simp only[uG]
   unfold dV
   refine go ?_
   refine az zr zr zr bh ?_
   intro b9
   refine go ?_
   refine aK ih (i+1,B) rfl ⟨by simp only;omega,by simp only;omega,GO⟩ (by simp only;omega) bQ ah
  | some d =>
   have N6:=hr B d
   simp only[uG]
   unfold dV
   refine go ?_
   refine az zr zr zr bh ?_
   intro b9
   refine go ?_
   refine aM (U:=aU) (l:=dC d) 0 zr zr zr zr zr zr (go ?_)
   refine aS (ao.trans (ao.pick [2,3,4] rfl) (ao.cd [ag bs (cl (cF bd q mb brk) 120),aB bd B,X] _)) ?_
   refine iC zr zr zr (by simp;rfl) N6 ah ?_ iE
   rintro _ _⟨rfl,rfl⟩
   refine aS (ao.cX [ag bs (cl (cF bd q mb brk) 120),aB bd B,X] _) ?_
   cases WO:right B d with
   | true =>
    have GO:∀e B',lL kind right (l.drop (i+1)) B e B'→di kind right A e B':=fun e B' h=>Vv e B' (by unfold lL;rw[hh];simp only;rw[if_pos WO];exact h)
    refine go ?_
    refine aK ih (i+1,B) rfl ⟨by simp only;omega,by simp only;omega,GO⟩ (by simp only;omega) bQ ah
   | false =>
    have Y4:=yg bd B nm ai
    obtain⟨e1,B1,N7⟩:∃e1 B1,B.remove (isName nm) nm=(e1,B1):=⟨_,_,rfl⟩
    rw[N7]at Y4
    have WX:=v8 (A:=B) (B:=B1) (nm:=nm) (e:=e1) N7.symm
    have GO:∀e B',((e1≠0∧e=e1∧B'=B1)∨(e1=0∧lL kind right (l.drop (i+1)) B1 e B'))→di kind right A e B':=fun e B' h=>Vv e B' (by unfold lL;rw[hh];simp only;rw[if_neg (by rw[WO];simp)];exact⟨e1,B1,N7.symm,h⟩)
    have L3:=WX.1
    refine go ?_
    refine aw Y4 ?_
    refine go ?_
    refine au zr zr ?_ ?_
    ·intro fy
     have lh:e1≠0:=by simp only at fy;omega
     refine go ?_
     refine ak (H':=qz bs bd q mb brk X B1::F) (ao.trans (H2:=ag bs (cl (cF bd q mb brk) 120)::aB bd B1::X::F) ah (ao.cd [ag bs (cl (cF bd q mb brk) 120),aB bd B1,X] _)) ?_
     refine ad hE Tryz.func53 zr zr ⟨e1,B1,rfl,rfl,GO e1 B1 (.inl ⟨lh,rfl,rfl⟩),ai⟩
    ·intro heq
     have G5:e1=0:=by simp only at heq;omega
     refine go ?_
     refine aK ih (i+1,B1) rfl ⟨by simp only;omega,by simp only;omega,fun e B' h=>GO e B' (.inr ⟨G5,h⟩)⟩ (by simp only;omega) bQ ah
 ·intro ek
  have vK:i=l.length:=by omega
  rw[vK,List.drop_length]at Vv
  refine go ?_
  refine ak (H':=qz bs bd q mb brk X B::F) (ao.trans (H2:=ag bs (cl (cF bd q mb brk) 120)::aB bd B::X::F) ah (ao.cd [ag bs (cl (cF bd q mb brk) 120),aB bd B,X] _)) ?_
  ((refine ad hE Tryz.func53 zr zr ⟨0,B,rfl,rfl,Vv 0 B (by unfold lL;exact⟨rfl,rfl⟩),ai⟩))
def Fy{P:Program}{f:FuncId}{args:List Value}{l:List HP}{p:Value→Prop}(h:aq P f args l (fun r H=>p r∧H=l)):aq P f args [Sep l] (fun r H=>p r∧H=[Sep l]) :=
 h.conv (by have:=ao.cX l [];rwa[List.append_nil]at this) (by intro v H hh;obtain⟨hp,hH⟩:=hh;exact⟨[Sep l],⟨hp,rfl⟩,by rw[hH];have:=ao.cd l [];rwa[List.append_nil]at this⟩)
def CS(X:HP)(hK:pt X)(bs bd:Nat)(q:Int)(mb:Nat)(brk:Bool):zy 54 [ptr bs] (qz bs bd q mb brk X) iK:=fun A d=>Fy (p:=fun r=>r = .bool (iK A d)) (wG X hK bs bd q mb brk A d)
def vO(X:HP)(hK:pt X)(bs bd:Nat)(q:Int)(mb:Nat)(brk:Bool):zy 57 [ptr bs] (qz bs bd q mb brk X) eo:=fun A d=>Fy (p:=fun r=>r = .bool (eo A d)) (zf X hK bs bd q mb brk A d)
def CT(Y:Ab→HP):zy 50 [] Y (fun _ _=>false):=fun A d=>by
 show aq Tryz.prog 50 [dV d] [Y A] _
 unfold dV
 refine aq.aj Tryz.func50 Tryz.ntmps50 fun G F R hE=>?_
 refine aH rfl ?_
 refine bp zr zr bh ?_
 intro b1
 refine go ?_
 refine ad hE Tryz.func50 zr zr ⟨rfl,rfl⟩
def JK(bs bd b6 b8:Nat)(q:Int)(mb:Nat)(X:HP)(A:Ab):HP:=Sep [qz bs bd q mb false X A,ag b6 (cl [ptr bs] 66),ag b8 (cl [.func (.func 50) #[] #[] ] 113)]
def Gr(X:HP)(hK:pt X)(bs bd b6 b8:Nat)(q:Int)(mb:Nat)(A:Ab)(dD:A.aR.length≤900000000):aq Tryz.prog 52 [ptr b6] [JK bs bd b6 b8 q mb X A]
  (fun r H=>∃(e:Nat) (B:Ab),r = .int .i64 (e:Int)∧H=[JK bs bd b6 b8 q mb X B]∧di kB iK A e B∧B.aR.length≤A.aR.length+200):=by
 refine aq.aj Tryz.func52 Tryz.ntmps52 fun G F R hE=>?_
 refine ak (ao.cX [_,_,_] _) (go ?_)
 refine aF (qN bs bd q mb false X kB (by decide) _ [ptr bs] iK (CS X hK bs bd q mb false) A dD) ?_
 rintro _ _⟨e,B,rfl,rfl,h1,h2⟩
 refine go ?_
 refine ak (ao.cd [qz bs bd q mb false X B,_,_] _) ?_
 refine ad hE Tryz.func52 zr zr ⟨e,B,rfl,rfl,h1,h2⟩
def Gq(X:HP)(bs bd b6 b8:Nat)(q:Int)(mb:Nat)(A:Ab)(dD:A.aR.length≤900000000):aq Tryz.prog 55 [ptr b6,ptr b8] [JK bs bd b6 b8 q mb X A]
  (fun r H=>∃(e:Nat) (B:Ab),r = .int .i64 (e:Int)∧H=[JK bs bd b6 b8 q mb X B]∧di kN (fun _ _=>false) A e B∧B.aR.length≤A.aR.length+200):=by
 refine aq.aj Tryz.func55 Tryz.ntmps55 fun G F R hE=>?_
 refine ak (ao.cX [_,_,_] _) (go ?_)
 refine aF (qN bs bd q mb false X kN (by decide) _ [] (fun _ _=>false) (CT _) A dD) ?_
 rintro _ _⟨e,B,rfl,rfl,h1,h2⟩
 refine go ?_
 refine ak (ao.cd [qz bs bd q mb false X B,_,_] _) ?_
 refine ad hE Tryz.func55 zr zr ⟨e,B,rfl,rfl,h1,h2⟩
def Gp(X:HP)(hK:pt X)(bs bd b6 b8:Nat)(q:Int)(mb:Nat)(A:Ab)(dD:A.aR.length≤900000000):aq Tryz.prog 56 [ptr b6] [JK bs bd b6 b8 q mb X A]
  (fun r H=>∃(e:Nat) (B:Ab),r = .int .i64 (e:Int)∧H=[JK bs bd b6 b8 q mb X B]∧di kI eo A e B∧B.aR.length≤A.aR.length+200):=by
 refine aq.aj Tryz.func56 Tryz.ntmps56 fun G F R hE=>?_
 refine ak (ao.cX [_,_,_] _) (go ?_)
 refine aF (qN bs bd q mb false X kI (by decide) _ [ptr bs] eo (vO X hK bs bd q mb false) A dD) ?_
 rintro _ _⟨e,B,rfl,rfl,h1,h2⟩
 refine go ?_
 refine ak (ao.cd [qz bs bd q mb false X B,_,_] _) ?_
 refine ad hE Tryz.func56 zr zr ⟨e,B,rfl,rfl,h1,h2⟩
def dP(l:List (Dg × Bl)):List (Dg × Value):=l.map fun x=>(x.1,mH x.2)
theorem l0(A:Ab):(ed A).length=A.names.length:=by unfold ed fF;rw[List.length_map,qK,List.length_map]
theorem HR(X:HP)(hK:pt X)(bd:Nat)(q:Int)(A:Ab)(dD:A.aR.length≤800000000):aq Tryz.prog 18 [ptr bd,.int .i64 q] [aB bd A,X]
  (fun r H=>((q<1∨1073741824<q)∧r = .tuple #[.pointer none,.int .i64 1]∧H=[aB bd A,X])∨(¬(q<1∨1073741824<q)∧A.off=true∧r = .tuple #[.pointer none,.int .i64 7]∧H=[aB bd A,X]) ∨
   (¬(q<1∨1073741824<q)∧A.off=false∧∃(e:Nat) (B:Ab),nU A e B∧((e≠0∧r = .tuple #[.pointer none,.int .i64 (e:Int)]∧H=[aB bd B,X]) ∨
    (e=0∧B.aR.length≤A.aR.length+601∧∃bs mb,r = .tuple #[ptr bs,.int .i64 0]∧H=[ag bs (cl (cF bd q mb false) 120),aC dV mb (dP []),aB bd B,X])))):=by
 refine aq.aj Tryz.func18 Tryz.ntmps18 fun G F R hE=>?_
 refine qq (bd:=bd) (A:=A) 0 rfl ?_
 intro DN
 repeat'(first|(with_reducible intro iI)|refine fq ?_|refine dw zr zr zr zr ?_ ?_|refine au zr zr ?_ ?_|(refine aF (Ld bd A) ?_;rintro _ _⟨rfl,rfl⟩))
 ·refine ad hE Tryz.func18 zr zr (.inl ⟨.inl ai,rfl,rfl⟩)
 ·refine ad hE Tryz.func18 zr zr (.inl ⟨.inr ai,rfl,rfl⟩)
 have hq:¬(q<1∨1073741824<q):=by omega
 cases iq:A.off with
 | true =>
  refine go ?_
  refine ad hE Tryz.func18 zr zr (.inr (.inl ⟨hq,iq,rfl,rfl⟩))
 | false =>
  rw[iq]at hE
  refine go ?_
  refine dN rfl bh ?_
  intro mb
  refine aS (ao.fold (B:=[_]) (A:=aC dV mb (dP [])) (fun h hs=>⟨h,sub.refl h,fO dV mb h (cW hs)⟩)) ?_
  refine go ?_
  refine bp zr zr bh ?_
  intro bs
  refine az zr zr zr bh ?_
  intro b6
  refine go ?_
  refine aF (nW bd A) ?_
  rintro r _ rfl
  refine aL 0 rfl ?_
  rintro ra rc rfl
  refine go ?_
  refine az zr zr zr bh ?_
  intro b8
  refine go ?_
  refine al (cs:=[.func (.func 52) #[] #[ptr b6],.func (.func 55) #[] #[ptr b6,ptr b8],.func (.func 56) #[] #[ptr b6] ]) zr zr zr zr zr zr zr zr zr bh ?_
  intro row
  refine aS (H':=ag row (cl [.func (.func 52) #[] #[ptr b6],.func (.func 55) #[] #[ptr b6,ptr b8],.func (.func 56) #[] #[ptr b6] ] 76)::JK bs bd b6 b8 q mb X A::aC dV mb (dP [])::F) (ao.trans (H2:=ag bs (cl (cF bd q mb false) 120)::aB bd A::X::ag b6 (cl [ptr bs] 66)::ag b8 (cl [.func (.func 50) #[] #[] ] 113)::ag row (cl [.func (.func 52) #[] #[ptr b6],.func (.func 55) #[] #[ptr b6,ptr b8],.func (.func 56) #[] #[ptr b6] ] 76)::aC dV mb (dP [])::F) ah (ao.trans (ao.cd [ag bs (cl (cF bd q mb false) 120),aB bd A,X] _) (ao.trans (ao.cd [qz bs bd q mb false X A,ag b6 (cl [ptr bs] 66),ag b8 (cl [.func (.func 50) #[] #[] ] 113)] _) ah))) ?_
  have Kc:∀(i:Nat) (fv:Value) (sp:Ab→Nat→Ab→Prop),[.func (.func 52) #[] #[ptr b6],.func (.func 55) #[] #[ptr b6,ptr b8],.func (.func 56) #[] #[ptr b6] ][i]?=some fv→[di kB iK,di kN (fun _ _=>false),di kI eo][i]?=some sp→∃g fi cap,fv = .func (.func g) fi cap∧∀x:Ab,x.aR.length≤A.aR.length+200*i→aq Tryz.prog g (fi.toList++cap.toList) [JK bs bd b6 b8 q mb X x] (fun r H=>∃(e:Nat) (x':Ab),r = .int .i64 (e:Int)∧H=[JK bs bd b6 b8 q mb X x']∧sp x e x'∧(e=0→x'.aR.length≤A.aR.length+200*(i+1))):=by
   intro i fv sp hi hs
   match i,hi,hs with
   | 0,hi,hs =>
    cases hi;cases hs
    refine⟨_,_,_,rfl,fun x hx=>(Gr X hK bs bd b6 b8 q mb x ai).post ?_⟩
    grind
   | 1,hi,hs =>
    cases hi;cases hs
    refine⟨_,_,_,rfl,fun x hx=>(Gq X bs bd b6 b8 q mb x ai).post ?_⟩
    grind
   | 2,hi,hs =>
    cases hi;cases hs
    refine⟨_,_,_,rfl,fun x hx=>(Gp X hK bs bd b6 b8 q mb x ai).post ?_⟩
    grind
   | k+3,hi,hs=>simp at hi
  have dX:=BI (JK bs bd b6 b8 q mb X) (ag row (cl [.func (.func 52) #[] #[ptr b6],.func (.func 55) #[] #[ptr b6,ptr b8],.func (.func 56) #[] #[ptr b6] ] 76)) (.slice (some ⟨row,0,none⟩) 3 3) [.func (.func 52) #[] #[ptr b6],.func (.func 55) #[] #[ptr b6,ptr b8],.func (.func 56) #[] #[ptr b6] ] (Vw.ag rfl) (by show 3≤_;omega) [di kB iK,di kN (fun _ _=>false),di kI eo] rfl (fun i x=>x.aR.length≤A.aR.length+200*i) Kc A (by simp)
  refine aF dX ?_
  rintro _ _⟨e,B,rfl,rfl,jY,hb⟩
  refine aS (H':=ag bs (cl (cF bd q mb false) 120)::aB bd B::X::ag b6 (cl [ptr bs] 66)::aC dV mb (dP [])::F) (ao.trans (H2:=JK bs bd b6 b8 q mb X B::aC dV mb (dP [])::F) ah (ao.trans (ao.cX [qz bs bd q mb false X B,ag b6 (cl [ptr bs] 66),ag b8 (cl [.func (.func 50) #[] #[] ] 113)] _) (ao.trans (ao.cX [ag bs (cl (cF bd q mb false) 120),aB bd B,X] _) ah))) ?_
  by_cases he:e=0
  ·subst he
   have Wb:=hb rfl
   simp only[List.length_cons,List.length_nil]at Wb
   refine go ?_
   refine aF (nW bd B) ?_
   rintro r2 _ rfl
   refine aL 0 rfl ?_
   rintro ra2 rc2 rfl
   refine go ?_
   refine au zr zr ?_ ?_
   ·intro cq
    have GX:B.names.length<A.names.length:=by
     grind [l0]
    have YX:=mj bd B
    obtain⟨e2,B2,hse⟩:∃e2 B2,B.cj=(e2,B2):=⟨_,_,rfl⟩
    rw[hse]at YX
    have jZ:nU A e2 B2:=⟨0,B,jY,by rw[if_pos ⟨rfl,GX⟩];exact hse.symm⟩
    refine go ?_
    refine aw YX ?_
    refine go ?_
    refine au zr zr ?_ ?_
    ·intro fy
     have lh:e2≠0:=by simp only at fy;omega
     refine go ?_
     refine ad hE Tryz.func18 zr zr (.inr (.inr ⟨hq,rfl,e2,B2,jZ,.inl ⟨lh,rfl,rfl⟩⟩))
    ·intro heq
     have G5:e2=0:=by simp only at heq;omega
     subst G5
     have hg:B2.aR.length≤B.aR.length+1:=by
      have h1:B2=B.cj.2:=by rw[hse]
      rw[h1]
      exact(ir B).1
     refine go ?_
     refine ak (H':=ag bs (cl (cF bd q mb false) 120)::aC dV mb (dP [])::aB bd B2::X::F) ah ?_
     refine ad hE Tryz.func18 zr zr (.inr (.inr ⟨hq,rfl,0,B2,jZ,.inr ⟨rfl,ai,bs,mb,rfl,rfl⟩⟩))
   ·intro ek
    have GX:¬B.names.length<A.names.length:=by
     grind [l0]
    have jZ:nU A 0 B:=⟨0,B,jY,by rw[if_neg ai];exact⟨rfl,rfl⟩⟩
    refine go ?_
    refine ak (H':=ag bs (cl (cF bd q mb false) 120)::aC dV mb (dP [])::aB bd B::X::F) ah ?_
    refine ad hE Tryz.func18 zr zr (.inr (.inr ⟨hq,rfl,0,B,jZ,.inr ⟨rfl,ai,bs,mb,rfl,rfl⟩⟩))
  ·have jZ:nU A e B:=⟨e,B,jY,by rw[if_neg ai];exact⟨rfl,rfl⟩⟩
   refine go ?_
   have hd:decide ((e:Int)=0)=false:=by simp;exact he
   rw[hd]
   refine go ?_
   refine au zr zr ?_ ?_
   ·intro _
    refine go ?_
    refine ak (H':=aB bd B::X::F) ah ?_
    refine ad hE Tryz.func18 zr zr (.inr (.inr ⟨hq,rfl,e,B,jZ,.inl ⟨he,rfl,rfl⟩⟩))
   ·intro h0
    exact absurd (by omega:e=0) he
section
variable{P:Program}{U:Tr}[hU:er P U]{f:FuncId}{n:Nat}{R:Ending→World→Prop}{G:bY}{k:List Item}{L:dS}{H H':List HP}{all:Array Oper}{rest:Pl}{ty:TypeId}{pos:String}{af:Array Edge}{gd:Option (Nat × Bool)}{d:Tmp}
end
def FT(bs bd:Nat)(q:Int)(mb:Nat)(brk:Bool)(A:Ab)(d:Dg):aq Tryz.prog 77 [ptr bs,dV d] [ag bs (cl (cF bd q mb brk) 120),aB bd A]
  (fun r H=>r = .bool (jF A (dg kB d))∧H=[ag bs (cl (cF bd q mb brk) 120),aB bd A]):=by
 have hf:=nM kB d (by decide)
 unfold dV at hf ⊢
 refine aq.aj Tryz.func77 Tryz.ntmps77 fun G F R hE=>?_
 refine aH rfl ?_
 refine bp zr zr bh ?_
 intro b3
 refine go ?_
 refine aM (U:=aU) (l:=dC d) 0 zr zr zr zr zr zr ?_
 refine aw hf ?_
 refine aw (J8 bs bd q mb brk A (dg kB d)) ?_
 refine go ?_
 refine ad hE Tryz.func77 zr zr ⟨rfl,rfl⟩
def ue(l:List (Dg × Bl))(x:Bl):Bool:=decide (zm l x.d=some x)
theorem rq(l:List (Dg × Bl))(d:Dg):cw (dP l) d=(zm l d).map mH:=by
 unfold dP zm cw
 induction l with
 | nil=>rfl
 | cons y l ih =>
  grind
def JJ(bs bd:Nat)(q:Int)(mb:Nat)(brk:Bool)(l:List (Dg × Bl))(x:Bl):aq Tryz.prog 241 [ptr bs,mH x] [ag bs (cl (cF bd q mb brk) 120),aC dV mb (dP l)]
  (fun r H=>r = .bool (ue l x)∧H=[ag bs (cl (cF bd q mb brk) 120),aC dV mb (dP l)]):=by
 unfold mH
 refine aq.aj Tryz.func241 Tryz.ntmps241 fun G F R hE=>?_
 refine aH rfl ?_
 refine bp zr zr bh ?_
 intro b3
 refine go ?_
 refine aJ (fun w=>Sat G w ([ag b3 (cl (dY x) 107),ag bs (cl (cF bd q mb brk) 120),aC dV mb (dP l)])) (cM 0 10 (.act 10 (.act 11 (.st 12 .nil)))) rfl ae ae ae cY ?_
 refine go ?_
 refine bU (U:=aU) 0 zr zr zr zr zr zr (go ?_)
 refine dK (es:=dP l) (key:=x.d) rfl J7 zr zr zr zr zr zr zr (fun w hw=>hw.eU (i:=2) rfl) ?_
 rw[rq]
 cases hb:zm l x.d with
 | none =>
  simp only[Option.map_none,Option.getD_none,Option.isSome_none]
  refine go ?_
  refine az zr zr zr (fun _ w hw=>hw.cn ah) ?_
  intro b5
  refine go ?_
  (refine aY ?_;(refine bG 0 cY zr zr zr zr zr zr zr zr zr ?_))
  refine go ?_
  have hw:ue l x=false:=by unfold ue;rw[hb];rfl
  rw[hw]at hE
  refine ad hE Tryz.func241 zr zr ⟨rfl,rfl⟩
 | some y =>
  simp only[Option.map_some,Option.getD_some,Option.isSome_some]
  unfold mH
  refine go ?_
  refine az zr zr zr (fun _ w hw=>hw.cn ah) ?_
  intro b5
  refine go ?_
  (refine aY ?_;(refine bG 0 cY zr zr zr zr zr zr zr zr zr ?_))
  refine go ?_
  have hw:ue l x=decide (x=y):=by unfold ue;rw[hb];simp only[Option.some.injEq];rw[decide_eq_decide];exact eq_comm
  rw[hw]at hE
  (repeat(first|refine fq ?_|refine aM (U:=aU) (l:=dY x) 1 zr zr zr zr zr zr ?_|refine aM (U:=aU) (l:=dY y) 0 zr zr zr zr zr zr ?_|refine mw (b:=decide (x=y)) zr zr zr abM (fun w=>abN x y w) ?_))
  refine ad hE Tryz.func241 zr zr ⟨rfl,rfl⟩
def BA(bs bd:Nat)(q:Int)(mb:Nat)(brk:Bool)(Y:HP)(V:HP)(v:Value)(mG:List Value)(hv:Vw V v mG.length mG)(hn:mG.length≤1000000000)(ss:List IA)(hlen:ss.length=mG.length)(Q:Nat→Ab→Prop)(dD:∀(i:Nat) (fv:Value) (s:IA),mG[i]?=some fv→ss[i]?=some s→∃g fi cap,fv = .func (.func g) fi cap∧∀x,Q i x→aq Tryz.prog g (fi.toList++cap.toList) [qz bs bd q mb brk Y x] (fun r H=>∃(e:Nat) (x':Ab),r = .int .i64 (e:Int)∧H=[qz bs bd q mb brk Y x']∧s x e x'∧(e=0→Q (i+1) x')))(A:Ab)(hQ:Q 0 A) :
  aq Tryz.prog 135 [ptr bs,v] [V,qz bs bd q mb brk Y A]
   (fun r H=>∃(e:Nat) (B:Ab),r = .int .i64 (e:Int)∧H=[V,qz bs bd q mb (brk || decide (e≠0)) Y B]∧ry ss A e B∧(e=0→Q mG.length B)):=by
 have dX:=BI (qz bs bd q mb brk Y) V v mG hv hn ss hlen Q dD A hQ
 obtain⟨a,c,rfl⟩:=hv.shape
 refine aq.aj Tryz.func135 Tryz.ntmps135 fun G F R hE=>?_
 refine go ?_
 refine aF dX ?_
 rintro _ _⟨e,B,rfl,rfl,jY,hb⟩
 refine aS (ao.trans (ao.pick [1] rfl) (ao.cX [ag bs (cl (cF bd q mb brk) 120),aB bd B,Y] _)) ?_
 have mF:ao (ag bs (cl (cF bd q mb (brk || decide (e≠0))) 120)::aB bd B::Y::V::F) (V::qz bs bd q mb (brk || decide (e≠0)) Y B::F) :=
  ao.trans (ao.cd [ag bs (cl (cF bd q mb (brk || decide (e≠0))) 120),aB bd B,Y] _) ah
 cases brk with
 | true =>
  refine go ?_
  refine ak (ao.trans ah mF) ?_
  refine ad hE Tryz.func135 zr zr ⟨e,B,rfl,rfl,jY,hb⟩
 | false =>
  refine go ?_
  have ZQ:decide ((e:Int)≠0)=(false || decide (e≠0)):=by by_cases h:e=0 <;> simp[h]
  rw[ZQ]
  refine ak (ao.trans ah mF) ?_
  refine ad hE Tryz.func135 zr zr ⟨e,B,rfl,rfl,jY,hb⟩
end Go.Proofs.YtnkfkabokmcgoaaGreatDoor
namespace Go.Proofs.YtnkfkabokmcgoaaGreatDoor
open Go Go.SL
def D2{P:Program}{f:FuncId}{args:List Value}{Pre:List HP}{Post:Value→List HP→Prop}(X:List HP)(c:aq P f args Pre Post):aq P f args (Pre++X) (fun v H=>∃H',Post v H'∧H=H'++X) :=
 ⟨c.1,fun G w F hw=>(c.2 G w (X++F) (by rw[List.append_assoc]at hw;exact hw)).mono fun e w' h'=>let ⟨v,H,he,MK,hs⟩:=h';⟨v,H++X,he,⟨H,MK,rfl⟩,by rw[List.append_assoc];exact hs⟩⟩
attribute [local irreducible] J K aq Ends ag aI aC bF aW aP a6 aZ bN Sha.chunks Sha.chunk Sha.rounds Sha.sched fg cD GI fR aB
def yw(bs bd:Nat)(q:Int)(mb:Nat)(brk:Bool)(Xs:List HP)(A:Ab)(F:List HP):ao (qz bs bd q mb brk (Sep Xs) A::F) (ag bs (cl (cF bd q mb brk) 120)::aB bd A::(Xs++F)) :=
 ao.trans (ao.cX [ag bs (cl (cF bd q mb brk) 120),aB bd A,Sep Xs] F) (ao.cons _ (ao.cons _ (ao.cX Xs F)))
def IY(bs bd:Nat)(q:Int)(mb:Nat)(brk:Bool)(Xs:List HP)(A:Ab)(F:List HP):ao (ag bs (cl (cF bd q mb brk) 120)::aB bd A::(Xs++F)) (qz bs bd q mb brk (Sep Xs) A::F) :=
 ao.trans (ao.cons _ (ao.cons _ (ao.cd Xs F))) (ao.cd [ag bs (cl (cF bd q mb brk) 120),aB bd A,Sep Xs] F)
def Fx{f:FuncId}{args:List Value}{bs bd:Nat}{q:Int}{mb:Nat}{brk:Bool}{Xs:List HP}{A:Ab}{p:Nat→Ab→Prop}(h:aq Tryz.prog f args (ag bs (cl (cF bd q mb brk) 120)::aB bd A::Xs) (fun r H=>∃(e:Nat) (B:Ab),r = .int .i64 (e:Int)∧H=ag bs (cl (cF bd q mb brk) 120)::aB bd B::Xs∧p e B)) :
  aq Tryz.prog f args [qz bs bd q mb brk (Sep Xs) A] (fun r H=>∃(e:Nat) (B:Ab),r = .int .i64 (e:Int)∧H=[qz bs bd q mb brk (Sep Xs) B]∧p e B) :=
 h.conv (by have:=yw bs bd q mb brk Xs A [];rwa[List.append_nil]at this) (by
  rintro v H⟨e,B,rfl,rfl,hp⟩
  exact⟨_,⟨e,B,rfl,rfl,hp⟩,by have:=IY bs bd q mb brk Xs B [];rwa[List.append_nil]at this⟩)
def Wh(x:Bl):aq Tryz.prog 116 [.string (strOf kS),.agg (dC x.d).toArray] [] (fun r H=>r = .string (fS x)∧H=[]):=by
 have:=nM kS x.d (by decide)
 unfold dV at this
 exact this
def Ed(bs bd b2 b7:Nat)(q:Int)(mb:Nat)(brk:Bool)(n:ByteArray)(A:Ab)(dD:A.aR.length≤1000000000) :
  aq Tryz.prog 136 [ptr b2,ptr b7] (ag bs (cl (cF bd q mb brk) 120)::aB bd A::[ag b2 (cl [ptr bs] 66),ag b7 (cl [.string n] 9)])
   (fun r H=>∃(e:Nat) (B:Ab),r = .int .i64 (e:Int)∧H=ag bs (cl (cF bd q mb brk) 120)::aB bd B::[ag b2 (cl [ptr bs] 66),ag b7 (cl [.string n] 9)]∧ig n A e B):=by
 refine aq.aj Tryz.func136 Tryz.ntmps136 fun G F R hE=>?_
 refine go ?_
 refine aJ (fun w=>Sat G w ([ag bs (cl (cF bd q mb brk) 120),ag b2 (cl [ptr bs] 66),ag b7 (cl [.string n] 9)])) (cM 0 5 (.act 5 (.st 6 .nil))) rfl ae ae ae cY ?_
 refine go ?_
 ((refine cP zr zr zr zr (rD bd A n dD) ah ?_ (fun _ _ w hp hw=>by obtain⟨f,hf,rfl,rfl⟩:=hp;exact hw.cn ah)))
 rintro _ _⟨f,hf,rfl,rfl⟩
 refine go ?_
 refine ad hE Tryz.func136 zr zr ⟨_,_,rfl,rfl,⟨f,hf,rfl⟩⟩
def Mv(bs bd:Nat)(q:Int)(mb:Nat)(brk:Bool)(Xs:List HP)(A:Ab):aq Tryz.prog 58 [ptr bd] [qz bs bd q mb brk (Sep Xs) A]
  (fun r H=>∃(e:Nat) (B:Ab),r = .int .i64 (e:Int)∧H=[qz bs bd q mb brk (Sep Xs) B]∧ep A e B) :=
 Fx ((D2 (ag bs (cl (cF bd q mb brk) 120)::Xs) (mj bd A)).conv (ao.perm (List.Perm.swap ..)) (by
  rintro v H⟨H1,⟨rfl,rfl⟩,rfl⟩
  exact⟨_,⟨_,_,rfl,rfl,rfl⟩,ao.perm (List.Perm.swap ..)⟩))
def oW(bs bd:Nat)(q:Int)(mb:Nat)(s:mI):List HP:=[ag bs (cl (cF bd q mb s.brk) 120),aC dV mb (dP s.cm),aB bd s.A]
def GQ(A:Ab)(i:Nat)(x:Ab):Prop:=x.aR.length≤A.aR.length+i∧x.writes.length≤A.writes.length+i
def GQ.zero(A:Ab):GQ A 0 A:=⟨Nat.le_refl _,Nat.le_refl _⟩
def GQ.next{A x y:Ab}{i:Nat}(h:GQ A i x)(g:kd x y):GQ A (i+1) y:=⟨by have:=h.1;have:=g.1;omega,by have:=h.2;have:=g.2;omega⟩
def lG{A B:Ab}{e:Nat}(h:ep A e B):kd A B:=by
 have:=ir A
 rw[← h]at this
 exact this
theorem oS{A B:Ab}{nm:ByteArray}{e:Nat}(h:ig nm A e B):kd A B:=by
 obtain⟨f,_,h⟩:=h
 grind [nI,isName]
def lx(A:Ab)(nm:ByteArray):Nat:=if(gj kB nm).isSome then(A.size nm).1 else 0
theorem yv{α:Type}{l m:List α}(h:l.Perm m)(f:α→Nat):(l.map f).sum=(m.map f).sum:=by
 grind
theorem dJ{A:Ab}(h:(A.names.map (·.1)).Nodup){x:ByteArray × Nat}(hx:x∈A.names):A.look x.1=some x.2:=by
 have key:∀(l:List (ByteArray × Nat)),(l.map (·.1)).Nodup→x∈l→(l.find? (fun y=>decide (y.1=x.1))).map (·.2)=some x.2:=by
  intro l
  induction l with
  | nil=>intro _ h;cases h
  | cons y l ih =>
   grind
 exact key A.names h hx
theorem rR(A:Ab):(ed A).Perm (A.names.map (·.1)):=by
 unfold ed fF
 have h:=(kr (A.names.map (·.1))).map strOf
 rw[List.map_map]at h
 have h2:(A.names.map (·.1)).map (strOf ∘ fun b=>b.data.toList)=A.names.map (·.1):=by
  rw[List.map_map]
  refine List.map_congr_left fun x _=>?_
  exact tE x.1
 grind
def tr{A:Ab}(h:(A.names.map (·.1)).Nodup):IL A=((ed A).map (lx A)).sum:=by
 rw[yv (rR A),List.map_map]
 unfold IL
 congr 1
 refine List.map_congr_left fun x hx=>?_
 have hl:=dJ h hx
 simp only[Function.comp,lx,Ab.size,hl]
def yR{A:Ab}(h:FV A)(nm:ByteArray):lx A nm≤1048576:=by
 unfold lx Ab.size
 split
 ·cases A.look nm with
  | none=>simp
  | some f=>exact h.now f
 ·omega
def qJ{α:Type}(l:List α)(f:α→Nat)(m:Nat)(h:∀x∈l,f x≤m):(l.map f).sum≤l.length*m:=by
 induction l with
 | nil=>simp
 | cons x l ih =>
  have h1:=h x (List.mem_cons_self ..)
  have h2:=ih (fun y hy=>h y (List.mem_cons_of_mem _ hy))
  simp only[List.map_cons,List.sum_cons,List.length_cons,Nat.add_mul,Nat.one_mul]
  omega
def ly(cm:List (Dg × Bl))(dn:List Dg):Int:=((cm.filter fun x=>decide (x.1∈dn)).map (·.2.size)).sum
def JR(cm:List (Dg × Bl)):ly cm []=0:=by unfold ly;rw[List.filter_eq_nil_iff.2 (by simp)];rfl
def AL(cm:List (Dg × Bl))(dn:List Dg)(h:∀x∈cm,x.1∈dn):ly cm dn=(cm.map (·.2.size)).sum:=by
 unfold ly
 rw[List.filter_eq_self.2 (fun x hx=>decide_eq_true (h x hx))]
theorem Gw(cm:List (Dg × Bl))(key:Dg)(dn:List Dg)(h:key ∉ cm.map (·.1)):ly cm (key::dn)=ly cm dn:=by
 unfold ly
 congr 2
 refine List.filter_congr fun x hx=>?_
 grind
theorem Gx(cm:List (Dg × Bl))(key:Dg)(y:Bl)(dn:List Dg)(hn:(cm.map (·.1)).Nodup)(hm:(key,y)∈cm)(hd:key ∉ dn):ly cm (key::dn)=ly cm dn+y.size:=by
 induction cm with
 | nil=>cases hm
 | cons x l ih =>
  grind [Gw,ly]
theorem E3(cm:List (Dg × Bl))(dn:List Dg)(h:∀x∈cm,0≤x.2.size∧x.2.size≤1048576):0≤ly cm dn∧ly cm dn≤cm.length*1048576:=by
 unfold ly
 induction cm with
 | nil=>simp
 | cons x l ih =>
  obtain⟨h1,h2⟩:=h x (List.mem_cons_self ..)
  obtain⟨h3,h4⟩:=ih (fun y hy=>h y (List.mem_cons_of_mem _ hy))
  grind
def sy(cm:List (Dg × Bl)):Prop:=(∀x∈cm,0≤x.2.size∧x.2.size≤1048576)∧cm.length≤1000000
theorem NA(bs bd:Nat)(q:Int)(mb:Nat)(s:mI)(hb:sy s.cm):aq Tryz.prog 133 [ptr bs] (oW bs bd q mb s)
  (fun r H=>r = .int .i64 (oL s)∧H=oW bs bd q mb s):=by
 obtain⟨A,cm,brk⟩:=s
 obtain⟨oR,mN⟩:=hb
 simp only at oR mN
 refine aq.aj Tryz.func133 Tryz.ntmps133 fun G F R hE=>?_
 refine ak (H':=ag bs (cl (cF bd q mb brk) 120)::aB bd A::aC dV mb (dP cm)::F) ah ?_
 refine qq (bd:=bd) (A:=A) 1 rfl ?_
 intro DN
 have A6:=l3 DN
 have LU:oL ⟨A,cm,brk⟩=((ed A).map (lx A)).sum+(cm.map (·.2.size)).sum:=by
  unfold oL
  rw[tr (DN.nodup _ (List.mem_cons_self ..))]
 obtain⟨l,hl⟩:∃l,l=ed A:=⟨_,rfl⟩
 rw[← hl]at LU A6
 rw[LU]at hE
 have hle:∀i,((l.take i).map (lx A)).sum≤209715200:=fun i=>by
  have h1:=qJ (l.take i) (lx A) 1048576 (fun x _=>yR DN x)
  grind
 refine go ?_
 have y4:=nW bd A
 rw[← hl]at y4
 refine aF y4 ?_
 rintro r _ rfl
 refine aL 0 rfl ?_
 rintro ra rc rfl
 refine dT 0 rfl ?_
 intro dt
 refine go ?_
 refine bn (fun i:Nat=>i≤l.length) (fun i=>l.length-i)
  (fun i=>[(0,ptr bs),(3,.int .i64 (((l.take i).map (lx A)).sum:Nat)),(16,.slice ra l.length rc),(17,.int .i64 (l.length:Int)),(18,.int .i64 (i:Int))])
  (fun i=>aI 9 1 (.slice ra l.length rc) l.length (l.map Value.string)::ag bs (cl (cF bd q mb brk) 120)::aB bd A::aC dV mb (dP cm)::F) 0 (Nat.zero_le _) rfl bQ ah ?_
 rintro i hi ih
 have LZ:=hle i
 refine go ?_
 refine au zr zr ?_ ?_
 ·intro cq
  have dq:i<l.length:=by omega
  obtain⟨nm,hx⟩:∃x,l[i]?=some x:=⟨l[i],by simp⟩
  have mE:((l.take (i+1)).map (lx A)).sum=((l.take i).map (lx A)).sum+lx A nm:=by
   rw[List.take_add_one,hx];simp
  have cG:(l.map Value.string)[i]?=some (.string nm):=by rw[List.getElem?_map,hx];rfl
  have fT:=yR DN nm
  obtain⟨b,o,eX,dW⟩:=dt.some (by intro h;rw[h]at cG;simp at cG)
  simp only[Value.slice.injEq]at dW
  obtain⟨rfl,_,rfl⟩:=dW
  refine go ?_
  refine bX i 1 zr zr zr zr zr zr zr zr dq ?_
  refine aT ?_
  refine aN 0 (i*1) zr zr zr dt rfl (by rw[Nat.mul_one];exact cG) zr zr ?_
  refine go ?_
  refine aw (uF kB nm (by decide)) ?_
  cases hh:gj kB nm with
  | none =>
   have hz:lx A nm=0:=by unfold lx;rw[hh];rfl
   have Vt:((l.take i).map (lx A)).sum=((l.take (i+1)).map (lx A)).sum:=by omega
   simp only[uG]
   unfold dV
   refine go ?_
   refine az zr zr zr bh ?_
   intro b9
   refine go ?_
   rw[Vt]
   refine aK ih (i+1) rfl ai ai bQ ah
  | some d =>
   have hz:lx A nm=(A.size nm).1:=by unfold lx;rw[hh];rfl
   rw[hz]at mE fT
   simp only[uG]
   unfold dV
   refine go ?_
   refine az zr zr zr bh ?_
   intro b9
   refine go ?_
   refine aw (qj bd A nm) ?_
   refine go ?_
   refine aV 3 (.int .i64 (((l.take (i+1)).map (lx A)).sum:Nat)) rfl (congrArg (Value.int .i64) (by rw[mE];omega)) ?_
   refine aK ih (i+1) rfl ai ai bQ ah
 ·intro ek
  have vK:i=l.length:=by omega
  subst vK
  rw[List.take_length]
  obtain⟨n0,hn0⟩:∃n0,n0=(l.map (lx A)).sum:=⟨_,rfl⟩
  rw[List.take_length]at LZ
  rw[← hn0]at LZ hE ⊢
  refine nY fun⟨w,hw⟩=>?_
  have gp:(cm.map (·.1)).Nodup:=by
   obtain⟨h1,hA⟩:=y9 hw (i:=3) rfl
   have:=Dt hA
   grind [dP]
  clear hw w
  refine go ?_
  refine kT (kv:=dV) (es:=dP cm) (U:=aU) 3 zr zr zr zr zr (fun _=>rfl) bh ?_
  intro it
  refine go ?_
  have Fg:(dP cm).map (·.1)=cm.map (·.1):=by unfold dP;rw[List.map_map];rfl
  have iF:∀dn,0≤ly cm dn∧ly cm dn≤1048576000000:=fun dn=>by
   have:=E3 cm dn oR
   omega
  have h00:(n0:Int)=(n0:Int)+ly cm []:=by rw[JR];omega
  refine aV 3 (.int .i64 ((n0:Int)+ly cm [])) rfl (congrArg (Value.int .i64) h00) ?_
  refine bn (fun s:List Dg=>s.Nodup∧∀x∈s,x∈cm.map (·.1)) (fun s=>cm.length-s.length) (fun s=>[(0,ptr bs),(3,.int .i64 ((n0:Int)+ly cm s)),(45,.pointer (some ⟨it,0,none⟩))])
   (fun s=>bF dV mb it (dP cm) s::ag bs (cl (cF bd q mb brk) 120)::aB bd A::F) [] ⟨List.nodup_nil,by simp⟩ rfl bQ ah ?_
  clear ih
  rintro dn⟨lO,cu⟩ ih
  have hsd:=iF dn
  refine go ?_
  refine n5 (kv:=dV) (es:=dP cm) 0 rfl J7.inj zr zr (fun _=>rfl) eW bh ?_ ?_
  ·intro dX
   have hme:ly cm dn=(cm.map (·.2.size)).sum:=AL cm dn (fun x hx=>dX (x.1,mH x.2) (List.mem_map.2 ⟨x,hx,rfl⟩))
   rw[hme]
   refine go ?_
   refine ak (ao.head (B:=[aC dV mb (dP cm)]) (fun h hs=>by obtain⟨h',s,hm⟩:=gX h hs;exact⟨h',s,cV hm⟩)) ?_
   refine ak (H':=oW bs bd q mb ⟨A,cm,brk⟩++F) ah ?_
   refine ad hE Tryz.func133 zr zr ⟨rfl,rfl⟩
  ·intro key v dF js
   obtain⟨y,hy,Vn⟩:∃y,(key,y)∈cm∧v=mH y:=by
    obtain⟨z,hz,he⟩:=List.mem_map.1 dF
    cases he
    grind
   subst Vn
   have hms:=Gx cm key y dn gp hy js
   have acd:=iF (key::dn)
   have hk:key∈cm.map (·.1):=List.mem_map.2 ⟨_,hy,rfl⟩
   have cq:dn.length<cm.length:=by
    have h1:(key::dn).length≤(cm.map (·.1)).length:=(List.nodup_cons.2 ⟨js,lO⟩).length_le_of_subset (fun x hx=>by rcases List.mem_cons.1 hx with rfl|h;exact hk;exact cu x h)
    grind
   refine go ?_
   refine kU (kv:=dV) (es:=dP cm) 0 rfl J7.inj zr zr dF ?_
   unfold mH
   refine go ?_
   refine az zr zr zr bh ?_
   intro b11
   refine go ?_
   refine aV 3 (.int .i64 ((n0:Int)+ly cm (key::dn))) rfl (congrArg (Value.int .i64) (by rw[hms];omega)) ?_
   refine aK ih (key::dn) rfl (⟨List.nodup_cons.2 ⟨js,lO⟩,fun x hx=>by rcases List.mem_cons.1 hx with rfl|h;exact hk;exact cu x h⟩) (by show _-(key::dn).length<_;simp only[List.length_cons];omega) bQ ah
end Go.Proofs.YtnkfkabokmcgoaaGreatDoor
namespace Go.Proofs.YtnkfkabokmcgoaaGreatDoor
open Go Go.SL
structure HA(A:Ab):Prop where
 cZ:A.cZ=[]
 on:A.off=false
 keys:(A.names.map (·.1)).Nodup
 own:(A.names.map (·.2)).Nodup
 ids:(A.fs.map (·.1)).Nodup
 known:∀x∈A.names,x.2∈A.fs.map (·.1)
def vw(A:Ab)(nm:ByteArray):Option (List UInt8):=(A.look nm).map A.now
def HA.new(room:Nat):HA (Ab.new room):=⟨rfl,rfl,List.nodup_nil,List.nodup_nil,List.nodup_nil,fun _ h=>by cases h⟩
def HA.meet{A:Ab}(h:HA A):A.meet true=(0,A):=by unfold Ab.meet;rw[if_neg (by simp),if_neg (by rw[h.on];simp),h.cZ]
theorem HA.find{A:Ab}(h:HA A)(nm:ByteArray):A.find nm true=match A.look nm with|none=>(4,none,A)|some f=>(0,some f,A):=by
 unfold Ab.find
 rw[h.meet,if_pos rfl]
 grind
theorem fQ{A:Ab}{nm:ByteArray}{f:Nat}(h:A.look nm=some f):(nm,f)∈A.names:=by
 unfold Ab.look Ab.cQ at h
 cases hx:A.names.find? (fun x=>decide (x.1=nm))with
 | none=>rw[hx]at h;cases h
 | some x =>
  grind
theorem HA.Va{A:Ab}(h:HA A){a b:ByteArray}{f:Nat}(ha:A.look a=some f)(hb:A.look b=some f):a=b:=by
 have h1:=fQ ha
 have h2:=fQ hb
 have hn:=h.own
 have key:∀l:List (ByteArray × Nat),(l.map (·.2)).Nodup→(a,f)∈l→(b,f)∈l→a=b:=by
  intro l
  induction l with
  | nil=>intro _ h;cases h
  | cons y l ih =>
   grind
 grind
theorem AR(l:List (ByteArray × Nat))(k nm:ByteArray)(f:Nat)(hk:Ab.cQ l k=none):Ab.cQ (l++[(k,f)]) nm=if nm=k then some f else Ab.cQ l nm:=by
 unfold Ab.cQ at hk ⊢
 grind
theorem E2{A:Ab}{f g:Nat}(names:List (ByteArray × Nat))(aR:List (List (ByteArray × Nat))):({ A with names:=names,aR:=aR,fs:=(f,[],[])::A.fs }:Ab).now g=if f=g then []else A.now g:=by
 unfold Ab.now Ab.file
 grind
theorem HA.create{A:Ab}(h:HA A){nm:ByteArray}{f:Nat}(hv:vw A nm=none)(hl:A.names.length<200)(hf:f ∉ A.fs.map (·.1)){e:Nat}{B:Ab}(hB:(e,B)=A.create true nm f) :
  e=0∧HA B∧(∀n,vw B n=if n=nm then some []else vw A n)∧B.names.length=A.names.length+1∧B.room=A.room:=by
 have A9:A.look nm=none:=by
  unfold vw at hv
  cases hx:A.look nm with
  | none=>rfl
  | some x=>rw[hx]at hv;cases hv
 have hc:A.create true nm f=(0,{ A.oD (A.names++[(nm,f)])with fs:=(f,[],[])::A.fs }):=by
  unfold Ab.create
  rw[h.meet,if_pos rfl]
  grind
 rw[hc]at hB
 injection hB with h1 h2
 subst h1 h2
 have abb:∀n g,A.look n=some g→f≠g:=fun n g hg e=>hf (e ▸ h.known _ (fQ hg))
 refine⟨rfl,⟨h.cZ,h.on,?_,?_,?_,?_⟩,?_,?_,rfl⟩
 ·show((A.names++[(nm,f)]).map (·.1)).Nodup
  rw[List.map_append,List.nodup_append]
  refine⟨h.keys,by simp,fun a ha b hb=>?_⟩
  simp only[List.map_cons,List.map_nil,List.mem_singleton]at hb
  subst hb
  rintro rfl
  obtain⟨x,hx,Io⟩:=List.mem_map.1 ha
  have:=dJ h.keys hx
  grind
 ·show((A.names++[(nm,f)]).map (·.2)).Nodup
  rw[List.map_append,List.nodup_append]
  refine⟨h.own,by simp,fun a ha b hb=>?_⟩
  simp only[List.map_cons,List.map_nil,List.mem_singleton]at hb
  subst hb
  rintro rfl
  obtain⟨x,hx,rfl⟩:=List.mem_map.1 ha
  exact hf (h.known x hx)
 ·exact List.nodup_cons.2 ⟨hf,h.ids⟩
 ·intro x hx
  rcases List.mem_append.1 hx with hx|hx
  ·exact List.mem_cons_of_mem _ (h.known x hx)
  grind
 ·intro n
  unfold vw
  have e1:({ A.oD (A.names++[(nm,f)])with fs:=(f,[],[])::A.fs }:Ab).look n=if n=nm then some f else A.look n:=AR A.names nm n f A9
  rw[e1]
  by_cases hn:n=nm
  ·rw[if_pos hn,if_pos hn]
   show some _=_
   exact congrArg some ((E2 _ _).trans (if_pos rfl))
  ·rw[if_neg hn,if_neg hn]
   cases hg:A.look n with
   | none=>rfl
   | some g=>exact congrArg some ((E2 _ _).trans (if_neg (abb n g hg)))
 ·show(A.names++[(nm,f)]).length=_
  simp
theorem JM(A:Ab)(f g:Nat)(n:List UInt8)(w:List (Nat × Nat × List UInt8))(hg:g∈A.fs.map (·.1)):({ A with fs:=Ab.Ck A.fs f n,writes:=w }:Ab).now g=if g=f then n else A.now g:=by
 unfold Ab.now Ab.file Ab.Ck
 simp only[List.find?_map]
 have:((fun x:Nat × List UInt8 × List UInt8=>decide (x.1=g)) ∘ fun x=>if x.1=f then(x.1,n,x.2.2)else x)=fun x=>decide (x.1=g):=by
  grind
 rw[this]
 cases hx:A.fs.find? (fun x=>decide (x.1=g))with
 | none =>
  grind
 | some x =>
  grind
theorem HA.write{A:Ab}(h:HA A){nm:ByteArray}{c:List UInt8}(hv:vw A nm=some c)(at_:Nat)(b:List UInt8)(hr:A.used+(at_+b.length)≤A.room){e:Nat}{B:Ab}(hB:(e,B)=A.write true nm at_ b) :
  e=0∧HA B∧(∀n,vw B n=if n=nm then some (ea c at_ b)else vw A n)∧B.names=A.names∧B.room=A.room:=by
 obtain⟨f,hf,rfl⟩:∃f,A.look nm=some f∧A.now f=c:=by
  unfold vw at hv
  cases hx:A.look nm with
  | none=>rw[hx]at hv;cases hv
  | some f=>rw[hx]at hv;injection hv with hv;exact⟨f,rfl,hv⟩
 have hc:A.write true nm at_ b=(0,{ A with fs:=Ab.Ck A.fs f (ea (A.now f) at_ b),writes:=A.writes++[(f,at_,b)] }):=by
  unfold Ab.write
  rw[h.find,hf]
  grind
 rw[hc]at hB
 injection hB with h1 h2
 subst h1 h2
 have VD:∀g,g∈A.fs.map (·.1)→({ A with fs:=Ab.Ck A.fs f (ea (A.now f) at_ b),writes:=A.writes++[(f,at_,b)] }:Ab).now g=if g=f then ea (A.now f) at_ b else A.now g:=fun g hg=>JM A f g _ _ hg
 refine⟨rfl,⟨h.cZ,h.on,h.keys,h.own,?_,?_⟩,?_,rfl,rfl⟩
 ·show((Ab.Ck A.fs f _).map (·.1)).Nodup
  rw[pF]
  exact h.ids
 ·intro x hx
  show x.2∈(Ab.Ck A.fs f _).map (·.1)
  rw[pF]
  exact h.known x hx
 ·intro n
  unfold vw
  show(A.look n).map _=_
  by_cases hn:n=nm
  ·subst hn
   rw[if_pos rfl,hf]
   exact congrArg some ((VD f (h.known _ (fQ hf))).trans (if_pos rfl))
  ·rw[if_neg hn]
   cases hg:A.look n with
   | none=>rfl
   | some g=>exact congrArg some ((VD g (h.known _ (fQ hg))).trans (if_neg (fun e=>hn (h.Va (e ▸ hg) hf))))
theorem wI(fs:List (Nat × List UInt8 × List UInt8))(f:Nat):(Ab.nc fs f).map (·.1)=fs.map (·.1):=by
 unfold Ab.nc
 rw[List.map_map]
 refine List.map_congr_left fun x _=>?_
 grind
theorem Gt(A:Ab)(f g:Nat)(w:List (Nat × Nat × List UInt8)):({ A with fs:=Ab.nc A.fs f,writes:=w }:Ab).now g=A.now g:=by
 unfold Ab.now Ab.file Ab.nc
 simp only[List.find?_map]
 have:((fun x:Nat × List UInt8 × List UInt8=>decide (x.1=g)) ∘ fun x=>if x.1=f then(x.1,x.2.1,x.2.1)else x)=fun x=>decide (x.1=g):=by
  grind
 rw[this]
 cases A.fs.find? (fun x=>decide (x.1=g))with
 | none=>rfl
 | some x =>
  grind
theorem HA.sync{A:Ab}(h:HA A){nm:ByteArray}{c:List UInt8}(hv:vw A nm=some c){e:Nat}{B:Ab}(hB:(e,B)=A.sync true nm) :
  e=0∧HA B∧(∀n,vw B n=vw A n)∧B.names=A.names∧B.room=A.room:=by
 obtain⟨f,hf⟩:∃f,A.look nm=some f:=by
  unfold vw at hv
  cases hx:A.look nm with
  | none=>rw[hx]at hv;cases hv
  | some f=>exact⟨f,rfl⟩
 have hc:A.sync true nm=(0,{ A with fs:=Ab.nc A.fs f,writes:=A.writes.filter fun x => !decide (x.1=f) }):=by
  unfold Ab.sync
  rw[h.find,hf]
  grind
 rw[hc]at hB
 injection hB with h1 h2
 subst h1 h2
 refine⟨rfl,⟨h.cZ,h.on,h.keys,h.own,?_,?_⟩,?_,rfl,rfl⟩
 ·show((Ab.nc A.fs f).map (·.1)).Nodup
  rw[wI]
  exact h.ids
 ·intro x hx
  show x.2∈(Ab.nc A.fs f).map (·.1)
  rw[wI]
  exact h.known x hx
 ·intro n
  unfold vw
  show(A.look n).map _=_
  cases hg:A.look n with
  | none=>rfl
  | some g=>exact congrArg some (Gt A f g _)
def HA.cj{A:Ab}(h:HA A){e:Nat}{B:Ab}(hB:(e,B)=A.cj):e=0∧HA B∧(∀n,vw B n=vw A n)∧B.names=A.names∧B.room=A.room:=by
 have hc:A.cj=(0,{ A with aR:=[A.names] }):=by
  unfold Ab.cj
  rw[h.meet,if_pos rfl]
 rw[hc]at hB
 injection hB with h1 h2
 subst h1 h2
 exact⟨rfl,⟨h.cZ,h.on,h.keys,h.own,h.ids,h.known⟩,fun n=>rfl,rfl,rfl⟩
theorem pZ(l:List (ByteArray × Nat))(k n:ByteArray):Ab.cQ (Ab.dI l k) n=if n=k then none else Ab.cQ l n:=by
 unfold Ab.cQ Ab.dI
 grind
theorem HA.rename{A:Ab}(h:HA A){o n:ByteArray}{c:List UInt8}(fy:o≠n)(hv:vw A o=some c)(Iq:vw A n=none){e:Nat}{B:Ab}(hB:(e,B)=A.rename true o n) :
  e=0∧HA B∧(∀m,vw B m=if m=n then some c else if m=o then none else vw A m)∧B.room=A.room∧∃f,A.look o=some f∧B.names=Ab.dI A.names o++[(n,f)]:=by
 obtain⟨f,hf,rfl⟩:∃f,A.look o=some f∧A.now f=c:=by
  unfold vw at hv
  cases hx:A.look o with
  | none=>rw[hx]at hv;cases hv
  | some f=>rw[hx]at hv;injection hv with hv;exact⟨f,rfl,hv⟩
 have VJ:A.look n=none:=by
  unfold vw at Iq
  cases hx:A.look n with
  | none=>rfl
  | some x=>rw[hx]at Iq;cases Iq
 have MT:Ab.cQ (Ab.dI A.names o) n=none:=by
  rw[pZ]
  split
  ·rfl
  ·exact VJ
 have jX:Ab.jj (Ab.dI A.names o) n f=Ab.dI A.names o++[(n,f)]:=by
  unfold Ab.jj
  grind
 have hc:A.rename true o n=(0,A.oD (Ab.dI A.names o++[(n,f)])):=by
  unfold Ab.rename
  rw[h.find,hf]
  grind
 rw[hc]at hB
 injection hB with h1 h2
 subst h1 h2
 have cu:∀x∈Ab.dI A.names o,x∈A.names∧x.1≠o:=fun x hx=>by
  obtain⟨h1,h2⟩:=List.mem_filter.1 hx
  grind
 refine⟨rfl,⟨h.cZ,h.on,?_,?_,h.ids,?_⟩,?_,rfl,f,hf,rfl⟩
 ·show((Ab.dI A.names o++[(n,f)]).map (·.1)).Nodup
  rw[List.map_append,List.nodup_append]
  refine⟨(List.filter_sublist.map _).nodup h.keys,by simp,fun a ha b hb=>?_⟩
  simp only[List.map_cons,List.map_nil,List.mem_singleton]at hb
  subst hb
  rintro rfl
  obtain⟨x,hx,rfl⟩:=List.mem_map.1 ha
  have:=dJ h.keys (cu x hx).1
  grind
 ·show((Ab.dI A.names o++[(n,f)]).map (·.2)).Nodup
  rw[List.map_append,List.nodup_append]
  refine⟨(List.filter_sublist.map _).nodup h.own,by simp,fun a ha b hb=>?_⟩
  simp only[List.map_cons,List.map_nil,List.mem_singleton]at hb
  subst hb
  rintro rfl
  obtain⟨x,hx,Io⟩:=List.mem_map.1 ha
  have h3:=dJ h.keys (cu x hx).1
  rw[Io]at h3
  exact(cu x hx).2 (h.Va h3 hf)
 ·intro x hx
  rcases List.mem_append.1 hx with hx|hx
  ·exact h.known x (cu x hx).1
  ·simp only[List.mem_singleton]at hx
   subst hx
   exact h.known (o,f) (fQ hf)
 ·intro m
  unfold vw
  have e1:(A.oD (Ab.dI A.names o++[(n,f)])).look m=if m=n then some f else if m=o then none else A.look m:=by
   refine(AR (Ab.dI A.names o) n m f MT).trans ?_
   rw[pZ]
   rfl
  rw[e1]
  by_cases hm:m=n
  ·rw[if_pos hm,if_pos hm];rfl
  ·rw[if_neg hm,if_neg hm]
   by_cases hmo:m=o
   ·grind
   ·rw[if_neg hmo,if_neg hmo];rfl
theorem Nb(A:Ab)(nm:ByteArray):jF A nm=(vw A nm).isSome:=by
 grind [jF,vw]
def stE(bs bd:Nat)(q:Int)(mb:Nat):HP:=fun h=>∃b,ag bs (cl (cF bd q mb b) 120) h
def CC(bs bd:Nat)(q:Int)(mb:Nat)(b:Bool)(H:List HP):ao (ag bs (cl (cF bd q mb b) 120)::H) (stE bs bd q mb::H) :=
 ao.fold (B:=[_]) fun h' hs=>⟨h',sub.refl h',b,cW hs⟩
def IZ{G:bY}{w:World}{bs bd:Nat}{q:Int}{mb:Nat}{H:List HP}(hw:Sat G w (stE bs bd q mb::H)):w.cell? ⟨bs,0,none⟩=some (ptr bd):=by
 obtain⟨h,hh,b,hA⟩:=hw.jG (i:=0) rfl
 have hb:h bs=some (cl (cF bd q mb b) 120):=by rw[hA bs,if_pos rfl]
 exact fA hh (by unfold cG;rw[hb];rfl)
attribute [local irreducible] J K aq Ends ag aI aC bF aW aP a6 aZ bN Sha.chunks Sha.chunk Sha.rounds Sha.sched fg cD GI fR aB
section
variable{P:Program}{f:FuncId}{n:Nat}{R:Ending→World→Prop}{G:bY}{L:dS}{H:List HP}{S:World→Prop}{all:Array Oper}{rest:Pl}
def aaq{k k':List Item}{α:Type}(I:α→Prop)(Lf:α→dS)(Hf:α→List HP)(hk:fz 1000 k = .mk k')(tail:∀y,I y→K P f n R G k' (Lf y) (Hf y))(h:(∀y,I y→K P f n R G k' (Lf y) (Hf y))→J P f n R G S all rest k L H):J P f n R G S all rest k L H:=h tail
def WA{k k':List Item}{α:Type}(m:Nat)(I:α→Prop)(Lf:α→dS)(Hf:α→List HP)(hk:fz 1000 (k.drop m) = .mk k')(tail:∀y,I y→K P f n R G k' (Lf y) (Hf y))(h:(∀y,I y→K P f n R G k' (Lf y) (Hf y))→J P f n R G S all rest k L H):J P f n R G S all rest k L H:=h tail
end
theorem IK{A:Ab}{cm:List (Dg × Bl)}{brk:Bool}(h:FV A)(hb:sy cm):0≤oL ⟨A,cm,brk⟩∧oL ⟨A,cm,brk⟩≤1048786000000:=by
 have h1:=E3 cm (cm.map (·.1)) hb.1
 rw[AL cm _ (fun x hx=>List.mem_map.2 ⟨x,hx,rfl⟩)]at h1
 have h2:=tr (h.nodup _ (List.mem_cons_self ..))
 have h3:=qJ (ed A) (lx A) 1048576 (fun x _=>yR h x)
 have h4:=l3 h
 have h5:=hb.2
 grind [oL]
theorem KU(l:List (Dg × Bl))(x:Bl)(h:zm l x.d=none):iy (dP l) x.d (mH x)=dP (l++[(x.d,x)]):=by
 have hn:x.d ∉ (dP l).map (·.1):=by
  rw[← u',rq,h];rfl
 grind [iy,dP]
theorem LL(bs bd:Nat)(q:Int)(hq:0≤q∧q≤1073741824)(mb:Nat)(s:mI)(x:Bl)(ZO:sy s.cm)(dD:s.A.aR.length≤900000000)(lg:s.A.writes.length≤900000000) :
  aq Tryz.prog 61 [ptr bs,mH x] (oW bs bd q mb s)
  (fun r H=>∃(e:Nat) (t:mI),r = .int .i64 (e:Int)∧H=oW bs bd q mb t∧fX q x s e t):=by
 obtain⟨A,cm,brk⟩:=s
 have YR:=NA bs bd q mb ⟨A,cm,brk⟩ ZO
 obtain⟨oR,mN⟩:=ZO
 simp only at dD lg oR mN
 have uy:=oF x
 have VS:=FT bs bd q mb brk A x.d
 refine aq.aj Tryz.func61 Tryz.ntmps61 fun G F R hE=>?_
 refine aH rfl ?_
 refine bp zr zr bh ?_
 intro b2
 refine bp zr zr bh ?_
 intro b3
 refine qE ?_
 refine aJ (fun w=>Sat G w ([ag b3 (cl (dY x) 107),ag b2 (cl [ptr bs] 66),ag bs (cl (cF bd q mb brk) 120),aC dV mb (dP cm)])) (cM 0 10 (.act 10 (.act 11 (.st 12 .nil)))) rfl ae ae ae cY ?_
 refine aaq (fun Vi:Bool=>Vi=(zm cm x.d).isSome) (fun Vi=>[(2,ptr b2),(3,ptr b3),(6,.bool Vi)]) (fun _=>ag b3 (cl (dY x) 107)::ag b2 (cl [ptr bs] 66)::ag bs (cl (cF bd q mb brk) 120)::aC dV mb (dP cm)::aB bd A::F) rfl ?_ ?_
 ·rintro Vi MY
  have hB0:brk=true→fX q x ⟨A,cm,brk⟩ 10 ⟨A,cm,brk⟩:=fun h=>by unfold fX;rw[if_pos h];exact⟨rfl,rfl⟩
  have W5:¬brk=true→cp x=false→fX q x ⟨A,cm,brk⟩ 1 ⟨A,cm,brk⟩:=fun h h1=>by unfold fX;rw[if_neg h,if_pos h1];exact⟨rfl,rfl⟩
  have ZY:¬brk=true→¬cp x=false→(Vi=true∨jF A (fB x)=true)→fX q x ⟨A,cm,brk⟩ 5 ⟨A,cm,brk⟩:=fun h h1 h2=>by unfold fX;rw[MY]at h2;rw[if_neg h,if_neg h1,if_pos h2];exact⟨rfl,rfl⟩
  have hB3:∀e t,¬brk=true→¬cp x=false→¬(Vi=true∨jF A (fB x)=true)→(if q<oL ⟨A,cm,brk⟩+x.size then e=11∧t=⟨A,cm,brk⟩
    else if jF A (fS x)then e=0∧t=⟨A,cm++[(x.d,x)],brk⟩
    else ∃e1 s1,Nt [ig (fS x),ep] ⟨A,cm,brk⟩ e1 s1∧((e1≠0∧e=e1∧t=s1)∨(e1=0∧e=0∧t=⟨s1.A,s1.cm++[(x.d,x)],s1.brk⟩)))→fX q x ⟨A,cm,brk⟩ e t:=fun e t h h1 h2 h3=>by
   unfold fX;rw[MY]at h2;rw[if_neg h,if_neg h1,if_neg h2];exact h3
  cases brk with
  | true =>
   refine go ?_
   refine ad hE Tryz.func61 zr zr ⟨10,⟨A,cm,true⟩,rfl,rfl,hB0 rfl⟩
  | false =>
   refine qq (bd:=bd) (A:=A) 4 rfl ?_
   intro DN
   have hul:=IK (brk:=false) DN ⟨oR,mN⟩
   refine go ?_
   refine aM (U:=aU) (l:=dY x) 0 zr zr zr zr zr zr ?_
   refine aw uy ?_
   cases hr:cp x with
   | false =>
    refine go ?_
    refine ad hE Tryz.func61 zr zr ⟨1,⟨A,cm,false⟩,rfl,rfl,W5 (by simp) hr⟩
   | true =>
    have Iv:¬cp x=false:=by rw[hr];simp
    have WN:=hr
    simp only[cp,decide_eq_true_eq]at WN
    cases Vi with
    | true =>
     refine go ?_
     refine ad hE Tryz.func61 zr zr ⟨5,⟨A,cm,false⟩,rfl,rfl,ZY (by simp) Iv (.inl rfl)⟩
    | false =>
     refine go ?_
     refine bq 0 zr zr zr zr zr zr ?_
     ((refine go ?_;(refine aF VS ?_)))
     rintro _ _⟨rfl,rfl⟩
     cases Zx:jF A (dg kB x.d)with
     | true =>
      refine go ?_
      refine ad hE Tryz.func61 zr zr ⟨5,⟨A,cm,false⟩,rfl,rfl,ZY (by simp) Iv (.inr Zx)⟩
     | false =>
      have oK:¬(false=true∨jF A (fB x)=true):=by
       grind [jF,fB]
      refine go ?_
      refine aJ (fun w=>Sat G w ([ag b3 (cl (dY x) 107),ag b2 (cl [ptr bs] 66),ag bs (cl (cF bd q mb false) 120)])) (.st 0 (.st 2 (.st 3 (cM 5 4 (.act 1 (.st 4 (.st 9 (.st 10 .nil)))))))) rfl ae ae ae cY ?_
      refine go ?_
      refine bP YR ?_
      refine go ?_
      refine au zr zr ?_ ?_
      ·intro hqu
       have N8:q<oL ⟨A,cm,false⟩+x.size:=hqu
       refine go ?_
       ((refine ad hE Tryz.func61 zr zr ⟨11,⟨A,cm,false⟩,rfl,rfl,hB3 _ _ (by simp) Iv oK (by rw[if_pos N8];exact⟨rfl,rfl⟩)⟩))
      ·intro hqu
       have N8:¬q<oL ⟨A,cm,false⟩+x.size:=hqu
       refine ak (ao.pick [3,4] rfl) (go ?_)
       refine bq 0 zr zr zr zr zr zr ?_
       refine aw (Wh x) ?_
       refine az zr zr zr bh ?_
       intro b7
       refine go ?_
       refine aw (J8 bs bd q mb false A (fS x)) ?_
       refine WA 1 (fun B:Ab=>fX q x ⟨A,cm,false⟩ 0 ⟨B,cm++[(x.d,x)],false⟩) (fun B=>[(2,ptr b2),(3,ptr b3)]) (fun B=>ag b3 (cl (dY x) 107)::ag b2 (cl [ptr bs] 66)::ag bs (cl (cF bd q mb false) 120)::aC dV mb (dP cm)::aB bd B::F) rfl ?_ ?_
       ·intro B Hd
        have jX:=KU cm x (by cases h:zm cm x.d with|none=>rfl|some y=>rw[h]at MY;cases MY)
        refine aJ (fun w=>Sat G w ([ag b3 (cl (dY x) 107),ag b2 (cl [ptr bs] 66),ag bs (cl (cF bd q mb false) 120)])) (cM 0 7 (.act 7 .nil)) rfl ae ae ae cY ?_
        refine go ?_
        refine bU (U:=aU) 0 zr zr zr zr zr zr (go ?_)
        refine bU (U:=aU) (cs:=dY x) 0 zr zr zr zr zr zr (go ?_)
        refine cy (es:=dP cm) (key:=x.d) (v:=mH x) 3 J7 (fun _ _=>by exact trivial) zr zr zr zr zr zr zr zr ?_
        rw[jX]
        refine go ?_
        refine ad hE Tryz.func61 zr zr ⟨0,⟨B,cm++[(x.d,x)],false⟩,rfl,rfl,Hd⟩
       ·intro tail
        cases hsf:jF A (fS x)with
        | true =>
         refine go ?_
         refine ml tail A rfl (hB3 _ _ (by simp) Iv oK (by rw[if_neg N8,if_pos hsf];exact⟨rfl,rfl⟩)) bQ ah
        | false =>
         have Kc:∀(i:Nat) (fv:Value) (sp:IA),[.func (.func 136) #[] #[ptr b2,ptr b7],.func (.func 58) #[ptr bd] #[] ][i]?=some fv→[ig (fS x),ep][i]?=some sp→∃g fi cap,fv = .func (.func g) fi cap∧∀y,GQ A i y→aq Tryz.prog g (fi.toList++cap.toList) [qz bs bd q mb false (Sep [ag b2 (cl [ptr bs] 66),ag b7 (cl [.string (fS x)] 9)]) y] (fun r H=>∃(e:Nat) (x':Ab),r = .int .i64 (e:Int)∧H=[qz bs bd q mb false (Sep [ag b2 (cl [ptr bs] 66),ag b7 (cl [.string (fS x)] 9)]) x']∧sp y e x'∧(e=0→GQ A (i+1) x')):=by
          intro i fv sp hi hs
          match i,hi,hs with
          | 0,hi,hs =>
           cases hi;cases hs
           refine⟨_,_,_,rfl,fun y hy=>?_⟩
           refine(Fx (p:=ig (fS x) y) (Ed bs bd b2 b7 q mb false (fS x) y (by have:=hy.1;omega))).post ?_
           rintro r H⟨e,B,rfl,rfl,h1⟩
           exact⟨e,B,rfl,rfl,h1,fun _=>hy.next (oS h1)⟩
          | 1,hi,hs =>
           cases hi;cases hs
           refine⟨_,_,_,rfl,fun y hy=>(Mv bs bd q mb false [ag b2 (cl [ptr bs] 66),ag b7 (cl [.string (fS x)] 9)] y).post ?_⟩
           rintro r H⟨e,B,rfl,rfl,h1⟩
           exact⟨e,B,rfl,rfl,h1,fun _=>hy.next (lG h1)⟩
          | k+2,hi,hs=>simp at hi
         refine go ?_
         refine aJ (fun w=>Sat G w [stE bs bd q mb,ag b2 (cl [ptr bs] 66)]) (cM 0 7 (.act 7 (.act 8 (.st 9 .nil)))) rfl ae ae ae (fun w hw=>hw.cn (ao.trans (H2:=[ag bs (cl (cF bd q mb false) 120),ag b2 (cl [ptr bs] 66)]) ah (CC bs bd q mb _ _))) ?_
         refine go ?_
         refine aT ?_
         refine tj (U:=aU) zr zr (fun w hw=>IZ hw) zr zr ?_
         refine go ?_
         refine al (cs:=[.func (.func 136) #[] #[ptr b2,ptr b7],.func (.func 58) #[ptr bd] #[] ]) zr zr zr zr zr zr zr zr zr (fun _ w hw=>by exact hw.cn (ao.trans (H2:=[ag bs (cl (cF bd q mb false) 120),ag b2 (cl [ptr bs] 66)]) ah (CC bs bd q mb _ _))) ?_
         intro row
         have hch:=BA bs bd q mb false (Sep [ag b2 (cl [ptr bs] 66),ag b7 (cl [.string (fS x)] 9)]) (ag row (cl [.func (.func 136) #[] #[ptr b2,ptr b7],.func (.func 58) #[ptr bd] #[] ] 76)) (.slice (some ⟨row,0,none⟩) 2 2) [.func (.func 136) #[] #[ptr b2,ptr b7],.func (.func 58) #[ptr bd] #[] ] (Vw.ag rfl) (by show 2≤_;omega) [ig (fS x),ep] rfl (GQ A) Kc A (GQ.zero A)
         refine aS (H':=ag row (cl [.func (.func 136) #[] #[ptr b2,ptr b7],.func (.func 58) #[ptr bd] #[] ] 76)::qz bs bd q mb false (Sep [ag b2 (cl [ptr bs] 66),ag b7 (cl [.string (fS x)] 9)]) A::aC dV mb (dP cm)::ag b3 (cl (dY x) 107)::F) (ao.trans (H2:=ag bs (cl (cF bd q mb false) 120)::aB bd A::([ag b2 (cl [ptr bs] 66),ag b7 (cl [.string (fS x)] 9)]++(ag row (cl [.func (.func 136) #[] #[ptr b2,ptr b7],.func (.func 58) #[ptr bd] #[] ] 76)::aC dV mb (dP cm)::ag b3 (cl (dY x) 107)::F))) ah (ao.trans (IY bs bd q mb false _ A _) ah)) ?_
         refine cP zr zr zr zr hch ah ?_ (fun _ _ w hp hw=>by
          obtain⟨e,B,rfl,rfl,jY,_⟩:=hp
          exact hw.cn (ao.trans (ao.pick [1] rfl) (ao.trans (yw bs bd q mb (or false (decide (e≠0))) _ B _) (ao.trans (H2:=[ag bs (cl (cF bd q mb (or false (decide (e≠0)))) 120),ag b2 (cl [ptr bs] 66)]) ah (CC bs bd q mb _ _)))))
         rintro _ _⟨e,B,rfl,rfl,jY,-⟩
         refine aS (ao.trans (ao.pick [1] rfl) (yw bs bd q mb (or false (decide (e≠0))) _ B _)) ?_
         have jt:∀e' t,(∃e1 s1,Nt [ig (fS x),ep] ⟨A,cm,false⟩ e1 s1∧((e1≠0∧e'=e1∧t=s1)∨(e1=0∧e'=0∧t=⟨s1.A,s1.cm++[(x.d,x)],s1.brk⟩)))→fX q x ⟨A,cm,false⟩ e' t:=fun e' t h=>hB3 e' t (by simp) Iv oK (by rw[if_neg N8,if_neg (by rw[hsf];simp)];exact h)
         refine go ?_
         refine au zr zr ?_ ?_
         ·intro aci
          have he:e≠0:=by omega
          refine go ?_
          refine ad hE Tryz.func61 zr zr ⟨e,⟨B,cm,or false (decide (e≠0))⟩,rfl,rfl,jt _ _ ⟨e,_,⟨B,jY,rfl⟩,.inl ⟨he,rfl,rfl⟩⟩⟩
         ·intro acs
          have he:e=0:=by omega
          subst he
          refine go ?_
          refine ml tail B rfl (jt _ _ ⟨0,_,⟨B,jY,rfl⟩,.inr ⟨rfl,rfl,rfl⟩⟩) bQ ah
 ·intro tail
  refine go ?_
  refine bU (U:=aU) 0 zr zr zr zr zr zr (go ?_)
  refine dK (es:=dP cm) (key:=x.d) rfl J7 zr zr zr zr zr zr zr (fun w hw=>hw.eU (i:=3) rfl) ?_
  rw[rq]
  cases hb:zm cm x.d with
  | none =>
   rw[hb]at tail
   refine go ?_
   refine az zr zr zr (fun _ w hw=>hw.cn ah) ?_
   intro b5
   refine qE ?_
   (refine aY ?_;(refine bG 0 cY zr zr zr zr zr zr zr zr zr ?_))
   refine qE ?_
   refine ml tail false zr zr bQ ah
  | some y =>
   rw[hb]at tail
   refine go ?_
   refine az zr zr zr (fun _ w hw=>hw.cn ah) ?_
   intro b5
   refine qE ?_
   (refine aY ?_;(refine bG 0 cY zr zr zr zr zr zr zr zr zr ?_))
   refine qE ?_
   refine ml tail true zr zr bQ ah
end Go.Proofs.YtnkfkabokmcgoaaGreatDoor
namespace Go.Proofs.YtnkfkabokmcgoaaGreatDoor
open Go Go.SL
attribute [local irreducible] J K aq Ends ag aI aC bF aW aP a6 aZ bN Sha.chunks Sha.chunk Sha.rounds Sha.sched fg cD GI fR aB
theorem Dq{A:Ab}(h:A.names=[]):ed A=[]:=by
 grind [l0]
def nh{kind:List UInt8}{right:Ab→Dg→Bool}{A B:Ab}{e:Nat}(h:A.names=[])(hs:di kind right A e B):e=0∧B=A:=by
 unfold di at hs
 rw[Dq h]at hs
 exact hs
theorem vg{A B:Ab}{e:Nat}(h:A.names=[])(ho:nU A e B):e=0∧B=A:=by
 obtain⟨e1,A1,⟨e2,A2,h2,c2⟩,jt⟩:=ho
 obtain⟨rfl,rfl⟩:=nh h h2
 rcases c2 with⟨fy,_⟩|⟨_,e3,A3,h3,c3⟩
 ·grind
 obtain⟨rfl,rfl⟩:=nh h h3
 rcases c3 with⟨fy,_⟩|⟨_,e4,A4,h4,c4⟩
 ·grind
 obtain⟨rfl,rfl⟩:=nh h h4
 rcases c4 with⟨fy,_⟩|⟨_,rfl,rfl⟩
 ·grind
 grind
def ql(n:Nat)(s t:mI):Prop:=t.A.aR.length≤s.A.aR.length+n∧t.A.writes.length≤s.A.writes.length+n
def He(ss:List IA)(hs:∀sp∈ss,∀A e B,sp A e B→kd A B)(A:Ab)(e:Nat)(B:Ab)(h:ry ss A e B):B.aR.length≤A.aR.length+ss.length∧B.writes.length≤A.writes.length+ss.length:=by
 induction ss generalizing A with
 | nil=>obtain⟨_,rfl⟩:=h;exact⟨Nat.le_refl _,Nat.le_refl _⟩
 | cons sp ss ih =>
  obtain⟨e1,A1,h1,hc⟩:=h
  have g:=hs sp (List.mem_cons_self ..) _ _ _ h1
  have g1:=g.1
  have g2:=g.2
  simp only[List.length_cons]
  rcases hc with⟨_,_,rfl⟩|⟨_,h2⟩
  ·omega
  ·have:=ih (fun s h=>hs s (List.mem_cons_of_mem _ h)) A1 h2
   omega
def Hg{ss:List IA}(hs:∀sp∈ss,∀A e B,sp A e B→kd A B){s t:mI}{e:Nat}(h:Nt ss s e t):ql ss.length s t:=by
 obtain⟨B,h,rfl⟩:=h
 exact He ss hs _ _ _ h
theorem ql.refl(n:Nat)(s:mI):ql n s s:=⟨ai,ai⟩
theorem Ch{q:Int}{x:Bl}{s t:mI}{e:Nat}(h:fX q x s e t):ql 2 s t:=by
 unfold fX at h
 split at h
 ·grind [ql.refl]
 split at h
 ·grind [ql.refl]
 split at h
 ·grind [ql.refl]
 split at h
 ·grind [ql.refl]
 split at h
 ·rw[h.2];exact ql.refl 2 s
 ·obtain⟨e1,s1,hc,hd⟩:=h
  have g:=Hg (ss:=[ig (fS x),ep]) (fun sp AZ A e B hh=>by
   simp only[List.mem_cons,List.not_mem_nil,or_false]at AZ
   rcases AZ with rfl|rfl
   ·exact oS hh
   ·exact lG hh) hc
  rcases hd with⟨_,_,rfl⟩|⟨_,_,rfl⟩ <;> exact g
def EI{A:Ab}(h:HA A)(m:Nat)(hm:∀n c,vw A n=some c→c.length≤m):A.used≤A.names.length*m:=by
 unfold Ab.used
 refine qJ A.names _ m fun x hx=>?_
 refine hm x.1 _ ?_
 unfold vw
 rw[dJ h.keys hx]
 rfl
end Go.Proofs.YtnkfkabokmcgoaaGreatDoor
namespace Go.Proofs.YtnkfkabokmcgoaaGreatDoor
open Go Go.SL
variable{A B:Ab}{k n nm:ByteArray}{K':List ByteArray}{e:Nat}
abbrev Vm:=ByteArray→Option (List UInt8)
structure ve(K:List ByteArray)(v:Vm):Prop where
 nd:K.Nodup
 mem:∀n,n∈K↔(v n).isSome=true
def LO(w:ByteArray→List UInt8→Nat)(K:List ByteArray)(v:Vm):Nat:=(K.map fun k=>w k ((v k).getD [])).sum
def jS(v:Vm)(k:ByteArray)(o:Option (List UInt8)):Vm:=fun n=>if n=k then o else v n
def kx(v:Vm)(k:ByteArray)(o:Option (List UInt8)):jS v k o k=o:=if_pos rfl
def jC(v:Vm)(o:Option (List UInt8))(h:n≠k):jS v k o n=v n:=if_neg h
def ve.perm{K:List ByteArray}{v:Vm}(h:ve K v)(h':ve K' v):K.Perm K':=(List.perm_ext_iff_of_nodup h.nd h'.nd).2 fun n=>(h.mem n).trans (h'.mem n).symm
def IT{K:List ByteArray}{v:Vm}(w:ByteArray→List UInt8→Nat)(h:ve K v)(h':ve K' v):LO w K v=LO w K' v:=((h.perm h').map _).sum_nat
theorem ve.add{K:List ByteArray}{v:Vm}(h:ve K v)(hk:v k=none)(c:List UInt8):ve (k::K) (jS v k (some c)):=by
 refine⟨List.nodup_cons.2 ⟨fun hm=>?_,h.nd⟩,fun n=>?_⟩
 ·have:=(h.mem k).1 hm
  grind
 ·rw[List.mem_cons]
  by_cases hn:n=k
  ·simp[hn,kx]
  ·rw[jC _ _ hn,← h.mem n]
   simp[hn]
theorem EJ{K:List ByteArray}{v:Vm}{c:List UInt8}(w:ByteArray→List UInt8→Nat)(h:ve K v)(h':ve K' (jS v k (some c)))(hk:v k=none):LO w K' (jS v k (some c))=w k c+LO w K v:=by
 rw[IT w h' (h.add hk c)]
 unfold LO
 rw[List.map_cons,List.sum_cons,kx]
 congr 1
 have hnk:∀n∈K,n≠k:=fun n hn e=>by
  have:=(h.mem n).1 hn
  grind
 exact congrArg List.sum (List.map_congr_left fun x hx=>by rw[jC _ _ (hnk x hx)])
theorem L7(K:List ByteArray)(v:Vm)(m:Nat):LO (fun _ _=>m) K v=K.length*m:=by
 unfold LO
 induction K with
 | nil=>simp
 | cons x l ih =>
  grind
def mem_keys(h:HA A)(n:ByteArray):n∈fF A↔(vw A n).isSome=true:=by
 unfold fF vw
 constructor
 ·intro hn
  obtain⟨x,hx,rfl⟩:=List.mem_map.1 hn
  rw[dJ h.keys hx]
  rfl
 ·intro hn
  cases hl:A.look n with
  | none=>rw[hl]at hn;cases hn
  | some f=>exact List.mem_map.2 ⟨_,fQ hl,rfl⟩
def HA.U1(h:HA A):ve (fF A) (vw A):=⟨h.keys,mem_keys h⟩
def MA(_:ByteArray)(c:List UInt8):Nat:=c.length
def Ve(h:HA A){x:ByteArray × Nat}(hx:x∈A.names):A.now x.2=(vw A x.1).getD []:=by
 unfold vw
 rw[dJ h.keys hx]
 rfl
theorem IJ(h:HA A):A.used=LO MA (fF A) (vw A):=by
 unfold Ab.used LO fF MA
 rw[List.map_map]
 exact congrArg List.sum (List.map_congr_left fun x hx=>by simp only[Function.comp];rw[Ve h hx])
def GC(A:Ab):(fF A).length=A.names.length:=by unfold fF;rw[List.length_map]
theorem Mz(A:Ab):A.names.length=LO (fun _ _=>1) (fF A) (vw A):=by rw[L7,GC];omega
def HA.FB(h:HA A){f:Nat}(hv:vw A nm=none)(hl:A.names.length<200)(hf:f ∉ A.fs.map (·.1))(hB:(e,B)=A.create true nm f) :
  e=0∧HA B∧vw B=jS (vw A) nm (some [])∧B.room=A.room :=
 let ⟨h1,h2,h3,_,h5⟩:=h.create hv hl hf hB;⟨h1,h2,funext h3,h5⟩
def HA.ID(h:HA A){c:List UInt8}(hv:vw A nm=some c)(at_:Nat)(b:List UInt8)(hr:A.used+(at_+b.length)≤A.room)(hB:(e,B)=A.write true nm at_ b) :
  e=0∧HA B∧vw B=jS (vw A) nm (some (ea c at_ b))∧B.room=A.room :=
 let ⟨h1,h2,h3,_,h5⟩:=h.write hv at_ b hr hB;⟨h1,h2,funext h3,h5⟩
def HA.NS(h:HA A){c:List UInt8}(hv:vw A nm=some c)(hB:(e,B)=A.sync true nm) :
  e=0∧HA B∧vw B=vw A∧B.room=A.room :=
 let ⟨h1,h2,h3,_,h5⟩:=h.sync hv hB;⟨h1,h2,funext h3,h5⟩
def HA.tB(h:HA A)(hB:(e,B)=A.cj):e=0∧HA B∧vw B=vw A∧B.room=A.room :=
 let ⟨h1,h2,h3,_,h5⟩:=h.cj hB;⟨h1,h2,funext h3,h5⟩
def HA.EW(h:HA A){o:ByteArray}{c:List UInt8}(fy:o≠n)(hv:vw A o=some c)(Iq:vw A n=none)(hB:(e,B)=A.rename true o n) :
  e=0∧HA B∧vw B=jS (jS (vw A) o none) n (some c)∧B.room=A.room :=
 let ⟨h1,h2,h3,h4,_⟩:=h.rename fy hv Iq hB;⟨h1,h2,funext h3,h4⟩
theorem HA.pE(h:HA A)(h':HA B){c:List UInt8}(hk:vw A k=none)(hv:vw B=jS (vw A) k (some c)):B.used=A.used+c.length∧B.names.length=A.names.length+1:=by
 have hs:=h'.U1
 rw[hv]at hs
 have h1:=EJ MA h.U1 hs hk
 have h2:=EJ (fun _ _=>1) h.U1 hs hk
 grind [IJ,Mz,MA]
theorem E6(hn:isName nm=true)(at_:Nat)(b:List UInt8)(h:at_+b.length≤1048576):k8 nm (at_:Int) b=true:=by
 grind [k8]
theorem C6{A':Ab}{x:JN}(h:HA A)(hn:isName nm=true)(hf:isName (bO nm)=true)(fy:bO nm≠nm)(hv:vw A nm=none)(DB:vw A (bO nm)=none)(hl:A.names.length<200)(hr:A.used+32≤A.room)(hR:nV A nm e A' x) :
  e=0∧HA A'∧vw A'=jS (vw A) nm (some (cg []))∧A'.room=A.room∧x=⟨1,0,0,false⟩∧je A nm=[]:=by
 have qD:je A nm=[]:=by
  have A9:A.look nm=none:=by
   unfold vw at hv
   cases hx:A.look nm with
   | none=>rfl
   | some f=>rw[hx]at hv;cases hv
  have sQ:(A.read nm 0 (A.size nm).1).1=[]:=by
   unfold Ab.read
   grind
  unfold je
  rw[sQ]
  rfl
 unfold nV at hR
 rw[if_neg (by rw[hn,hf];simp),if_neg (by rw[h.on];simp),qD]at hR
 obtain⟨y,jY,rfl,rfl⟩:=hR
 unfold Eo fM at jY
 have iF:(A.size (bO nm)).2=4:=by
  have A9:A.look (bO nm)=none:=by
   unfold vw at DB
   cases hx:A.look (bO nm)with
   | none=>rfl
   | some f=>rw[hx]at DB;cases DB
  unfold Ab.size
  rw[A9]
 simp only[iF]at jY
 rw[if_neg ai,List.nil_append]at jY
 have lg:(cg []).length=32:=by unfold cg;simp[qZ]
 obtain⟨e1,x1,⟨⟨f,h1f,Z6,Z5⟩,h1c⟩,c1⟩:=jY
 rw[hf]at Z6 Z5
 obtain⟨g0,g1,g2,g3⟩:=h.FB DB hl h1f (B:=x1.1) (e:=e1) (by rw[Z6,Z5])
 subst g0
 rcases c1 with⟨lh,_⟩|⟨_,e2,x2,⟨⟨Z4,W8⟩,h2c⟩,c2⟩
 ·grind
 have hw:k8 (bO nm) 0 (cg [])=true:=by
  grind [E6,cg]
 rw[hw]at Z4 W8
 obtain⟨hu,LY⟩:=h.pE g1 DB g2
 obtain⟨k0,k1,k2,k3⟩:=g1.ID (nm:=bO nm) (c:=[]) (by rw[g2,kx]) 0 (cg []) (by rw[hu,g3];simp only[List.length_nil];omega) (B:=x2.1) (e:=e2) (by rw[Z4,W8])
 subst k0
 rcases c2 with⟨lh,_⟩|⟨_,e3,x3,⟨⟨Z3,Ng⟩,h3c⟩,c3⟩
 ·grind
 rw[hf]at Z3 Ng
 have Ip:ea [] 0 (cg [])=cg []:=by unfold ea;simp
 rw[Ip]at k2
 obtain⟨m0,m1,m2,m3⟩:=k1.NS (nm:=bO nm) (c:=cg []) (by rw[k2,kx]) (B:=x3.1) (e:=e3) (by rw[Z3,Ng])
 subst m0
 rcases c3 with⟨lh,_⟩|⟨_,e4,x4,⟨⟨W7,W6⟩,h4c⟩,c4⟩
 ·grind
 have dX:[bO nm,nm].all isName=true:=by simp[hf,hn]
 rw[dX]at W7 W6
 obtain⟨p0,p1,p2,p3⟩:=m1.EW (o:=bO nm) (n:=nm) (c:=cg []) fy (by rw[m2,k2,kx]) (by rw[m2,k2,jC _ _ (fun e=>fy e.symm),g2,jC _ _ (fun e=>fy e.symm)];exact hv) (B:=x4.1) (e:=e4) (by rw[W7,W6])
 subst p0
 rcases c4 with⟨lh,_⟩|⟨_,e5,x5,⟨⟨h5a,h5b⟩,h5c⟩,c5⟩
 ·grind
 obtain⟨q0,q1,q2,q3⟩:=p1.tB (B:=x5.1) (e:=e5) (by rw[h5a,h5b])
 subst q0
 rcases c5 with⟨lh,_⟩|⟨_,e6,x6,⟨h6a,h6b⟩,c6⟩
 ·grind
 subst h6a
 rcases c6 with⟨lh,_⟩|⟨_,he,hy⟩
 ·grind
 subst he
 rw[hy,h6b]
 simp only
 refine⟨trivial,q1,?_,by rw[q3,p3,m3,k3,g3],by simp,qD⟩
 rw[q2,p2,m2,k2,g2]
 funext m
 unfold jS
 grind
def qy(name:ByteArray)(A:Ab)(x:JN)(ls:List (List UInt8))(e:Nat)(A':Ab)(x':JN):Prop :=
 if x.br then e=10∧A'=A∧x'=x else if ls.any (fun b=>decide (4096<b.length))then e=1∧A'=A∧x'=x else if 524288<(ls.flatMap dH).length then e=3∧A'=A∧x'=x
 else ∃y:PS,Eo name ls (A,x.n,x.s,x.c) e y∧A'=y.1∧x'=⟨y.2.1,y.2.2.1,y.2.2.2,decide (e≠0)⟩
theorem Mn{l:List (ByteArray × Nat)}{f:Nat}(h1:(l.map (·.1)).Nodup)(h2:(l.map (·.2)).Nodup)(hf:∀x∈l,x.2≠f):((l.map fun x=>if x.1=n then(n,f)else x).map (·.2)).Nodup:=by
 unfold List.Nodup at h1 h2 ⊢
 rw[List.pairwise_map]at h1 h2
 rw[List.pairwise_map,List.pairwise_map]
 refine List.Pairwise.imp_of_mem ?_ (List.Pairwise.and h1 h2)
 grind
theorem Jj(l:List (ByteArray × Nat))(n:ByteArray)(f:Nat):(l.map fun x=>if x.1=n then(n,f)else x).map (·.1)=l.map (·.1):=by
 rw[List.map_map]
 refine List.map_congr_left fun x _=>?_
 grind
theorem HA.Mo(h:HA A){o:ByteArray}{c d:List UInt8}(fy:o≠n)(hv:vw A o=some c)(Iq:vw A n=some d)(hB:(e,B)=A.rename true o n) :
    e=0∧HA B∧vw B=jS (jS (vw A) o none) n (some c)∧B.room=A.room:=by
  obtain⟨f,hf,rfl⟩:∃f,A.look o=some f∧A.now f=c:=by
    unfold vw at hv
    cases hx:A.look o with
    | none=>rw[hx]at hv;cases hv
    | some f=>rw[hx]at hv;injection hv with hv;exact⟨f,rfl,hv⟩
  obtain⟨g,hg⟩:∃g,A.look n=some g:=by
    unfold vw at Iq
    cases hx:A.look n with
    | none=>rw[hx]at Iq;cases Iq
    | some g=>exact⟨g,rfl⟩
  have MT:Ab.cQ (Ab.dI A.names o) n=some g:=by
    rw[pZ,if_neg (fun e=>fy e.symm)]
    exact hg
  obtain⟨N,hN⟩:∃N,N=(Ab.dI A.names o).map (fun x=>if x.1=n then(n,f)else x):=⟨_,rfl⟩
  have jX:Ab.jj (Ab.dI A.names o) n f=N:=by
    unfold Ab.jj
    grind
  have hc:A.rename true o n=(0,A.oD N):=by
    unfold Ab.rename
    rw[h.find,hf]
    grind
  rw[hc]at hB
  injection hB with h1 h2
  subst h1 h2
  have cu:∀x∈Ab.dI A.names o,x∈A.names∧x.1≠o:=fun x hx=>by
    obtain⟨h1,h2⟩:=List.mem_filter.1 hx
    grind
  have Ix:((Ab.dI A.names o).map (·.1)).Nodup:=(List.filter_sublist.map _).nodup h.keys
  have DK:((Ab.dI A.names o).map (·.2)).Nodup:=(List.filter_sublist.map _).nodup h.own
  have hnf:∀x∈Ab.dI A.names o,x.2≠f:=fun x hx e=>by
    have h3:=dJ h.keys (cu x hx).1
    rw[e]at h3
    exact(cu x hx).2 (h.Va h3 hf)
  have hkN:(N.map (·.1)).Nodup:=by rw[hN,Jj];exact Ix
  have dF:∀x∈N,x=(n,f)∨(x∈Ab.dI A.names o∧x.1≠n):=fun x hx=>by
    grind
  have hH:HA (A.oD N):=⟨h.cZ,h.on,hkN,by show(N.map (·.2)).Nodup;rw[hN];exact Mn Ix DK hnf,h.ids,fun x hx=>by
    rcases dF x hx with rfl|⟨hx,_⟩
    · exact h.known (o,f) (fQ hf)
    · exact h.known x (cu x hx).1⟩
  refine⟨rfl,hH,funext fun m=>?_,rfl⟩
  have A8:(A.oD N).look m=if m=n then some f else if m=o then none else A.look m:=by
    have rZ:∀x∈N,(A.oD N).look x.1=some x.2:=fun x hx=>dJ (A:=A.oD N) hkN hx
    by_cases hm:m=n
    · rw[if_pos hm,hm]
      refine rZ (n,f) ?_
      rw[hN]
      refine List.mem_map.2 ⟨(n,g),?_,if_pos rfl⟩
      exact fQ (A:=A.oD (Ab.dI A.names o)) MT
    · rw[if_neg hm]
      have hd:Ab.cQ (Ab.dI A.names o) m=if m=o then none else A.look m:=pZ A.names o m
      rw[← hd]
      cases hx:Ab.cQ (Ab.dI A.names o) m with
      | some k =>
        refine rZ (m,k) ?_
        rw[hN]
        exact List.mem_map.2 ⟨(m,k),fQ (A:=A.oD (Ab.dI A.names o)) hx,if_neg hm⟩
      | none =>
        cases hy:(A.oD N).look m with
        | none=>rfl
        | some k =>
          rcases dF _ (fQ hy)with he|⟨abt,_⟩
          · grind
          · have:=dJ (A:=A.oD (Ab.dI A.names o)) Ix abt
            have h2:(A.oD (Ab.dI A.names o)).look m=none:=hx
            grind
  unfold vw jS
  rw[A8]
  by_cases hm:m=n
  · rw[if_pos hm,if_pos hm];rfl
  · rw[if_neg hm,if_neg hm]
    by_cases ho:m=o
    · grind
    · rw[if_neg ho,if_neg ho];rfl
theorem Gk{ls:List (List UInt8)}{n s c:Int}{y:PS}(h:HA A)(hn:isName nm=true)(hf:isName (bO nm)=true)(fy:bO nm≠nm)(DB:vw A (bO nm)=none)(hl:A.names.length<200)(ux:(cg ls).length≤1048576)(hr:A.used+(cg ls).length≤A.room)(hR:Eo nm ls (A,n,s,c) e y) :
  e=0∧HA y.1∧vw y.1=jS (vw A) nm (some (cg ls))∧y.1.room=A.room∧y.2=(1,((ls.flatMap dH).length:Int),((ls.flatMap dH).length:Int)):=by
 unfold Eo fM at hR
 have iF:(A.size (bO nm)).2=4:=by
  have A9:A.look (bO nm)=none:=by
   unfold vw at DB
   cases hx:A.look (bO nm)with
   | none=>rfl
   | some f=>rw[hx]at DB;cases DB
  unfold Ab.size
  rw[A9]
 simp only[iF]at hR
 rw[if_neg ai,List.nil_append]at hR
 obtain⟨e1,x1,⟨⟨f,h1f,Z6,Z5⟩,h1c⟩,c1⟩:=hR
 rw[hf]at Z6 Z5
 obtain⟨g0,g1,g2,g3⟩:=h.FB DB hl h1f (B:=x1.1) (e:=e1) (by rw[Z6,Z5])
 subst g0
 rcases c1 with⟨lh,_⟩|⟨_,e2,x2,⟨⟨Z4,W8⟩,h2c⟩,c2⟩
 ·grind
 have hw:k8 (bO nm) 0 (cg ls)=true:=by
  grind [E6,cg]
 rw[hw]at Z4 W8
 obtain⟨hu,LY⟩:=h.pE g1 DB g2
 obtain⟨k0,k1,k2,k3⟩:=g1.ID (nm:=bO nm) (c:=[]) (by rw[g2,kx]) 0 (cg ls) (by rw[hu,g3];simp only[List.length_nil];omega) (B:=x2.1) (e:=e2) (by rw[Z4,W8])
 subst k0
 rcases c2 with⟨lh,_⟩|⟨_,e3,x3,⟨⟨Z3,Ng⟩,h3c⟩,c3⟩
 ·grind
 rw[hf]at Z3 Ng
 have Ip:ea [] 0 (cg ls)=cg ls:=by unfold ea;simp
 rw[Ip]at k2
 obtain⟨m0,m1,m2,m3⟩:=k1.NS (nm:=bO nm) (c:=cg ls) (by rw[k2,kx]) (B:=x3.1) (e:=e3) (by rw[Z3,Ng])
 subst m0
 rcases c3 with⟨lh,_⟩|⟨_,e4,x4,⟨⟨W7,W6⟩,h4c⟩,c4⟩
 ·grind
 have dX:[bO nm,nm].all isName=true:=by simp[hf,hn]
 rw[dX]at W7 W6
 have DA:vw x3.1 (bO nm)=some (cg ls):=by rw[m2,k2,kx]
 have Iq:vw x3.1 nm=vw A nm:=by rw[m2,k2,jC _ _ (fun e=>fy e.symm),g2,jC _ _ (fun e=>fy e.symm)]
 obtain⟨p0,p1,p2,p3⟩:e4=0∧HA x4.1∧vw x4.1=jS (jS (vw x3.1) (bO nm) none) nm (some (cg ls))∧x4.1.room=x3.1.room:=by
  cases hd:vw A nm with
  | none=>exact m1.EW fy DA (by rw[Iq,hd]) (B:=x4.1) (e:=e4) (by rw[W7,W6])
  | some d=>exact m1.Mo fy DA (by rw[Iq,hd]) (B:=x4.1) (e:=e4) (by rw[W7,W6])
 subst p0
 rcases c4 with⟨lh,_⟩|⟨_,e5,x5,⟨⟨h5a,h5b⟩,h5c⟩,c5⟩
 ·grind
 obtain⟨q0,q1,q2,q3⟩:=p1.tB (B:=x5.1) (e:=e5) (by rw[h5a,h5b])
 subst q0
 rcases c5 with⟨lh,_⟩|⟨_,e6,x6,⟨h6a,h6b⟩,c6⟩
 ·grind
 subst h6a
 rcases c6 with⟨lh,_⟩|⟨_,he,hy⟩
 ·grind
 subst he
 rw[hy,h6b]
 simp only
 refine⟨trivial,q1,?_,by rw[q3,p3,m3,k3,g3],trivial⟩
 rw[q2,p2,m2,k2,g2]
 grind [jS,bO]
end Go.Proofs.YtnkfkabokmcgoaaGreatDoor
namespace Go.SL
open Go
abbrev mW:=BitVec 64
def L6(x:mW):Value := .int .u64 (x.toNat:Int)
def qV(l:List mW):List Value:=l.map L6
def U6(l:List mW):(qV l).length=l.length:=by simp[qV]
def Jl{l:List mW}{i:Nat}{x:mW}(h:l[i]?=some x):(qV l)[i]?=some (L6 x):=by simp[qV,h]
def Jk(l:List mW)(i:Nat)(x:mW):(qV l).set i (L6 x)=qV (l.set i x):=by simp[qV]
def EF(n:Nat):IntKind.u64.wrap (n:Int)=((n%18446744073709551616:Nat):Int):=by
 simp[IntKind.wrap,IntKind.bits,IntKind.signed]
theorem nv(p:mW):BitVec.ofInt IntKind.u64.bits ((p.toNat:Nat):Int)=p:=by
 apply BitVec.eq_of_toNat_eq
 have h:IntKind.u64.bits=64:=rfl
 grind
section
variable{P:Program}{U:Tr}[hU:er P U]{f:FuncId}{n:Nat}{R:Ending→World→Prop}{G:bY}{k:List Item}{L:dS}{H H':List HP}{S:World→Prop}{all:Array Oper}{rest:Pl}{ty:TypeId}{pos:String}{af:Array Edge}{gd:Option (Nat × Bool)}{m:Bool}{d:Tmp}
theorem mX(p:mW):IntKind.u64.wrap (p.toNat:Int)=(p.toNat:Int):=by
 rw[EF];have:=p.isLt;congr 1;omega
def Lq{t yt:TypeId}{x y:Operand}{p:mW}{j':IntKind}{q:Int}(s:Nat)(hd:Nat.blt d n=true)(hx:ev L x=some (.int .u64 (p.toNat:Int)))(hy:ev L y=some (.int j' q))(hq:q=(s:Int))(hs:s≤64)(h:J P f n R G S all rest k ((d,.int .u64 ((p >>> s).toNat:Int))::L) H):J P f n R G S all (.cons m true ⟨some d,.binOp .shr t x y yt,ty,pos,af,gd⟩ rest) k L H:=by
 subst hq
 refine iA hd hx hy ai ?_
 have e:(p.toNat:Int)/2 ^ (min ((s:Int).toNat) IntKind.u64.bits)=((p >>> s).toNat:Int):=by
  rw[BitVec.toNat_ushiftRight,Nat.shiftRight_eq_div_pow,Int.toNat_natCast,show min s IntKind.u64.bits=s from by show min s 64=s;omega]
  simp
 rw[e];exact h
def Wy{t yt:TypeId}{x y:Operand}{p:mW}{j':IntKind}{q:Int}(s:Nat)(hd:Nat.blt d n=true)(hx:ev L x=some (.int .u64 (p.toNat:Int)))(hy:ev L y=some (.int j' q))(hq:q=(s:Int))(hs:s≤64)(h:J P f n R G S all rest k ((d,.int .u64 ((p <<< s).toNat:Int))::L) H):J P f n R G S all (.cons m true ⟨some d,.binOp .shl t x y yt,ty,pos,af,gd⟩ rest) k L H:=by
 subst hq
 refine nZ hd hx hy ai ?_
 have e:IntKind.u64.wrap ((p.toNat:Int)*2 ^ (min ((s:Int).toNat) IntKind.u64.bits))=((p <<< s).toNat:Int):=by
  rw[BitVec.toNat_shiftLeft,Nat.shiftLeft_eq,Int.toNat_natCast,show min s IntKind.u64.bits=s from by show min s 64=s;omega]
  rw[show(p.toNat:Int)*2 ^ s=((p.toNat*2 ^ s:Nat):Int)from by simp,EF]
 rw[e];exact h
end
end Go.SL
namespace Go.Proofs.YtnkfkabokmcgoaaGreatDoor
open Go Go.SL
def jx(n i:Nat):Option Nat:=if i%2=1 then some (i-1)else if i+1<n then some (i+1)else none
def nO:Nat→Nat→Nat→Nat
 | 0,_,_=>0
 | f+1,n,i=>if n≤1 then 0 else(if(jx n i).isSome then 1 else 0)+nO f ((n+1)/2) (i/2)
def iw(n i:Int):Nat:=if 1≤n∧n≤1024∧0≤i∧i<n then nO n.toNat n.toNat i.toNat else 0
def uX:Nat→Nat→Nat→Dg→List Dg→Dg
 | 0,_,_,x,_=>x
 | f+1,n,i,x,p=>if n≤1 then x else match jx n i with
  | none=>uX f ((n+1)/2) (i/2) x p
  | some s=>uX f ((n+1)/2) (i/2) (if s<i then nw (p.headD Dg.zero) x else nw x (p.headD Dg.zero)) p.tail
def mf(root:Dg)(n i:Int)(x:Dg)(p:List Dg):Bool:=decide ((1≤n∧n≤1024∧0≤i∧i<n)∧p.length=iw n i∧uX n.toNat n.toNat i.toNat x p=root)
def k7(x:Bl)(i:Int)(b:List UInt8)(p:List Dg):Bool:=match pN x i with
 | none=>false
 | some (_,m)=>decide ((b.length:Int)=m) && mf x.root (fk x) i (fR b) p
def D0(f n i:Nat)(hn:n≤1):nO f n i=0:=by
 cases f with
 | zero=>rfl
 | succ f=>unfold nO;rw[if_pos hn]
theorem xR:∀(k f n i:Nat),n≤2 ^ k→nO f n i≤k
 | 0,f,n,i,h=>by rw[D0 f n i (by simpa using h)];exact Nat.le_refl _
 | k+1,0,n,i,h=>Nat.zero_le _
 | k+1,f+1,n,i,h=>by
  unfold nO
  split
  ·grind
  ·have:=xR k f ((n+1)/2) (i/2) ai
   grind
theorem rf(n i:Int):iw n i≤10:=by
 unfold iw
 split
 ·exact xR 10 _ _ _ ai
 grind
theorem Eg{κ:Type}[DecidableEq κ](es:List (κ × Value))(k d:κ)(v:Value):cw (iy es k v) d=if d=k then some v else cw es d:=by
 unfold iy
 by_cases hk:k∈es.map (·.1)
 ·rw[if_pos hk]
  unfold cw
  rw[List.find?_map]
  have hf:((fun x:κ × Value=>decide (x.1=d)) ∘ fun x:κ × Value=>if x.1=k then(k,v)else x)=fun x=>decide (x.1=d):=by
   grind
  rw[hf]
  by_cases hd:d=k
  ·subst hd
   rw[if_pos rfl]
   obtain⟨y,hy,WK⟩:=List.mem_map.1 hk
   cases hx:es.find? (fun x=>decide (x.1=d))with
   | none=>have:=List.find?_eq_none.1 hx y hy;simp[WK]at this
   | some x =>
    grind
  ·rw[if_neg hd]
   cases hx:es.find? (fun x=>decide (x.1=d))with
   | none=>rfl
   | some x =>
    grind
 grind [cw]
end Go.Proofs.YtnkfkabokmcgoaaGreatDoor
