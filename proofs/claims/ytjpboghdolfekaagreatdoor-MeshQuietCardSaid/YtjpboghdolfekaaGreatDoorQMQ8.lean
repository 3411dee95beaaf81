import Derived.Test.YtjpboghdolfekaaGreatDoorQMQ2
import Derived.Test.YtjpboghdolfekaaGreatDoorQMQ3
import Derived.Test.YtjpboghdolfekaaGreatDoorQMQ4
import Derived.Test.YtjpboghdolfekaaGreatDoorQMQ6
import Derived.Test.YtjpboghdolfekaaGreatDoorQMQ7
import Derived.Shelf.SortG.Plain
import Derived.Shelf.SortG.SortNone
import Derived.Test.YtjpboghdolfekaaGreatDoorChecked
set_option linter.unusedSectionVars false
set_option linter.unusedSimpArgs false
set_option linter.unusedVariables false
set_option maxHeartbeats 1000000
set_option maxRecDepth 20000
set_option linter.defProp false
namespace Go.Proofs.YtjpboghdolfekaaGreatDoor
open Go Go.Shelf
def yz:Go.Shelf.Ren:=⟨fun|54=>293|64=>298|65=>409|78=>419|79=>420|80=>485|81=>486|82=>487|83=>488|84=>489|85=>490|61=>491|86=>492|87=>493|93=>550|89=>495|90=>496|94=>551|95=>552|69=>553|97=>571|n=>n,fun|25=>206|26=>9|3=>3|51=>196|0=>0|67=>413|69=>38|4=>4|61=>521|60=>520|44=>171|5=>5|9=>9|75=>580|79=>583|83=>619|84=>620|n=>n,fun|n=>n⟩
def acE:Go.Proofs.SlLaysN.n54 Tryz.prog yz:={
  mixed:=by kernel_rfl,
  f54:=⟨Tryz.f293.name,by decide,Tryz.func293.trans (congrArg some (by kernel_rfl))⟩,
  f61:=⟨Tryz.f491.name,by decide,Tryz.func491.trans (congrArg some (by kernel_rfl))⟩,
  f64:=Tryz.func298.trans (congrArg some (by kernel_rfl)),
  f65:=⟨Tryz.f409.name,by decide,Tryz.func409.trans (congrArg some (by kernel_rfl))⟩,
  f69:=⟨Tryz.f553.name,by decide,Tryz.func553.trans (congrArg some (by kernel_rfl))⟩,
  f78:=Tryz.func419.trans (congrArg some (by kernel_rfl)),
  f79:=Tryz.func420.trans (congrArg some (by kernel_rfl)),
  f80:=⟨Tryz.f485.name,by decide,Tryz.func485.trans (congrArg some (by kernel_rfl))⟩,
  f81:=⟨Tryz.f486.name,by decide,Tryz.func486.trans (congrArg some (by kernel_rfl))⟩,
  f82:=⟨Tryz.f487.name,by decide,Tryz.func487.trans (congrArg some (by kernel_rfl))⟩,
  f83:=⟨Tryz.f488.name,by decide,Tryz.func488.trans (congrArg some (by kernel_rfl))⟩,
  f84:=⟨Tryz.f489.name,by decide,Tryz.func489.trans (congrArg some (by kernel_rfl))⟩,
  f85:=⟨Tryz.f490.name,by decide,Tryz.func490.trans (congrArg some (by kernel_rfl))⟩,
  f86:=⟨Tryz.f492.name,by decide,Tryz.func492.trans (congrArg some (by kernel_rfl))⟩,
  f87:=⟨Tryz.f493.name,by decide,Tryz.func493.trans (congrArg some (by kernel_rfl))⟩,
  f89:=Tryz.func495.trans (congrArg some (by kernel_rfl)),
  f90:=Tryz.func496.trans (congrArg some (by kernel_rfl)),
  f93:=⟨Tryz.f550.name,by decide,Tryz.func550.trans (congrArg some (by kernel_rfl))⟩,
  f94:=⟨Tryz.f551.name,by decide,Tryz.func551.trans (congrArg some (by kernel_rfl))⟩,
  f95:=⟨Tryz.f552.name,by decide,Tryz.func552.trans (congrArg some (by kernel_rfl))⟩,
  f97:=⟨Tryz.f571.name,by decide,Tryz.func571.trans (congrArg some (by kernel_rfl))⟩,
  t0:=Tryz.underlying0,
  a0:=Tryz.isAgg0,
  z0:=Tryz.sizeOf0,
  v0:=Tryz.zeroValue0,
  t3:=Tryz.underlying3,
  a3:=Tryz.isAgg3,
  z3:=Tryz.sizeOf3,
  v3:=Tryz.zeroValue3,
  t4:=Tryz.underlying4,
  a4:=Tryz.isAgg4,
  z4:=Tryz.sizeOf4,
  v4:=Tryz.zeroValue4,
  t5:=Tryz.underlying5,
  a5:=Tryz.isAgg5,
  z5:=Tryz.sizeOf5,
  v5:=Tryz.zeroValue5,
  t9:=Tryz.underlying9,
  a9:=Tryz.isAgg9,
  z9:=Tryz.sizeOf9,
  v9:=Tryz.zeroValue9,
  t25:=Tryz.underlying206,
  a25:=Tryz.isAgg206,
  z25:=Tryz.sizeOf206,
  v25:=Tryz.zeroValue206,
  t26:=Tryz.underlying9,
  a26:=Tryz.isAgg9,
  z26:=Tryz.sizeOf9,
  v26:=Tryz.zeroValue9,
  t44:=Tryz.underlying171,
  a44:=Tryz.isAgg171,
  z44:=Tryz.sizeOf171,
  v44:=Tryz.zeroValue171,
  t51:=Tryz.underlying196,
  a51:=Tryz.isAgg196,
  z51:=Tryz.sizeOf196,
  v51:=Tryz.zeroValue196,
  t60:=Tryz.underlying520,
  a60:=Tryz.isAgg520,
  z60:=Tryz.sizeOf520,
  v60:=Tryz.zeroValue520,
  t61:=Tryz.underlying521,
  a61:=Tryz.isAgg521,
  z61:=Tryz.sizeOf521,
  v61:=Tryz.zeroValue521,
  t67:=Tryz.underlying413,
  a67:=Tryz.isAgg413,
  z67:=Tryz.sizeOf413,
  v67:=Tryz.zeroValue413,
  t69:=Tryz.underlying38,
  a69:=Tryz.isAgg38,
  z69:=Tryz.sizeOf38,
  v69:=Tryz.zeroValue38,
  t75:=Tryz.underlying580,
  a75:=Tryz.isAgg580,
  z75:=Tryz.sizeOf580,
  v75:=Tryz.zeroValue580,
  t79:=Tryz.underlying583,
  a79:=Tryz.isAgg583,
  z79:=Tryz.sizeOf583,
  v79:=Tryz.zeroValue583,
  t83:=Tryz.underlying619,
  a83:=Tryz.isAgg619,
  z83:=Tryz.sizeOf619,
  v83:=Tryz.zeroValue619,
  t84:=Tryz.underlying620,
  a84:=Tryz.isAgg620,
  z84:=Tryz.sizeOf620,
  v84:=Tryz.zeroValue620 }
end Go.Proofs.YtjpboghdolfekaaGreatDoor
namespace Go.Proofs.YtjpboghdolfekaaGreatDoor
open Go Go.SL
def sS(l:List ByteArray):List Value:=l.map Value.string
def ZM(l:List ByteArray):∀v∈sS l,v.oneCell'=true:=by
 intro v hv
 obtain⟨x,_,rfl⟩:=List.mem_map.1 hv
 rfl
def SI(bs:Nat)(ks:List ByteArray):HP:=fun h=>∃v:Value,True∧Sep [ag bs (cl [v] 206),aH 9 1 v ks.length (sS ks)] h
def Hy(bs:Nat)(ks:List ByteArray):∀h,SI bs ks h→∃v:Value,True∧Sep [ag bs (cl [v] 206),aH 9 1 v ks.length (sS ks)] h:=fun h hs=>hs
def Dj(bs:Nat)(ks:List ByteArray)(v:Value)(H:List HP):ak (ag bs (cl [v] 206)::aH 9 1 v ks.length (sS ks)::H) (SI bs ks::H) :=
 ak.fold (A:=SI bs ks) (B:=[ag bs (cl [v] 206),aH 9 1 v ks.length (sS ks)]) fun h hs=>⟨h,sub.refl h,v,trivial,hs⟩
def Qu:jg Tryz.prog 9 Value.string:=Mc Tryz.underlying9
attribute [local irreducible] J K aw Ends ag aH au bE aW aJ a6 aZ bI SI
def NI(bm:Nat):aw Tryz.prog 180 [.map (some bm)] [] (fun r H=>∃bx,r = .func (.func 294) #[] #[ptr bx]∧H=[ag bx (cl [.map (some bm)] 94)]):=by
 refine aw.ao Tryz.func180 Tryz.ntmps180 fun G F R hE=>?_
 refine go ?_
 refine bC zr zr bq ?_
 intro bx
 refine go ?_
 refine ad hE Tryz.func180 zr zr ⟨bx,rfl,rfl⟩
theorem J3(l bx bm:Nat)(es:List (ByteArray × Value))(iJ:(es.map (·.1)).Nodup)(Lp:HP)(Inv:List ByteArray→HP)(hy:∀dn k,k∈es.map (·.1)→dn.length<es.length→bI Tryz.prog l [.string k] [Lp,Inv dn] (fun v H=>v = .bool true∧H=[Lp,Inv (dn++[k])])) :
  aw Tryz.prog 294 [.func (.yield l) #[] #[],ptr bx] [Lp,ag bx (cl [.map (some bm)] 94),au Value.string bm es,Inv [] ] (fun _ H=>∃dn:List ByteArray,dn.Perm (es.map (·.1))∧H=[Lp,ag bx (cl [.map (some bm)] 94),au Value.string bm es,Inv dn]):=by
 refine aw.ao Tryz.func294 Tryz.ntmps294 fun G F R hE=>?_
 refine ai (ak.pick [2,0,1] rfl) (go ?_)
 refine j0 (kv:=Value.string) (es:=es) (U:=aY) 0 zr zr zr zr zr (fun _=>rfl) bq ?_
 intro it
 refine go ?_
 refine bj (fun s:List ByteArray=>s.Nodup∧∀x∈s,x∈es.map (·.1)) (fun s=>es.length-s.length) (fun s=>[(0,.func (.yield l) #[] #[]),(5,.pointer (some ⟨it,0,none⟩))])
  (fun s=>bE Value.string bm it es s::Lp::ag bx (cl [.map (some bm)] 94)::Inv s.reverse::F) [] ⟨List.nodup_nil,by simp⟩ rfl bO ah ?_
 rintro dn⟨nx,cH⟩ ih
 refine go ?_
 refine nI (kv:=Value.string) (es:=es) 0 rfl Qu.inj zr zr (fun _=>rfl) fE bq ?_ ?_
 ·intro eY
  refine go ?_
  refine ai (ak.head (B:=[au Value.string bm es]) (fun h hs=>by obtain⟨h',s,hm⟩:=gM h hs;exact⟨h',s,di hm⟩)) ?_
  have hp:dn.reverse.Perm (es.map (·.1)):=(List.reverse_perm dn).trans ((List.perm_ext_iff_of_nodup nx iJ).2 fun a=>⟨cH a,fun h=>by obtain⟨y,hy,rfl⟩:=List.mem_map.1 h;exact eY y hy⟩)
  refine bB hE Tryz.func294 rfl _ rfl ⟨_,hp,rfl⟩ ah
 ·intro key v dU k8
  have hk:key∈es.map (·.1):=List.mem_map.2 ⟨_,dU,rfl⟩
  have cB:dn.length<es.length:=by
   have h1:((List.filter (fun x=>decide (x∈dn)) (es.map (·.1)))).length≤(es.map (·.1)).length:=List.length_filter_le _ _
   have h2:dn.length=(List.filter (fun x=>decide (x∈dn)) (es.map (·.1))).length:=ET nx (iJ.sublist List.filter_sublist) (fun n=>by
    simp only[List.mem_filter,decide_eq_true_eq]
    exact⟨fun h=>⟨cH n h,h⟩,fun h=>h.2⟩)
   rw[List.length_map]at h1
   rcases Nat.lt_or_ge dn.length es.length with h|h
   ·exact h
   ·exfalso
    have h3:(List.filter (fun x=>decide (x∈dn)) (es.map (·.1))).length=(es.map (·.1)).length:=by rw[List.length_map];omega
    have h4:=List.filter_eq_self.1 ((List.filter_sublist (p:=fun x=>decide (x∈dn)) (l:=es.map (·.1))).eq_of_length h3) key hk
    grind
  refine go ?_
  refine lN (kv:=Value.string) (es:=es) 0 rfl Qu.inj zr zr dU (go ?_)
  refine gQ zr zr zr (hy dn.reverse key hk (by rw[List.length_reverse];exact cB)) ah ?_ iM
  rintro _ _⟨rfl,rfl⟩
  rw[show dn.reverse++[key]=(key::dn).reverse from by simp]
  refine go ?_
  refine aK ih (key::dn) rfl (⟨List.nodup_cons.2 ⟨k8,nx⟩,fun x hx=>by rcases List.mem_cons.1 hx with rfl|h;exact hk;exact cH x h⟩) (by show _-(key::dn).length<_;simp only[List.length_cons];omega) bO ah
def yl(bx bm:Nat)(es:List (ByteArray × Value))(iJ:(es.map (·.1)).Nodup)(lC:es.length≤1000000) :
  aw Tryz.prog 408 [.slice none 0 0,.func (.func 294) #[] #[ptr bx] ] [ag bx (cl [.map (some bm)] 94),au Value.string bm es] (fun r H=>∃dn:List ByteArray,dn.Perm (es.map (·.1))∧H=[aH 9 1 r dn.length (sS dn),ag bx (cl [.map (some bm)] 94),au Value.string bm es]):=by
 refine aw.ao Tryz.func408 Tryz.ntmps408 fun G F R hE=>?_
 refine aN rfl ?_
 refine bC zr zr bq ?_
 intro bs
 refine go ?_
 refine gG rfl ?_
 refine ai (ak.trans (ak.cons _ (bp 9 1 none _)) (Dj bs [] (.slice none 0 0) _)) ?_
 refine rF (Fr:=F) (Pre:=fun _ _=>[ag bx (cl [.map (some bm)] 94),au Value.string bm es,SI bs [] ]) (Post:=?Po) rfl hE.1.1 rfl ?c (fun l r=>ah) ?fR
 case c =>
  intro l r
  refine J3 l bx bm es iJ _ (fun dn=>SI bs dn) ?_
  intro dn k hk cB
  refine bI.Af zr zr ?_
  intro G2 F2 R2 hY
  refine go ?_
  refine er rfl hY ?_
  refine ai (ak.pick [1] rfl) ?_
  refine cG (Hy bs dn) ?_
  rintro v -
  refine cU 1 rfl ?_
  rintro va vc rfl
  refine go ?_
  refine aq (cs:=sS [k]) zr zr zr zr zr zr zr zr zr bq ?_
  intro row
  refine go ?_
  refine aU (mm:=1) (news:=sS [k]) 2 0 zr zr zr zr zr zr zr zr zr zr zr zr (Vw.ag rfl) rfl (ZM _) aj (by show(_+1)*16≤_;omega) (fun _=>rfl) bq ?_
  intro v1
  rw[show sS dn++sS [k]=sS (dn++[k])from by simp[sS],show dn.length+1=(dn++[k]).length from by simp]
  refine aM 2 rfl ?_
  rintro Km Kl rfl
  refine go ?_
  refine ai (ak.trans ah (Dj bs (dn++[k]) (.slice Km (dn++[k]).length Kl) _)) ?_
  refine ea hY rfl ah ⟨rfl,rfl⟩
 intro l r v H ef
 obtain⟨dn,hp,rfl⟩:=ef
 refine⟨_,_,_,rfl,by decide,?_⟩
 rw[hE.1.2]
 refine ai (ak.pick [2] rfl) ?_
 refine cG (Hy bs dn) ?_
 rintro w -
 refine go ?_
 refine mI hE Tryz.func408 rfl _ rfl ⟨dn,hp,rfl⟩ ah
def DM(bx bm:Nat)(es:List (ByteArray × Value))(iJ:(es.map (·.1)).Nodup)(lC:es.length≤1000000) :
  aw Tryz.prog 292 [.func (.func 294) #[] #[ptr bx] ] [ag bx (cl [.map (some bm)] 94),au Value.string bm es] (fun r H=>∃dn:List ByteArray,dn.Perm (es.map (·.1))∧H=[aH 9 1 r dn.length (sS dn),ag bx (cl [.map (some bm)] 94),au Value.string bm es]):=by
 refine aw.ao Tryz.func292 Tryz.ntmps292 fun G F R hE=>?_
 refine go ?_
 refine az (yl bx bm es iJ lC) ?_
 rintro w _⟨dn,hp,rfl⟩
 refine go ?_
 refine ad hE Tryz.func292 zr zr ⟨dn,hp,rfl⟩
def nS(l:List (List UInt8)):List Value:=l.map Go.Proofs.encStr
def acH(l:List ByteArray):sS l=nS (l.map fun b=>b.data.toList):=by
 unfold sS nS
 rw[List.map_map]
 rfl
def JO(v:Value)(l:List ByteArray)(hl:l.length≤1000000000):aw Tryz.prog 293 [v] [aH 9 1 v l.length (sS l)] (fun r H=>r = .tuple #[]∧H=[aH 9 1 v l.length (nS (ov l))]):=by
 have h:=BF (ρ:=yz) acE 9 v (l.map fun b=>b.data.toList) ae (by rw[List.length_map];omega)
 rw[List.length_map]at h
 rw[acH]
 exact h
def FY(bx bm:Nat)(es:List (ByteArray × Value))(iJ:(es.map (·.1)).Nodup)(lC:es.length≤1000000) :
  aw Tryz.prog 179 [.func (.func 294) #[] #[ptr bx] ] [ag bx (cl [.map (some bm)] 94),au Value.string bm es] (fun r H=>H=[aH 9 1 r es.length (nS (ov (es.map (·.1)))),ag bx (cl [.map (some bm)] 94),au Value.string bm es]):=by
 refine aw.ao Tryz.func179 Tryz.ntmps179 fun G F R hE=>?_
 refine go ?_
 refine az (DM bx bm es iJ lC) ?_
 rintro w _⟨dn,hp,rfl⟩
 have hlen:dn.length=es.length:=by rw[hp.length_eq,List.length_map]
 refine aM 0 rfl ?_
 rintro wa wc rfl
 refine go ?_
 refine aF (JO (.slice wa dn.length wc) dn aj) ?_
 rw[Ee hp,hlen]
 refine go ?_
 refine aL hE Tryz.func179 rfl _ zr zr ah
def J0(bd:Nat)(D:Dk)(A:Ab)(hR:Rel D A):aw Tryz.prog 102 [ptr bd] [fG bd D] (fun r H=>H=[aH 9 1 r (gj A).length (nS (ov (gj A))),fG bd D]):=by
 have iJ:=hR.nodup _ (List.mem_cons_self ..)
 have nu:=hR.ek _ (List.mem_cons_self ..)
 have CF:(dT A.names).map (·.1)=gj A:=by simp[dT,gj,Function.comp_def]
 have QM:(dT A.names).length=(gj A).length:=by simp[dT,gj]
 have eR:(gj A).length≤200:=by unfold gj;rw[List.length_map];exact nu
 obtain⟨jm,hjm⟩:=List.getElem?_of_mem hR.names
 obtain⟨room,bm,k5,mJ,l5,off,maps,dg,files,fg,wl⟩:=D
 simp only at hjm
 refine aw.ao Tryz.func102 Tryz.ntmps102 fun G F R hE=>?_
 refine ai (gD _ _ _ _ _ _ _ _ _ _ _ _ _) (go ?_)
 refine az (NI bm) ?_
 rintro _ _⟨bx,rfl,rfl⟩
 have Qx:=FY bx bm (dT A.names) (by rw[CF];exact iJ) aj
 rw[CF,QM]at Qx
 refine aR (ak.pick [2] rfl) ?_
 refine aR (dF jB hjm _) ?_
 refine aR (ak.pick [2,0] rfl) (go ?_)
 refine az Qx ?_
 rintro v _ rfl
 refine aR (ak.pick [2,3] rfl) ?_
 refine aR (gp jB hjm _) (go ?_)
 refine ai ((ak.pick [3,0,4,5,6,7] rfl).trans (dy _ _ _ _ _ _ _ _ _ _ _ _ _)) ?_
 refine aL hE Tryz.func102 rfl _ zr zr ah
end Go.Proofs.YtjpboghdolfekaaGreatDoor
namespace Go.Proofs.YtjpboghdolfekaaGreatDoor
open Go Go.SL
attribute [local irreducible] J K aw Ends ag aH au bE aW aJ a6 aZ bI Sha.chunks Sha.chunk Sha.rounds Sha.sched ff cI GI fA
structure HN(A:Ab):Prop where
 ids:(A.fs.map (·.1)).Nodup
 known:∀st∈A.names::A.aI,∀x∈st,x.2∈A.fs.map (·.1)
 fC:∀x∈A.writes,x.1∈A.fs.map (·.1)
 nodup:∀st∈A.names::A.aI,(st.map (·.1)).Nodup
 e8:∀x∈A.fs,x.2.1.length≤1048576∧x.2.2.length≤1048576
 fN:∀x∈A.writes,x.2.1+x.2.2.length≤1048576
 ek:∀st∈A.names::A.aI,st.length≤200
 fO:A.room≤1073741824
 full:A.aI≠[]
def HN.of{D:Dk}{A:Ab}(h:Rel D A):HN A:=⟨h.ids,h.known,h.fC,h.nodup,h.e8,h.fN,h.ek,h.fO,h.full⟩
def HN.file{A:Ab}(h:HN A)(f:Nat):(A.file f).1.length≤1048576∧(A.file f).2.length≤1048576:=by
 unfold Ab.file
 cases hx:A.fs.find? (fun x=>decide (x.1=f))with
 | none=>simp
 | some x=>exact h.e8 x (List.mem_of_find?_eq_some hx)
def HN.now{A:Ab}(h:HN A)(f:Nat):(A.now f).length≤1048576:=(h.file f).1
def Aw{G:cg}{w:World}{H:List HP}(hs:Sat G w H){i:Nat}{A:HP}(hi:bU H i=some A):∃h,A h:=let ⟨h,_,hA⟩:=hs.jM hi;⟨h,hA⟩
def C1{bd:Nat}{A:Ab}{h:Hp}(hd:aG bd A h):HN A:=let ⟨_,hR,_⟩:=hd;HN.of hR
section
variable{P:Program}{f:FuncId}{n:Nat}{R:Ending→World→Prop}{G:cg}{k:List Item}{L:eC}{H:List HP}{S:World→Prop}{all:Array Oper}{rest:Pl}
def rG{bd:Nat}{A:Ab}(i:Nat)(hi:bU H i=some (aG bd A))(h:HN A→K P f n R G k L H):K P f n R G k L H :=
 oZ fun⟨w,hw⟩=>by obtain⟨h1,hA⟩:=Aw hw hi;exact h (C1 hA)
def HG{bd:Nat}{A:Ab}(i:Nat)(hi:bU H i=some (aG bd A))(h:HN A→J P f n R G S all rest k L H):J P f n R G S all rest k L H :=
 xk fun w hw=>by obtain⟨h1,hA⟩:=Aw hw hi;exact h (C1 hA)
end
attribute [local irreducible] aG
def dR(bd:Nat)(q:Int)(mb:Nat)(brk:Bool):List Value:=[ptr bd,.int .i64 q,.map (some mb),.bool brk]
def oR(kind:List UInt8)(d:Dg)(hk:kind.length≤1000):aw Tryz.prog 176 [.string (strOf kind),dV d] [] (fun r H=>r = .string (eZ kind d)∧H=[]):=by
 have ht:=Np d
 unfold dV at ht ⊢
 refine aw.ao Tryz.func176 Tryz.ntmps176 fun G F R hE=>?_
 refine aN rfl ?_
 refine bC zr zr bq ?_
 intro b3
 refine go ?_
 refine aV (U:=aY) (l:=dC d) 0 zr zr zr zr zr zr ?_
 refine aF ht ?_
 refine xh zr zr zr (by show kind.length+(gX d).length≤_;rw[mf];omega) ?_
 ((refine aC 8 ((.string (eZ kind d))) rfl ((congrArg Value.string (by unfold eZ strOf;apply ByteArray.ext;simp))) ?_))
 refine go ?_
 refine ad hE Tryz.func176 zr zr ⟨rfl,rfl⟩
def wb(o:Option Dg):Value:=match o with
 | none => .tuple #[dV Dg.zero,.bool false]
 | some d => .tuple #[dV d,.bool true]
def MX(s:ByteArray)(k:Nat):s.extract (0:Int).toNat (k:Int).toNat=strOf (s.data.toList.take k):=by
 unfold strOf
 apply ByteArray.ext
 apply Array.ext'
 simp_all
def MY(s:ByteArray)(k:Nat):s.extract (k:Int).toNat (s.size:Int).toNat=strOf (s.data.toList.drop k):=by
 unfold strOf
 apply ByteArray.ext
 apply Array.ext'
 have:s.size=s.data.toList.length:=rfl
 rw[ByteArray.data_extract,this]
 simp
 rw[List.take_of_length_le (by simp)]
def v8(kind:List UInt8)(nm:ByteArray)(hk:kind.length≤1000):aw Tryz.prog 103 [.string (strOf kind),.string nm] [] (fun r H=>r=wb (gk kind nm)∧H=[]):=by
 have Pm:(strOf kind).size=kind.length:=rfl
 have Oh:nm.size=nm.data.toList.length:=rfl
 refine aw.ao Tryz.func103 Tryz.ntmps103 fun G F R hE=>?_
 refine aN rfl ?_
 refine aB zr zr zr bq ?_
 intro b4
 have hN:¬kind.isPrefixOf nm.data.toList=true→gk kind nm=none:=fun h=>by unfold gk;rw[if_neg h]
 have hP:kind.isPrefixOf nm.data.toList=true→gk kind nm=iP (nm.data.toList.drop kind.length):=fun h=>by unfold gk;rw[if_pos h]
 have Pp:kind.isPrefixOf nm.data.toList=true↔nm.data.toList.take kind.length=kind:=by
  rw[List.isPrefixOf_iff_prefix,List.prefix_iff_eq_take]
  exact eq_comm
 refine go ?_
 refine ew zr zr zr zr ?_ ?_
 ·intro cB
  have Mw:=hN (fun h=>by rw[Pp]at h;have:=congrArg List.length h;rw[List.length_take]at this;omega)
  rw[Mw]at hE
  refine go ?_
  refine fY (U:=aY) zr zr zr zr zr (go ?_)
  (refine bh hE ?_;apply a7 (U:=aY) hE Tryz.func103 rfl (ak.refl _);(repeat(first|exact aT.nil|apply aT.tmp rfl|apply aT.agg 0 zr zr zr zr zr));exact⟨rfl,rfl⟩;exact ah)
 ·intro eN
  have hkn:(kind.length:Int)≤(nm.size:Int):=by omega
  refine go ?_
  refine xi (U:=aY) (p:=0) (q:=(kind.length:Int)) zr zr zr zr zr zr (Int.le_refl _) (Int.natCast_nonneg _) hkn ?_
  refine aC 17 ((.string (strOf (nm.data.toList.take kind.length)))) rfl ((congrArg Value.string (MX nm kind.length))) (go ?_)
  refine aQ 20 (.bool (!decide (nm.data.toList.take kind.length=kind))) rfl (by rw[zf]) ?_
  by_cases hp:nm.data.toList.take kind.length=kind
  ·rw[decide_eq_true hp]
   have hh:=hP (Pp.2 hp)
   rw[hh]at hE
   refine go ?_
   refine xi (U:=aY) (p:=(kind.length:Int)) (q:=(nm.size:Int)) zr zr zr zr zr zr (Int.natCast_nonneg _) hkn (Int.le_refl _) ?_
   refine aC 26 ((.string (strOf (nm.data.toList.drop kind.length)))) rfl ((congrArg Value.string (MY nm kind.length))) ?_
   have ac9:=JU (strOf (nm.data.toList.drop kind.length))
   rw[uX]at ac9
   refine aF ac9 ?_
   cases uf:iP (nm.data.toList.drop kind.length)with
   | none =>
    rw[uf]at hE
    simp only
    unfold dV
    refine go ?_
    refine aB zr zr zr bq ?_
    intro b6
    refine go ?_
    refine aV (U:=aY) (l:=dC Dg.zero) 0 zr zr zr zr zr zr (go ?_)
    (refine bh hE ?_;apply a7 (U:=aY) hE Tryz.func103 rfl (ak.refl _);(repeat(first|exact aT.nil|apply aT.tmp rfl|apply aT.agg 1 zr zr zr zr zr));exact⟨rfl,rfl⟩;exact ah)
   | some d =>
    rw[uf]at hE
    simp only
    unfold dV
    refine go ?_
    refine aB zr zr zr bq ?_
    intro b6
    refine go ?_
    refine aV (U:=aY) (l:=dC d) 0 zr zr zr zr zr zr (go ?_)
    (refine bh hE ?_;apply a7 (U:=aY) hE Tryz.func103 rfl (ak.refl _);(repeat(first|exact aT.nil|apply aT.tmp rfl|apply aT.agg 1 zr zr zr zr zr));exact⟨rfl,rfl⟩;exact ah)
  ·rw[decide_eq_false hp]
   have Mw:=hN (fun h=>hp (Pp.1 h))
   rw[Mw]at hE
   refine go ?_
   refine fY (U:=aY) zr zr zr zr zr (go ?_)
   (refine bh hE ?_;apply a7 (U:=aY) hE Tryz.func103 rfl (ak.refl _);(repeat(first|exact aT.nil|apply aT.tmp rfl|apply aT.agg 0 zr zr zr zr zr));exact⟨rfl,rfl⟩;exact ah)
def K2(A:Ab)(nm:ByteArray):decide (((A.size nm).2:Int)=0)=qg A nm:=by
 unfold Ab.size qg
 cases A.look nm <;> rfl
def Me(bs bd:Nat)(q:Int)(mb:Nat)(brk:Bool)(A:Ab)(nm:ByteArray):aw Tryz.prog 201 [ptr bs,.string nm] [ag bs (cl (dR bd q mb brk) 209),aG bd A]
  (fun r H=>r = .bool (qg A nm)∧H=[ag bs (cl (dR bd q mb brk) 209),aG bd A]):=by
 have hs:=K2 A nm
 refine aw.ao Tryz.func201 Tryz.ntmps201 fun G F R hE=>?_
 refine go ?_
 refine aF (rA bd A nm) ?_
 refine go ?_
 rw[← hs]at hE
 refine ad hE Tryz.func201 zr zr ⟨rfl,rfl⟩
def zm(bs bd:Nat)(q:Int)(mb:Nat)(brk:Bool)(A:Ab)(nm:ByteArray):aw Tryz.prog 185 [ptr bs,.string nm] [ag bs (cl (dR bd q mb brk) 209),aG bd A]
  (fun r H=>∃rv,r = .tuple #[rv,.bool (gg A nm).isSome]∧H=[aH 5 1 rv ((gg A nm).getD []).length (bV ((gg A nm).getD [])),ag bs (cl (dR bd q mb brk) 209),aG bd A]):=by
 refine aw.ao Tryz.func185 Tryz.ntmps185 fun G F R hE=>?_
 refine go ?_
 refine aF (rA bd A nm) ?_
 have hn:A.look nm=none→gg A nm=none∧A.size nm=(0,4):=fun h=>by unfold gg Ab.size;rw[h];exact⟨rfl,rfl⟩
 have hr:∀f,A.look nm=some f→A.size nm=((A.now f).length,0)∧A.read nm 0 ((A.now f).length:Int)=((gg A nm).getD [],if(gg A nm).isSome then 0 else 7):=fun f h=>by
  unfold gg Ab.size Ab.read
  rw[h]
  cases iS:A.off with
  | true=>exact⟨rfl,rfl⟩
  | false =>
   simp_all
 cases hl:A.look nm with
 | none =>
  obtain⟨h1,h2⟩:=hn hl
  rw[h2]
  rw[h1]at hE
  simp only
  refine go ?_
  refine ai (bp 5 1 none _) ?_
  refine ad hE Tryz.func185 zr zr ⟨_,rfl,rfl⟩
 | some f =>
  obtain⟨h1,h2⟩:=hr f hl
  rw[h1]
  simp only
  have xD:=AT bd A nm 0 ((A.now f).length:Int)
  rw[h2]at xD
  refine go ?_
  refine az xD ?_
  rintro _ _⟨r,rfl,rfl⟩
  generalize gg A nm=o at hE ⊢
  cases o with
  | none =>
   refine go ?_
   refine ad hE Tryz.func185 zr zr ⟨_,rfl,rfl⟩
  | some b =>
   refine go ?_
   refine ad hE Tryz.func185 zr zr ⟨_,rfl,rfl⟩
end Go.Proofs.YtjpboghdolfekaaGreatDoor
namespace Go.SL
open Go
namespace Sha
def ad3(n o:List jD)(i:Nat):List jD:=(List.zipWith (· + ·) n o).take i++n.drop i
end Sha
end Go.SL
namespace Go.Proofs.YtjpboghdolfekaaGreatDoor
open Go Go.SL
attribute [local irreducible] J K aw Ends ag aH au bE aW aJ a6 aZ bI Sha.chunks Sha.chunk Sha.rounds Sha.sched ff Sha.ad3
end Go.Proofs.YtjpboghdolfekaaGreatDoor
namespace Go.Proofs.YtjpboghdolfekaaGreatDoor
open Go Go.SL
attribute [local irreducible] J K aw Ends ag aH au bE aW aJ a6 aZ bI Sha.chunks Sha.chunk Sha.rounds Sha.sched ff cI
def dgE{l:List Dg}{i:Nat}{x:Dg}(hx:l[i]?=some x)(q:Nat)(v:Value)(hq:(dC x)[q]?=some v):(l.flatMap dC)[i*32+q]?=some v:=by
 rw[cd eE hx q (by rcases Nat.lt_or_ge q 32 with h|h;exact h;rw[List.getElem?_eq_none (by rw[eE];exact h)]at hq;cases hq)]
 exact hq
attribute [local irreducible] GI fA
def Jl:Tryz.prog.eqGuardType Tryz.prog.depth 35=false:=by kernel_rfl
def Jx(a b:Dg)(w:World):(Op.equal 35 (.agg (dC a).toArray) (.agg (dC b).toArray)).run Tryz.prog w = .ok (decide (a=b)) w :=
 p7 Tryz.underlying35 Tryz.underlying5 aaU a b 9998 w
attribute [local irreducible] aG
def wO{A:Ab}(h:HN A)(nm:ByteArray):((gg A nm).getD []).length≤1048576:=by
 unfold gg
 cases A.look nm with
 | none=>simp
 | some f =>
  cases A.off with
  | true=>simp
  | false=>simpa using h.now f
def yp(X:HP)(hK:lL X)(bs bd:Nat)(q:Int)(mb:Nat)(brk:Bool)(A:Ab)(d:Dg):aw Tryz.prog 111 [ptr bs,dV d] [ag bs (cl (dR bd q mb brk) 209),aG bd A,X]
  (fun r H=>r = .bool (jh A d)∧H=[ag bs (cl (dR bd q mb brk) 209),aG bd A,X]):=by
 have hf:=oR kB d (by decide)
 refine aw.ao Tryz.func111 Tryz.ntmps111 fun G F R hE=>?_
 refine aN rfl ?_
 refine bC zr zr bq ?_
 intro b3
 refine HG (bd:=bd) (A:=A) 2 rfl ?_
 intro Fj
 refine go ?_
 refine aV (U:=aY) (l:=dC d) 0 zr zr zr zr zr zr ?_
 refine aF hf ?_
 refine az (zm bs bd q mb brk A (eZ kB d)) ?_
 rintro _ _⟨rv,rfl,rfl⟩
 have hw:jh A d=match gg A (eZ kB d)with|none=>false|some b=>decide (ff b=d):=rfl
 have uj:=wO Fj (eZ kB d)
 cases hb:gg A (eZ kB d)with
 | none =>
  rw[hb]at hw
  rw[hw]at hE
  refine go ?_
  refine aO (fun w=>Sat G w ([])) (cM 0 3 (.st 4 (.act 3 (cM 5 3 .nil)))) rfl ae ae ae dv ?_
  refine go ?_
  refine ad hE Tryz.func111 zr zr ⟨rfl,rfl⟩
 | some b =>
  rw[hb]at hw uj
  rw[hw]at hE
  simp only[Option.getD_some]at uj ⊢
  refine iA (bs:=b) 0 rfl ?_
  intro Hg
  refine aR (ak.trans (ak.pick [0,4] rfl) (ak.bT [aH 5 1 rv b.length (bV b),X] _)) ?_
  have ue:=uI _ (hK.mono (bz (H:=[aH 5 1 rv b.length (bV b),X]) (i:=1) rfl)) rv b (Hg.mono (bz (i:=0) rfl)) aj
  refine go ?_
  refine aO (fun w=>Sat G w ([ag b3 (cl (dC d) 35)])) (cM 0 3 (.st 4 (.act 3 (cM 5 3 .nil)))) rfl ae ae ae dv ?_
  refine go ?_
  refine cm (U:=aY) (l:=dC d) 0 zr zr zr zr zr zr (go ?_)
  refine bP ue ?_
  refine go ?_
  refine nM (b:=decide (ff b=d)) zr zr zr Jl (fun w=>Jx (ff b) d w) ?_
  refine go ?_
  refine ai (ak.cL _ _) ?_
  refine ad hE Tryz.func111 zr zr ⟨rfl,rfl⟩
def qq(bs bd:Nat)(q:Int)(mb:Nat)(brk:Bool)(A:Ab)(d:Dg):aw Tryz.prog 172 [ptr bs,dV d] [ag bs (cl (dR bd q mb brk) 209),aG bd A]
  (fun r H=>∃rv,r = .tuple #[Kp rv,.bool (iy A d).isSome]∧H=[aH 182 66 rv ((iy A d).getD []).length (((iy A d).getD []).flatMap dN),ag bs (cl (dR bd q mb brk) 209),aG bd A]):=by
 have hf:=oR kI d (by decide)
 refine aw.ao Tryz.func172 Tryz.ntmps172 fun G F R hE=>?_
 refine aN rfl ?_
 refine bC zr zr bq ?_
 intro b3
 refine aB zr zr zr bq ?_
 intro b4
 refine HG (bd:=bd) (A:=A) 3 rfl ?_
 intro Fj
 refine go ?_
 refine aV (U:=aY) (l:=dC d) 1 zr zr zr zr zr zr ?_
 refine aF hf ?_
 refine az (zm bs bd q mb brk A (eZ kI d)) ?_
 rintro _ _⟨rv,rfl,rfl⟩
 have hw:iy A d=(gg A (eZ kI d)).bind wG:=rfl
 have uj:=wO Fj (eZ kI d)
 cases hb:gg A (eZ kI d)with
 | none =>
  rw[hb]at hw
  rw[hw]at hE
  refine go ?_
  refine ai (bp 182 66 none _) ?_
  (refine bh hE ?_;apply a7 (U:=aY) hE Tryz.func172 rfl (ak.refl _);(repeat(first|exact aT.nil|apply aT.tmp rfl|apply aT.agg 4 zr zr zr zr zr));exact⟨_,rfl,rfl⟩;exact ah)
 | some b =>
  rw[hb]at hw uj
  simp only[Option.getD_some,Option.bind_some]at uj hw ⊢
  rw[hw]at hE
  refine iA (bs:=b) 0 rfl ?_
  intro Hg
  refine go ?_
  refine az (Cn _ rv b Hg aj) ?_
  rintro _ _ (⟨hn,⟨e,he,rfl⟩,rfl⟩|⟨l,lv,hs,rfl,rfl⟩)
  ·rw[hn]at hE
   refine go ?_
   refine aB zr zr zr bq ?_
   intro b8
   refine go ?_
   refine aV (U:=aY) (l:=[.slice none 0 0]) 0 zr zr zr zr zr zr (go ?_)
   refine aC 27 ((.bool false)) rfl ((congrArg Value.bool (decide_eq_false he))) (go ?_)
   (refine aX ?_;(refine bG 4 fE zr zr zr zr zr zr zr zr zr ?_))
   refine go ?_
   refine ai (bp 182 66 none _) ?_
   (refine bh hE ?_;apply a7 (U:=aY) hE Tryz.func172 rfl (ak.refl _);(repeat(first|exact aT.nil|apply aT.tmp rfl|apply aT.agg 5 zr zr zr zr zr));exact⟨_,rfl,rfl⟩;exact ah)
  ·rw[hs]at hE
   refine aM 0 rfl ?_
   rintro la lc rfl
   refine go ?_
   refine aB zr zr zr bq ?_
   intro b8
   refine go ?_
   refine aV (U:=aY) (l:=[.slice la l.length lc]) 0 zr zr zr zr zr zr (go ?_)
   (refine aX ?_;(refine bG 5 fE zr zr zr zr zr zr zr zr zr ?_))
   refine go ?_
   (refine bh hE ?_;apply a7 (U:=aY) hE Tryz.func172 rfl (ak.refl _);(repeat(first|exact aT.nil|apply aT.tmp rfl|apply aT.agg 5 zr zr zr zr zr));exact⟨_,rfl,rfl⟩;exact ah)
def FE(X:HP)(hK:lL X)(b2 bs bd:Nat)(q:Int)(mb:Nat)(brk:Bool)(A:Ab)(y:Bl) :
  aw Tryz.prog 186 [l7 y,ptr b2] [Sep [ag b2 (cl [ptr bs] 122),ag bs (cl (dR bd q mb brk) 209),aG bd A,X] ]
  (fun r H=>r = .bool (!jh A y.d)∧H=[Sep [ag b2 (cl [ptr bs] 122),ag bs (cl (dR bd q mb brk) 209),aG bd A,X] ]):=by
 have hw:=yp X hK bs bd q mb brk A y.d
 refine aw.ao Tryz.func186 Tryz.ntmps186 fun G F R hE=>?_
 refine aN rfl ?_
 refine bC zr zr bq ?_
 intro b0
 refine aR (ak.trans (ak.pick [1] rfl) (ak.cL [_,_,_,_] _)) (go ?_)
 refine cC 4 zr zr zr zr zr zr ?_
 refine aF hw ?_
 refine go ?_
 refine ai (ak.trans (ak.pick [3,0,1,2] rfl) (ak.bT [_,_,_,_] _)) ?_
 refine ad hE Tryz.func186 zr zr ⟨rfl,rfl⟩
def wJ{A:Ab}{d:Dg}(h:iy A d=none):eV A d=false:=by unfold eV;rw[h]
theorem wI{A:Ab}{d:Dg}{l:List Bl}(h:iy A d=some l):eV A d=(decide (tz l=d) && !l.any fun y => !jh A y.d):=by
 grind [eV]
def IX{A:Ab}{d:Dg}{l:List Bl}(h:iy A d=some l):df l=0:=by
 obtain⟨b,_,hb⟩:=Option.bind_eq_some_iff.1 h
 exact Fz hb
def AE(X:HP)(hK:lL X)(bs bd:Nat)(q:Int)(mb:Nat)(brk:Bool)(A:Ab)(d:Dg):aw Tryz.prog 114 [ptr bs,dV d] [ag bs (cl (dR bd q mb brk) 209),aG bd A,X]
  (fun r H=>r = .bool (eV A d)∧H=[ag bs (cl (dR bd q mb brk) 209),aG bd A,X]):=by
 have hi:=qq bs bd q mb brk A d
 refine aw.ao Tryz.func114 Tryz.ntmps114 fun G F R hE=>?_
 refine aN rfl ?_
 refine bC zr zr bq ?_
 intro b2
 refine bC zr zr bq ?_
 intro b3
 refine go ?_
 refine aV (U:=aY) (l:=dC d) 0 zr zr zr zr zr zr ?_
 refine az hi ?_
 rintro _ _⟨rv,rfl,rfl⟩
 refine aM 0 rfl ?_
 rintro ra rc rfl
 refine go ?_
 refine aB zr zr zr bq ?_
 intro b5
 refine go ?_
 cases Ha:iy A d with
 | none =>
  rw[wJ Ha]at hE
  have nR:=w9 X hK (.slice ra 0 rc) [] (Vw.nil X ra rc) (by simp)
  refine aV (U:=aY) (l:=[.slice ra 0 rc]) 0 zr zr zr zr zr zr ?_
  refine aF nR ?_
  refine go ?_
  refine aB zr zr zr bq ?_
  intro b7
  refine go ?_
  refine ad hE Tryz.func114 zr zr ⟨rfl,rfl⟩
 | some l =>
  have mL:=IX Ha
  have hlr:=nr mL
  rw[wI Ha]at hE
  refine HD 1 rfl ?_
  intro dt fF
  refine aR (H':=Sep [aH 182 66 (.slice ra l.length rc) l.length (l.flatMap dN),X]::ag b5 (cl [.slice ra l.length rc] 179)::ag bs (cl (dR bd q mb brk) 209)::aG bd A::ag b3 (cl (dC d) 35)::ag b2 (cl [ptr bs] 122)::F) (ak.trans (H2:=aH 182 66 (.slice ra l.length rc) l.length (l.flatMap dN)::X::ag b5 (cl [.slice ra l.length rc] 179)::ag bs (cl (dR bd q mb brk) 209)::aG bd A::ag b3 (cl (dC d) 35)::ag b2 (cl [ptr bs] 122)::F) ah (ak.bT [_,_] _)) ?_
  have nR:=w9 _ (hK.mono (bz (H:=[aH 182 66 (.slice ra l.length rc) l.length (l.flatMap dN),X]) (i:=1) rfl)) _ l (dt.mono (bz (i:=0) rfl)) aj
  rw[if_pos mL]at nR
  refine aV (U:=aY) (l:=[.slice ra l.length rc]) 1 zr zr zr zr zr zr ?_
  refine aF nR ?_
  refine go ?_
  refine aB zr zr zr bq ?_
  intro b7
  refine go ?_
  refine aV (U:=aY) (l:=dC (tz l)) 0 zr zr zr zr zr zr (go ?_)
  refine aV (U:=aY) (l:=dC d) 5 zr zr zr zr zr zr (go ?_)
  refine nM (b:=decide (tz l=d)) zr zr zr Jl (fun w=>Jx (tz l) d w) ?_
  by_cases iJ:tz l=d
  ·rw[decide_eq_true iJ]at hE ⊢
   refine go ?_
   refine aR (H':=aH 182 66 (.slice ra l.length rc) l.length (l.flatMap dN)::Sep [ag b2 (cl [ptr bs] 122),ag bs (cl (dR bd q mb brk) 209),aG bd A,X]::F) (ak.trans (ak.trans (ak.pick [1] rfl) (ak.cL [_,_] _)) (ak.trans (H2:=ag b2 (cl [ptr bs] 122)::ag bs (cl (dR bd q mb brk) 209)::aG bd A::X::aH 182 66 (.slice ra l.length rc) l.length (l.flatMap dN)::F) ah (ak.trans (ak.bT [_,_,_,_] _) ah))) ?_
   refine aF (nW _ (Sep [ag b2 (cl [ptr bs] 122),ag bs (cl (dR bd q mb brk) 209),aG bd A,X]) _ l dt aj 186 [ptr b2] (fun y => !jh A y.d) (fun y _=>FE X hK b2 bs bd q mb brk A y)) ?_
   refine go ?_
   refine ai (ak.trans (ak.pick [1] rfl) (ak.cL [_,_,_,_] _)) ?_
   refine ad hE Tryz.func114 zr zr ⟨rfl,rfl⟩
  ·rw[decide_eq_false iJ]at hE ⊢
   refine go ?_
   refine ai (ak.trans (ak.pick [1] rfl) (ak.cL [_,_] _)) ?_
   refine ad hE Tryz.func114 zr zr ⟨rfl,rfl⟩
def AS(g:FuncId)(fi:List Value)(Y:Ab→HP)(right:Ab→Dg→Bool):Prop:=∀(A:Ab) (d:Dg),aw Tryz.prog g (fi++[dV d]) [Y A] (fun r H=>r = .bool (right A d)∧H=[Y A])
end Go.Proofs.YtjpboghdolfekaaGreatDoor
namespace Go.Proofs.YtjpboghdolfekaaGreatDoor
open Go Go.SL
attribute [local irreducible] J K aw Ends ag aH au bE aW aJ a6 aZ bI
theorem De{σ:Type}(I:σ→HP)(V:HP)(v:Value)(nT:List Value)(hv:Vw V v nT.length nT)(hn:nT.length≤1000000000)(ss:List (σ→Nat→σ→Prop))(hlen:ss.length=nT.length)(Q:Nat→σ→Prop)(dE:∀(i:Nat) (fv:Value) (s:σ→Nat→σ→Prop),nT[i]?=some fv→ss[i]?=some s→∃g fi cap,fv = .func (.func g) fi cap∧∀x,Q i x→aw Tryz.prog g (fi.toList++cap.toList) [I x] (fun r H=>∃(e:Nat) (x':σ),r = .int .i64 (e:Int)∧H=[I x']∧s x e x'∧(e=0→Q (i+1) x')))(x0:σ)(hQ:Q 0 x0) :
  aw Tryz.prog 108 [v] [V,I x0] (fun r H=>∃(e:Nat) (x':σ),r = .int .i64 (e:Int)∧H=[V,I x']∧sT ss x0 e x'∧(e=0→Q nT.length x')):=by
 obtain⟨a,c,rfl⟩:=hv.shape
 refine aw.ao Tryz.func108 Tryz.ntmps108 fun G F R hE=>?_
 refine go ?_
 refine bj (fun y:Nat × σ=>y.1≤nT.length∧Q y.1 y.2∧∀e x',sT (ss.drop y.1) y.2 e x'→sT ss x0 e x') (fun y=>nT.length-y.1)
  (fun y=>[(0,.slice a nT.length c),(6,.slice a nT.length c),(7,.int .i64 (nT.length:Int)),(8,.int .i64 (y.1:Int))])
  (fun y=>V::I y.2::F) (0,x0) ⟨Nat.zero_le _,hQ,fun _ _ h=>h⟩ rfl bO ah ?_
 rintro⟨i,x⟩⟨hi,hq,hr⟩ ih
 simp only at hi hq hr
 refine go ?_
 refine aD zr zr ?_ ?_
 ·intro cB
  simp only at cB
  have k9:i<nT.length:=by omega
  obtain⟨fv,Pu⟩:∃fv,nT[i]?=some fv:=⟨nT[i],List.getElem?_eq_getElem k9⟩
  obtain⟨s,hs⟩:∃s,ss[i]?=some s:=⟨ss[i],List.getElem?_eq_getElem aj⟩
  obtain⟨g,fi,cap,rfl,hc⟩:=dE i fv s Pu hs
  have jT:ss.drop i=s::ss.drop (i+1):=by
   rw[List.drop_eq_getElem_cons aj]
   grind
  obtain⟨b0,o0,c0,xU⟩:=hv.some (by intro h;rw[h]at k9;simp at k9)
  simp only[Value.slice.injEq]at xU
  obtain⟨rfl,-,rfl⟩:=xU
  refine go ?_
  refine bD i zr zr zr zr zr zr zr zr k9 ?_
  refine aP 0 i zr zr zr hv rfl Pu zr zr (go ?_)
  refine il zr zr zr (by simp) (hc x hq) ah ?_ iM
  rintro _ _⟨e,x',rfl,rfl,Qw,QC⟩
  refine go ?_
  refine aD zr zr ?_ ?_
  ·intro gf
   have he:e≠0:=by omega
   refine go ?_
   ((refine ad hE Tryz.func108 zr zr ⟨e,x',rfl,rfl,hr e x' (by rw[jT];exact⟨e,x',Qw,.inl ⟨he,rfl,rfl⟩⟩),fun h=>absurd h he⟩))
  ·intro heq
   have he:e=0:=by omega
   refine go ?_
   refine aK ih (i+1,x') rfl (⟨by simp only;omega,QC he,fun e2 x2 h2=>hr e2 x2 (by rw[jT];exact⟨e,x',Qw,.inr ⟨he,h2⟩⟩)⟩) (by simp only;omega) bO ah
 ·intro eN
  simp only at eN
  have dP:i=nT.length:=by omega
  subst dP
  refine go ?_
  ((refine ad hE Tryz.func108 zr zr ⟨0,x,rfl,rfl,hr 0 x (by rw[List.drop_eq_nil_of_le aj];exact⟨rfl,rfl⟩),fun _=>hq⟩))
attribute [local irreducible] Sha.chunks Sha.chunk Sha.rounds Sha.sched ff cI GI fA
def oX(bd:Nat)(A:Ab):aw Tryz.prog 102 [ptr bd] [aG bd A] (fun r H=>H=[aH 9 1 r (eQ A).length ((eQ A).map Value.string),aG bd A]):=by
 have hl:(eQ A).length=(gj A).length:=by unfold eQ;rw[List.length_map,si]
 have hm:(eQ A).map Value.string=nS (ov (gj A)):=by unfold eQ nS;rw[List.map_map];rfl
 rw[hl,hm]
 exact fW (Post:=fun v H=>∃D,Rel D A∧H=[aH 9 1 v (gj A).length (nS (ov (gj A))),fG bd D]) ae (fun D hR=>(J0 bd D A hR).post (fun v H h=>⟨D,hR,h⟩)) (by rintro v H⟨D',hR,rfl⟩;exact⟨_,rfl,ak.cons _ (fD hR [])⟩)
attribute [local irreducible] aG
def nh{A:Ab}(h:HN A):(eQ A).length≤200:=by
 unfold eQ gj
 rw[List.length_map,si,List.length_map]
 exact h.ek _ (List.mem_cons_self ..)
def rR(bs bd:Nat)(q:Int)(mb:Nat)(brk:Bool)(X:HP)(A:Ab):HP:=Sep [ag bs (cl (dR bd q mb brk) 209),aG bd A,X]
def xW{A B:Ab}{nm:ByteArray}{e:Nat}(h:BD nm A e B):kY A B:=by
 have:=oN A (isName nm) nm
 rw[← h]at this
 exact this
theorem sl(bs bd:Nat)(q:Int)(mb:Nat)(brk:Bool)(X:HP)(kind:List UInt8)(hk:kind.length≤1000)(g:FuncId)(fi:List Value)(right:Ab→Dg→Bool)(hr:AS g fi (rR bs bd q mb brk X) right)(A:Ab)(dE:A.aI.length≤900000000) :
  aw Tryz.prog 110 [ptr bs,.string (strOf kind),.func (.func g) fi.toArray #[] ] [rR bs bd q mb brk X A]
  (fun r H=>∃(e:Nat) (B:Ab),r = .int .i64 (e:Int)∧H=[rR bs bd q mb brk X B]∧ej kind right A e B∧B.aI.length≤A.aI.length+200):=by
 refine aw.ao Tryz.func110 Tryz.ntmps110 fun G F R hE=>?_
 refine ai (ak.cL [_,_,_] _) ?_
 refine rG (bd:=bd) (A:=A) 1 rfl ?_
 intro Fj
 have CB:=nh Fj
 obtain⟨l,hl⟩:∃l,l=eQ A:=⟨_,rfl⟩
 have hsd:∀e B,kV kind right l A e B→ej kind right A e B:=fun e B h=>by unfold ej;rw[← hl];exact h
 refine go ?_
 have nR:=oX bd A
 rw[← hl]at nR CB
 refine az nR ?_
 rintro r _ rfl
 refine aM 0 rfl ?_
 rintro ra rc rfl
 refine eL 0 rfl ?_
 intro dt
 refine go ?_
 refine bj (fun y:Nat × Ab=>y.1≤l.length∧y.2.aI.length≤A.aI.length+y.1∧∀e B,kV kind right (l.drop y.1) y.2 e B→ej kind right A e B) (fun y=>l.length-y.1)
  (fun y=>[(0,ptr bs),(1,.string (strOf kind)),(2,.func (.func g) fi.toArray #[]),(16,.slice ra l.length rc),(17,.int .i64 (l.length:Int)),(18,.int .i64 (y.1:Int))])
  (fun y=>aH 9 1 (.slice ra l.length rc) l.length (l.map Value.string)::ag bs (cl (dR bd q mb brk) 209)::aG bd y.2::X::F) (0,A) ⟨Nat.zero_le _,by simp,hsd⟩ rfl bO ah ?_
 rintro⟨i,B⟩⟨hi,hbs,hsc⟩ ih
 simp only at hi hbs hsc
 dsimp only
 refine go ?_
 refine aD zr zr ?_ ?_
 ·intro cB
  have dP:i<l.length:=by omega
  obtain⟨nm,hx⟩:∃x,l[i]?=some x:=⟨l[i],by simp⟩
  have jT:l.drop i=nm::l.drop (i+1):=by
   rw[List.drop_eq_getElem_cons dP]
   grind
  rw[jT]at hsc
  have dq:(l.map Value.string)[i]?=some (.string nm):=by rw[List.getElem?_map,hx];rfl
  obtain⟨b,o,fX,eR⟩:=dt.some (by intro h;rw[h]at dq;simp at dq)
  simp only[Value.slice.injEq]at eR
  obtain⟨rfl,_,rfl⟩:=eR
  refine go ?_
  refine bM i 1 zr zr zr zr zr zr zr zr dP ?_
  refine aS ?_
  refine aP 0 (i*1) zr zr zr dt rfl (by rw[Nat.mul_one];exact dq) zr zr ?_
  refine go ?_
  refine aF (v8 kind nm hk) ?_
  cases hh:gk kind nm with
  | none =>
   have I0:∀e B',kV kind right (l.drop (i+1)) B e B'→ej kind right A e B':=fun e B' h=>hsc e B' (by unfold kV;rw[hh];exact h)
   simp only[wb]
   unfold dV
   refine go ?_
   refine aB zr zr zr bq ?_
   intro b9
   refine go ?_
   refine aK ih (i+1,B) rfl ⟨by simp only;omega,by simp only;omega,I0⟩ (by simp only;omega) bO ah
  | some d =>
   have Og:=hr B d
   simp only[wb]
   unfold dV
   refine go ?_
   refine aB zr zr zr bq ?_
   intro b9
   refine go ?_
   refine aV (U:=aY) (l:=dC d) 0 zr zr zr zr zr zr (go ?_)
   refine aR (ak.trans (ak.pick [2,3,4] rfl) (ak.bT [ag bs (cl (dR bd q mb brk) 209),aG bd B,X] _)) ?_
   refine il zr zr zr (by simp;rfl) Og ah ?_ iM
   rintro _ _⟨rfl,rfl⟩
   refine aR (ak.cL [ag bs (cl (dR bd q mb brk) 209),aG bd B,X] _) ?_
   cases hri:right B d with
   | true =>
    have I0:∀e B',kV kind right (l.drop (i+1)) B e B'→ej kind right A e B':=fun e B' h=>hsc e B' (by unfold kV;rw[hh];simp only;rw[if_pos hri];exact h)
    refine go ?_
    refine aK ih (i+1,B) rfl ⟨by simp only;omega,by simp only;omega,I0⟩ (by simp only;omega) bO ah
   | false =>
    have ac7:=zz bd B nm aj
    obtain⟨e1,B1,QB⟩:∃e1 B1,B.remove (isName nm) nm=(e1,B1):=⟨_,_,rfl⟩
    rw[QB]at ac7
    have hgr:=xW (A:=B) (B:=B1) (nm:=nm) (e:=e1) QB.symm
    have I0:∀e B',((e1≠0∧e=e1∧B'=B1)∨(e1=0∧kV kind right (l.drop (i+1)) B1 e B'))→ej kind right A e B':=fun e B' h=>hsc e B' (by unfold kV;rw[hh];simp only;rw[if_neg (by rw[hri];simp)];exact⟨e1,B1,QB.symm,h⟩)
    have Pr:=hgr.1
    refine go ?_
    refine aF ac7 ?_
    refine go ?_
    refine aD zr zr ?_ ?_
    ·intro gf
     have qe:e1≠0:=by simp only at gf;omega
     refine go ?_
     refine ai (H':=rR bs bd q mb brk X B1::F) (ak.trans (H2:=ag bs (cl (dR bd q mb brk) 209)::aG bd B1::X::F) ah (ak.bT [ag bs (cl (dR bd q mb brk) 209),aG bd B1,X] _)) ?_
     refine ad hE Tryz.func110 zr zr ⟨e1,B1,rfl,rfl,I0 e1 B1 (.inl ⟨qe,rfl,rfl⟩),aj⟩
    ·intro heq
     have Jc:e1=0:=by simp only at heq;omega
     refine go ?_
     refine aK ih (i+1,B1) rfl ⟨by simp only;omega,by simp only;omega,fun e B' h=>I0 e B' (.inr ⟨Jc,h⟩)⟩ (by simp only;omega) bO ah
 ·intro eN
  have tK:i=l.length:=by omega
  rw[tK,List.drop_length]at hsc
  refine go ?_
  refine ai (H':=rR bs bd q mb brk X B::F) (ak.trans (H2:=ag bs (cl (dR bd q mb brk) 209)::aG bd B::X::F) ah (ak.bT [ag bs (cl (dR bd q mb brk) 209),aG bd B,X] _)) ?_
  ((refine ad hE Tryz.func110 zr zr ⟨0,B,rfl,rfl,hsc 0 B (by unfold kV;exact⟨rfl,rfl⟩),aj⟩))
def Hr{P:Program}{f:FuncId}{args:List Value}{l:List HP}{p:Value→Prop}(h:aw P f args l (fun r H=>p r∧H=l)):aw P f args [Sep l] (fun r H=>p r∧H=[Sep l]) :=
 h.conv (by have:=ak.cL l [];rwa[List.append_nil]at this) (by intro v H hh;obtain⟨hp,hH⟩:=hh;exact⟨[Sep l],⟨hp,rfl⟩,by rw[hH];have:=ak.bT l [];rwa[List.append_nil]at this⟩)
def Ev(X:HP)(hK:lL X)(bs bd:Nat)(q:Int)(mb:Nat)(brk:Bool):AS 111 [ptr bs] (rR bs bd q mb brk X) jh:=fun A d=>Hr (p:=fun r=>r = .bool (jh A d)) (yp X hK bs bd q mb brk A d)
def xI(X:HP)(hK:lL X)(bs bd:Nat)(q:Int)(mb:Nat)(brk:Bool):AS 114 [ptr bs] (rR bs bd q mb brk X) eV:=fun A d=>Hr (p:=fun r=>r = .bool (eV A d)) (AE X hK bs bd q mb brk A d)
def Ew(Y:Ab→HP):AS 107 [] Y (fun _ _=>false):=fun A d=>by
 show aw Tryz.prog 107 [dV d] [Y A] _
 unfold dV
 refine aw.ao Tryz.func107 Tryz.ntmps107 fun G F R hE=>?_
 refine aN rfl ?_
 refine bC zr zr bq ?_
 intro b1
 refine go ?_
 refine ad hE Tryz.func107 zr zr ⟨rfl,rfl⟩
def LN(bs bd b6 b8:Nat)(q:Int)(mb:Nat)(X:HP)(A:Ab):HP:=Sep [rR bs bd q mb false X A,ag b6 (cl [ptr bs] 122),ag b8 (cl [.func (.func 107) #[] #[] ] 201)]
def Iy(X:HP)(hK:lL X)(bs bd b6 b8:Nat)(q:Int)(mb:Nat)(A:Ab)(dE:A.aI.length≤900000000):aw Tryz.prog 109 [ptr b6] [LN bs bd b6 b8 q mb X A]
  (fun r H=>∃(e:Nat) (B:Ab),r = .int .i64 (e:Int)∧H=[LN bs bd b6 b8 q mb X B]∧ej kB jh A e B∧B.aI.length≤A.aI.length+200):=by
 refine aw.ao Tryz.func109 Tryz.ntmps109 fun G F R hE=>?_
 refine ai (ak.cL [_,_,_] _) (go ?_)
 refine az (sl bs bd q mb false X kB (by decide) _ [ptr bs] jh (Ev X hK bs bd q mb false) A dE) ?_
 rintro _ _⟨e,B,rfl,rfl,h1,h2⟩
 refine go ?_
 refine ai (ak.bT [rR bs bd q mb false X B,_,_] _) ?_
 refine ad hE Tryz.func109 zr zr ⟨e,B,rfl,rfl,h1,h2⟩
def Ix(X:HP)(bs bd b6 b8:Nat)(q:Int)(mb:Nat)(A:Ab)(dE:A.aI.length≤900000000):aw Tryz.prog 112 [ptr b6,ptr b8] [LN bs bd b6 b8 q mb X A]
  (fun r H=>∃(e:Nat) (B:Ab),r = .int .i64 (e:Int)∧H=[LN bs bd b6 b8 q mb X B]∧ej kN (fun _ _=>false) A e B∧B.aI.length≤A.aI.length+200):=by
 refine aw.ao Tryz.func112 Tryz.ntmps112 fun G F R hE=>?_
 refine ai (ak.cL [_,_,_] _) (go ?_)
 refine az (sl bs bd q mb false X kN (by decide) _ [] (fun _ _=>false) (Ew _) A dE) ?_
 rintro _ _⟨e,B,rfl,rfl,h1,h2⟩
 refine go ?_
 refine ai (ak.bT [rR bs bd q mb false X B,_,_] _) ?_
 refine ad hE Tryz.func112 zr zr ⟨e,B,rfl,rfl,h1,h2⟩
def Iw(X:HP)(hK:lL X)(bs bd b6 b8:Nat)(q:Int)(mb:Nat)(A:Ab)(dE:A.aI.length≤900000000):aw Tryz.prog 113 [ptr b6] [LN bs bd b6 b8 q mb X A]
  (fun r H=>∃(e:Nat) (B:Ab),r = .int .i64 (e:Int)∧H=[LN bs bd b6 b8 q mb X B]∧ej kI eV A e B∧B.aI.length≤A.aI.length+200):=by
 refine aw.ao Tryz.func113 Tryz.ntmps113 fun G F R hE=>?_
 refine ai (ak.cL [_,_,_] _) (go ?_)
 refine az (sl bs bd q mb false X kI (by decide) _ [ptr bs] eV (xI X hK bs bd q mb false) A dE) ?_
 rintro _ _⟨e,B,rfl,rfl,h1,h2⟩
 refine go ?_
 refine ai (ak.bT [rR bs bd q mb false X B,_,_] _) ?_
 refine ad hE Tryz.func113 zr zr ⟨e,B,rfl,rfl,h1,h2⟩
def eB(l:List (Dg × Bl)):List (Dg × Value):=l.map fun x=>(x.1,l7 x.2)
theorem qT(A:Ab):(eQ A).length=A.names.length:=by unfold eQ gj;rw[List.length_map,si,List.length_map]
theorem JX(X:HP)(hK:lL X)(bd:Nat)(q:Int)(A:Ab)(dE:A.aI.length≤800000000):aw Tryz.prog 66 [ptr bd,.int .i64 q] [aG bd A,X]
  (fun r H=>((q<1∨1073741824<q)∧r = .tuple #[.pointer none,.int .i64 1]∧H=[aG bd A,X])∨(¬(q<1∨1073741824<q)∧A.off=true∧r = .tuple #[.pointer none,.int .i64 7]∧H=[aG bd A,X]) ∨
   (¬(q<1∨1073741824<q)∧A.off=false∧∃(e:Nat) (B:Ab),pU A e B∧((e≠0∧r = .tuple #[.pointer none,.int .i64 (e:Int)]∧H=[aG bd B,X]) ∨
    (e=0∧B.aI.length≤A.aI.length+601∧∃bs mb,r = .tuple #[ptr bs,.int .i64 0]∧H=[ag bs (cl (dR bd q mb false) 209),au dV mb (eB []),aG bd B,X])))):=by
 refine aw.ao Tryz.func66 Tryz.ntmps66 fun G F R hE=>?_
 refine rG (bd:=bd) (A:=A) 0 rfl ?_
 intro Fj
 repeat'(first|(with_reducible intro kQ)|refine eK ?_|refine ew zr zr zr zr ?_ ?_|refine aD zr zr ?_ ?_|(refine az (Ny bd A) ?_;rintro _ _⟨rfl,rfl⟩))
 ·refine ad hE Tryz.func66 zr zr (.inl ⟨.inl aj,rfl,rfl⟩)
 ·refine ad hE Tryz.func66 zr zr (.inl ⟨.inr aj,rfl,rfl⟩)
 have hq:¬(q<1∨1073741824<q):=by omega
 cases iS:A.off with
 | true =>
  refine go ?_
  refine ad hE Tryz.func66 zr zr (.inr (.inl ⟨hq,iS,rfl,rfl⟩))
 | false =>
  rw[iS]at hE
  refine go ?_
  refine dA rfl bq ?_
  intro mb
  refine aR (ak.fold (B:=[_]) (A:=au dV mb (eB [])) (fun h hs=>⟨h,sub.refl h,eX dV mb h (cT hs)⟩)) ?_
  refine go ?_
  refine bC zr zr bq ?_
  intro bs
  refine aB zr zr zr bq ?_
  intro b6
  refine go ?_
  refine az (oX bd A) ?_
  rintro r _ rfl
  refine aM 0 rfl ?_
  rintro ra rc rfl
  refine go ?_
  refine aB zr zr zr bq ?_
  intro b8
  refine go ?_
  refine aq (cs:=[.func (.func 109) #[] #[ptr b6],.func (.func 112) #[] #[ptr b6,ptr b8],.func (.func 113) #[] #[ptr b6] ]) zr zr zr zr zr zr zr zr zr bq ?_
  intro row
  refine aR (H':=ag row (cl [.func (.func 109) #[] #[ptr b6],.func (.func 112) #[] #[ptr b6,ptr b8],.func (.func 113) #[] #[ptr b6] ] 137)::LN bs bd b6 b8 q mb X A::au dV mb (eB [])::F) (ak.trans (H2:=ag bs (cl (dR bd q mb false) 209)::aG bd A::X::ag b6 (cl [ptr bs] 122)::ag b8 (cl [.func (.func 107) #[] #[] ] 201)::ag row (cl [.func (.func 109) #[] #[ptr b6],.func (.func 112) #[] #[ptr b6,ptr b8],.func (.func 113) #[] #[ptr b6] ] 137)::au dV mb (eB [])::F) ah (ak.trans (ak.bT [ag bs (cl (dR bd q mb false) 209),aG bd A,X] _) (ak.trans (ak.bT [rR bs bd q mb false X A,ag b6 (cl [ptr bs] 122),ag b8 (cl [.func (.func 107) #[] #[] ] 201)] _) ah))) ?_
  have Mn:∀(i:Nat) (fv:Value) (sp:Ab→Nat→Ab→Prop),[.func (.func 109) #[] #[ptr b6],.func (.func 112) #[] #[ptr b6,ptr b8],.func (.func 113) #[] #[ptr b6] ][i]?=some fv→[ej kB jh,ej kN (fun _ _=>false),ej kI eV][i]?=some sp→∃g fi cap,fv = .func (.func g) fi cap∧∀x:Ab,x.aI.length≤A.aI.length+200*i→aw Tryz.prog g (fi.toList++cap.toList) [LN bs bd b6 b8 q mb X x] (fun r H=>∃(e:Nat) (x':Ab),r = .int .i64 (e:Int)∧H=[LN bs bd b6 b8 q mb X x']∧sp x e x'∧(e=0→x'.aI.length≤A.aI.length+200*(i+1))):=by
   intro i fv sp hi hs
   match i,hi,hs with
   | 0,hi,hs =>
    cases hi;cases hs
    refine⟨_,_,_,rfl,fun x hx=>(Iy X hK bs bd b6 b8 q mb x aj).post ?_⟩
    grind
   | 1,hi,hs =>
    cases hi;cases hs
    refine⟨_,_,_,rfl,fun x hx=>(Ix X bs bd b6 b8 q mb x aj).post ?_⟩
    grind
   | 2,hi,hs =>
    cases hi;cases hs
    refine⟨_,_,_,rfl,fun x hx=>(Iw X hK bs bd b6 b8 q mb x aj).post ?_⟩
    grind
   | k+3,hi,hs=>simp at hi
  have eY:=De (LN bs bd b6 b8 q mb X) (ag row (cl [.func (.func 109) #[] #[ptr b6],.func (.func 112) #[] #[ptr b6,ptr b8],.func (.func 113) #[] #[ptr b6] ] 137)) (.slice (some ⟨row,0,none⟩) 3 3) [.func (.func 109) #[] #[ptr b6],.func (.func 112) #[] #[ptr b6,ptr b8],.func (.func 113) #[] #[ptr b6] ] (Vw.ag rfl) (by show 3≤_;omega) [ej kB jh,ej kN (fun _ _=>false),ej kI eV] rfl (fun i x=>x.aI.length≤A.aI.length+200*i) Mn A (by simp)
  refine az eY ?_
  rintro _ _⟨e,B,rfl,rfl,pQ,hb⟩
  refine aR (H':=ag bs (cl (dR bd q mb false) 209)::aG bd B::X::ag b6 (cl [ptr bs] 122)::au dV mb (eB [])::F) (ak.trans (H2:=LN bs bd b6 b8 q mb X B::au dV mb (eB [])::F) ah (ak.trans (ak.cL [rR bs bd q mb false X B,ag b6 (cl [ptr bs] 122),ag b8 (cl [.func (.func 107) #[] #[] ] 201)] _) (ak.trans (ak.cL [ag bs (cl (dR bd q mb false) 209),aG bd B,X] _) ah))) ?_
  by_cases he:e=0
  ·subst he
   have Jh:=hb rfl
   simp only[List.length_cons,List.length_nil]at Jh
   refine go ?_
   refine az (oX bd B) ?_
   rintro r2 _ rfl
   refine aM 0 rfl ?_
   rintro ra2 rc2 rfl
   refine go ?_
   refine aD zr zr ?_ ?_
   ·intro cB
    have ui:B.names.length<A.names.length:=by
     grind [qT]
    have hsn:=nF bd B
    obtain⟨e2,B2,hse⟩:∃e2 B2,B.cq=(e2,B2):=⟨_,_,rfl⟩
    rw[hse]at hsn
    have kK:pU A e2 B2:=⟨0,B,pQ,by rw[if_pos ⟨rfl,ui⟩];exact hse.symm⟩
    refine go ?_
    refine aF hsn ?_
    refine go ?_
    refine aD zr zr ?_ ?_
    ·intro gf
     have qe:e2≠0:=by simp only at gf;omega
     refine go ?_
     refine ad hE Tryz.func66 zr zr (.inr (.inr ⟨hq,rfl,e2,B2,kK,.inl ⟨qe,rfl,rfl⟩⟩))
    ·intro heq
     have Jc:e2=0:=by simp only at heq;omega
     subst Jc
     have hg:B2.aI.length≤B.aI.length+1:=by
      have h1:B2=B.cq.2:=by rw[hse]
      rw[h1]
      exact(iT B).1
     refine go ?_
     refine ai (H':=ag bs (cl (dR bd q mb false) 209)::au dV mb (eB [])::aG bd B2::X::F) ah ?_
     refine ad hE Tryz.func66 zr zr (.inr (.inr ⟨hq,rfl,0,B2,kK,.inr ⟨rfl,aj,bs,mb,rfl,rfl⟩⟩))
   ·intro eN
    have ui:¬B.names.length<A.names.length:=by
     grind [qT]
    have kK:pU A 0 B:=⟨0,B,pQ,by rw[if_neg aj];exact⟨rfl,rfl⟩⟩
    refine go ?_
    refine ai (H':=ag bs (cl (dR bd q mb false) 209)::au dV mb (eB [])::aG bd B::X::F) ah ?_
    refine ad hE Tryz.func66 zr zr (.inr (.inr ⟨hq,rfl,0,B,kK,.inr ⟨rfl,aj,bs,mb,rfl,rfl⟩⟩))
  ·have kK:pU A e B:=⟨e,B,pQ,by rw[if_neg aj];exact⟨rfl,rfl⟩⟩
   refine go ?_
   have hd:decide ((e:Int)=0)=false:=by simp;exact he
   rw[hd]
   refine go ?_
   refine aD zr zr ?_ ?_
   ·intro _
    refine go ?_
    refine ai (H':=aG bd B::X::F) ah ?_
    refine ad hE Tryz.func66 zr zr (.inr (.inr ⟨hq,rfl,e,B,kK,.inl ⟨he,rfl,rfl⟩⟩))
   ·intro h0
    exact absurd (by omega:e=0) he
end Go.Proofs.YtjpboghdolfekaaGreatDoor
namespace Go.Proofs.YtjpboghdolfekaaGreatDoor
open Go Go.SL
attribute [local irreducible] J K aw Ends ag aH au bE aW
section
variable{P:Program}{U:Tr}[hU:eO P U]{f:FuncId}{n:Nat}{R:Ending→World→Prop}{G:cg}{k:List Item}{L:eC}{H H':List HP}{all:Array Oper}{rest:Pl}{ty:TypeId}{pos:String}{af:Array Edge}{gd:Option (Nat × Bool)}{d:Tmp}
theorem cE{Hs:List HP}{t:TypeId}{x:Operand}{b off:Nat}{bL:Ty}{l:List Value}{e:TypeId}{cs:List Value}(i:Nat)(hd:Nat.blt d n=true)(hx:ev L x=some (.pointer (some ⟨b,off,none⟩)))(hi:bU Hs i=some (ag b (cl l e)))(ht:U.get t=some bL)(hg:bL.isAgg=true)(hv:qE l off bL.info.size [] = .mk cs)(h:J P f n R G (fun w=>Sat G w Hs) all rest k ((d,.agg cs.toArray)::L) H):J P f n R G (fun w=>Sat G w Hs) all (.cons true true ⟨some d,.load t x,ty,pos,af,gd⟩ rest) k L H :=
 jZ hd (fun a w ha hw=>by
  obtain⟨h1,h2⟩:=BA _ _ _ _ _ hv
  simp only[List.reverse_nil,List.nil_append]at h1
  have hc:∀j v,cs[j]?=some v→w.cell? ⟨b,off+j,none⟩=some v:=fun j v hj=>by
   grind [cZ,Sat.rf]
  have:=gr (P:=P) ht hg (by rw[h1];simp;omega) hc
  simp[execOp,ha.ev hx,this]) h
end
end Go.Proofs.YtjpboghdolfekaaGreatDoor
namespace Go.Proofs.YtjpboghdolfekaaGreatDoor
open Go Go.SL
attribute [local irreducible] J K aw Ends ag aH au bE aW aJ a6 aZ bI Sha.chunks Sha.chunk Sha.rounds Sha.sched ff cI GI fA aG
section
variable{P:Program}{U:Tr}[hU:eO P U]{f:FuncId}{n:Nat}{R:Ending→World→Prop}{G:cg}{k:List Item}{L:eC}{H H':List HP}{all:Array Oper}{rest:Pl}{ty:TypeId}{pos:String}{af:Array Edge}{gd:Option (Nat × Bool)}{d:Tmp}
end
def Qi(bs bd:Nat)(q:Int)(mb:Nat)(brk:Bool)(A:Ab)(d:Dg):aw Tryz.prog 150 [ptr bs,dV d] [ag bs (cl (dR bd q mb brk) 209),aG bd A]
  (fun r H=>r = .bool (qg A (eZ kB d))∧H=[ag bs (cl (dR bd q mb brk) 209),aG bd A]):=by
 have hf:=oR kB d (by decide)
 unfold dV at hf ⊢
 refine aw.ao Tryz.func150 Tryz.ntmps150 fun G F R hE=>?_
 refine aN rfl ?_
 refine bC zr zr bq ?_
 intro b3
 refine go ?_
 refine aV (U:=aY) (l:=dC d) 0 zr zr zr zr zr zr ?_
 refine aF hf ?_
 refine aF (Me bs bd q mb brk A (eZ kB d)) ?_
 refine go ?_
 refine ad hE Tryz.func150 zr zr ⟨rfl,rfl⟩
def vv(l:List (Dg × Bl))(x:Bl):Bool:=decide (AJ l x.d=some x)
theorem sP(l:List (Dg × Bl))(d:Dg):cF (eB l) d=(AJ l d).map l7:=by
 unfold eB AJ cF
 induction l with
 | nil=>rfl
 | cons y l ih =>
  grind
def LM(bs bd:Nat)(q:Int)(mb:Nat)(brk:Bool)(l:List (Dg × Bl))(x:Bl):aw Tryz.prog 322 [ptr bs,l7 x] [ag bs (cl (dR bd q mb brk) 209),au dV mb (eB l)]
  (fun r H=>r = .bool (vv l x)∧H=[ag bs (cl (dR bd q mb brk) 209),au dV mb (eB l)]):=by
 unfold l7
 refine aw.ao Tryz.func322 Tryz.ntmps322 fun G F R hE=>?_
 refine aN rfl ?_
 refine bC zr zr bq ?_
 intro b3
 refine go ?_
 refine aO (fun w=>Sat G w ([ag b3 (cl (dN x) 182),ag bs (cl (dR bd q mb brk) 209),au dV mb (eB l)])) (cM 0 10 (.act 10 (.act 11 (.st 12 .nil)))) rfl ae ae ae dv ?_
 refine go ?_
 refine cE (U:=aY) 0 zr zr zr zr zr zr (go ?_)
 refine hX (es:=eB l) (key:=x.d) rfl Ko zr zr zr zr zr zr zr (fun w hw=>hw.jt (i:=2) rfl) ?_
 rw[sP]
 cases hb:AJ l x.d with
 | none =>
  simp only[Option.map_none,Option.getD_none,Option.isSome_none]
  refine go ?_
  refine aB zr zr zr (fun _ w hw=>hw.cp ah) ?_
  intro b5
  refine go ?_
  (refine aX ?_;(refine bG 0 dv zr zr zr zr zr zr zr zr zr ?_))
  refine go ?_
  have hw:vv l x=false:=by unfold vv;rw[hb];rfl
  rw[hw]at hE
  refine ad hE Tryz.func322 zr zr ⟨rfl,rfl⟩
 | some y =>
  simp only[Option.map_some,Option.getD_some,Option.isSome_some]
  unfold l7
  refine go ?_
  refine aB zr zr zr (fun _ w hw=>hw.cp ah) ?_
  intro b5
  refine go ?_
  (refine aX ?_;(refine bG 0 dv zr zr zr zr zr zr zr zr zr ?_))
  refine go ?_
  have hw:vv l x=decide (x=y):=by unfold vv;rw[hb];simp only[Option.some.injEq];rw[decide_eq_decide];exact eq_comm
  rw[hw]at hE
  (repeat(first|refine eK ?_|refine aV (U:=aY) (l:=dN x) 1 zr zr zr zr zr zr ?_|refine aV (U:=aY) (l:=dN y) 0 zr zr zr zr zr zr ?_|refine nM (b:=decide (x=y)) zr zr zr afC (fun w=>afD x y w) ?_))
  refine ad hE Tryz.func322 zr zr ⟨rfl,rfl⟩
def C9(bs bd:Nat)(q:Int)(mb:Nat)(brk:Bool)(Y:HP)(V:HP)(v:Value)(nT:List Value)(hv:Vw V v nT.length nT)(hn:nT.length≤1000000000)(ss:List FV)(hlen:ss.length=nT.length)(Q:Nat→Ab→Prop)(dE:∀(i:Nat) (fv:Value) (s:FV),nT[i]?=some fv→ss[i]?=some s→∃g fi cap,fv = .func (.func g) fi cap∧∀x,Q i x→aw Tryz.prog g (fi.toList++cap.toList) [rR bs bd q mb brk Y x] (fun r H=>∃(e:Nat) (x':Ab),r = .int .i64 (e:Int)∧H=[rR bs bd q mb brk Y x']∧s x e x'∧(e=0→Q (i+1) x')))(A:Ab)(hQ:Q 0 A) :
  aw Tryz.prog 173 [ptr bs,v] [V,rR bs bd q mb brk Y A]
   (fun r H=>∃(e:Nat) (B:Ab),r = .int .i64 (e:Int)∧H=[V,rR bs bd q mb (brk || decide (e≠0)) Y B]∧sT ss A e B∧(e=0→Q nT.length B)):=by
 have eY:=De (rR bs bd q mb brk Y) V v nT hv hn ss hlen Q dE A hQ
 obtain⟨a,c,rfl⟩:=hv.shape
 refine aw.ao Tryz.func173 Tryz.ntmps173 fun G F R hE=>?_
 refine go ?_
 refine az eY ?_
 rintro _ _⟨e,B,rfl,rfl,pQ,hb⟩
 refine aR (ak.trans (ak.pick [1] rfl) (ak.cL [ag bs (cl (dR bd q mb brk) 209),aG bd B,Y] _)) ?_
 have jF:ak (ag bs (cl (dR bd q mb (brk || decide (e≠0))) 209)::aG bd B::Y::V::F) (V::rR bs bd q mb (brk || decide (e≠0)) Y B::F) :=
  ak.trans (ak.bT [ag bs (cl (dR bd q mb (brk || decide (e≠0))) 209),aG bd B,Y] _) ah
 cases brk with
 | true =>
  refine go ?_
  refine ai (ak.trans ah jF) ?_
  refine ad hE Tryz.func173 zr zr ⟨e,B,rfl,rfl,pQ,hb⟩
 | false =>
  refine go ?_
  have hbe:decide ((e:Int)≠0)=(false || decide (e≠0)):=by by_cases h:e=0 <;> simp[h]
  rw[hbe]
  refine ai (ak.trans ah jF) ?_
  refine ad hE Tryz.func173 zr zr ⟨e,B,rfl,rfl,pQ,hb⟩
end Go.Proofs.YtjpboghdolfekaaGreatDoor
namespace Go.Proofs.YtjpboghdolfekaaGreatDoor
open Go Go.SL
def FC{P:Program}{f:FuncId}{args:List Value}{Pre:List HP}{Post:Value→List HP→Prop}(X:List HP)(c:aw P f args Pre Post):aw P f args (Pre++X) (fun v H=>∃H',Post v H'∧H=H'++X) :=
 ⟨c.1,fun G w F hw=>(c.2 G w (X++F) (by rw[List.append_assoc]at hw;exact hw)).mono fun e w' h'=>let ⟨v,H,he,Pc,hs⟩:=h';⟨v,H++X,he,⟨H,Pc,rfl⟩,by rw[List.append_assoc];exact hs⟩⟩
attribute [local irreducible] J K aw Ends ag aH au bE aW aJ a6 aZ bI Sha.chunks Sha.chunk Sha.rounds Sha.sched ff cI GI fA aG
def zN(bs bd:Nat)(q:Int)(mb:Nat)(brk:Bool)(Xs:List HP)(A:Ab)(F:List HP):ak (rR bs bd q mb brk (Sep Xs) A::F) (ag bs (cl (dR bd q mb brk) 209)::aG bd A::(Xs++F)) :=
 ak.trans (ak.cL [ag bs (cl (dR bd q mb brk) 209),aG bd A,Sep Xs] F) (ak.cons _ (ak.cons _ (ak.cL Xs F)))
def KX(bs bd:Nat)(q:Int)(mb:Nat)(brk:Bool)(Xs:List HP)(A:Ab)(F:List HP):ak (ag bs (cl (dR bd q mb brk) 209)::aG bd A::(Xs++F)) (rR bs bd q mb brk (Sep Xs) A::F) :=
 ak.trans (ak.cons _ (ak.cons _ (ak.bT Xs F))) (ak.bT [ag bs (cl (dR bd q mb brk) 209),aG bd A,Sep Xs] F)
def Ho{f:FuncId}{args:List Value}{bs bd:Nat}{q:Int}{mb:Nat}{brk:Bool}{Xs:List HP}{A:Ab}{p:Nat→Ab→Prop}(h:aw Tryz.prog f args (ag bs (cl (dR bd q mb brk) 209)::aG bd A::Xs) (fun r H=>∃(e:Nat) (B:Ab),r = .int .i64 (e:Int)∧H=ag bs (cl (dR bd q mb brk) 209)::aG bd B::Xs∧p e B)) :
  aw Tryz.prog f args [rR bs bd q mb brk (Sep Xs) A] (fun r H=>∃(e:Nat) (B:Ab),r = .int .i64 (e:Int)∧H=[rR bs bd q mb brk (Sep Xs) B]∧p e B) :=
 h.conv (by have:=zN bs bd q mb brk Xs A [];rwa[List.append_nil]at this) (by
  rintro v H⟨e,B,rfl,rfl,hp⟩
  exact⟨_,⟨e,B,rfl,rfl,hp⟩,by have:=KX bs bd q mb brk Xs B [];rwa[List.append_nil]at this⟩)
def aaL(x:Bl):aw Tryz.prog 176 [.string (strOf kS),.agg (dC x.d).toArray] [] (fun r H=>r = .string (fS x)∧H=[]):=by
 have:=oR kS x.d (by decide)
 unfold dV at this
 exact this
def FM(bs bd b2 b7:Nat)(q:Int)(mb:Nat)(brk:Bool)(n:ByteArray)(A:Ab)(dE:A.aI.length≤1000000000) :
  aw Tryz.prog 202 [ptr b2,ptr b7] (ag bs (cl (dR bd q mb brk) 209)::aG bd A::[ag b2 (cl [ptr bs] 122),ag b7 (cl [.string n] 9)])
   (fun r H=>∃(e:Nat) (B:Ab),r = .int .i64 (e:Int)∧H=ag bs (cl (dR bd q mb brk) 209)::aG bd B::[ag b2 (cl [ptr bs] 122),ag b7 (cl [.string n] 9)]∧gq n A e B):=by
 refine aw.ao Tryz.func202 Tryz.ntmps202 fun G F R hE=>?_
 refine go ?_
 refine aO (fun w=>Sat G w ([ag bs (cl (dR bd q mb brk) 209),ag b2 (cl [ptr bs] 122),ag b7 (cl [.string n] 9)])) (cM 0 5 (.act 5 (.st 6 .nil))) rfl ae ae ae dv ?_
 refine go ?_
 refine cP (sW bd A n dE) ?_
 rintro _ _⟨f,hf,rfl,rfl⟩
 refine go ?_
 refine ad hE Tryz.func202 zr zr ⟨_,_,rfl,rfl,⟨f,hf,rfl⟩⟩
def OS(bs bd:Nat)(q:Int)(mb:Nat)(brk:Bool)(Xs:List HP)(A:Ab):aw Tryz.prog 115 [ptr bd] [rR bs bd q mb brk (Sep Xs) A]
  (fun r H=>∃(e:Nat) (B:Ab),r = .int .i64 (e:Int)∧H=[rR bs bd q mb brk (Sep Xs) B]∧dO A e B) :=
 Ho ((FC (ag bs (cl (dR bd q mb brk) 209)::Xs) (nF bd A)).conv (ak.perm (List.Perm.swap ..)) (by
  rintro v H⟨H1,⟨rfl,rfl⟩,rfl⟩
  exact⟨_,⟨_,_,rfl,rfl,rfl⟩,ak.perm (List.Perm.swap ..)⟩))
def p5(bs bd:Nat)(q:Int)(mb:Nat)(s:nV):List HP:=[ag bs (cl (dR bd q mb s.brk) 209),au dV mb (eB s.cy),aG bd s.A]
def GQ(A:Ab)(i:Nat)(x:Ab):Prop:=x.aI.length≤A.aI.length+i∧x.writes.length≤A.writes.length+i
def GQ.zero(A:Ab):GQ A 0 A:=⟨Nat.le_refl _,Nat.le_refl _⟩
def GQ.next{A x y:Ab}{i:Nat}(h:GQ A i x)(g:kY x y):GQ A (i+1) y:=⟨by have:=h.1;have:=g.1;omega,by have:=h.2;have:=g.2;omega⟩
def mB{A B:Ab}{e:Nat}(h:dO A e B):kY A B:=by
 have:=iT A
 rw[← h]at this
 exact this
theorem pS{A B:Ab}{nm:ByteArray}{e:Nat}(h:gq nm A e B):kY A B:=by
 obtain⟨f,_,h⟩:=h
 grind [oO,isName]
def mu(A:Ab)(nm:ByteArray):Nat:=if(gk kB nm).isSome then(A.size nm).1 else 0
theorem zM{α:Type}{l m:List α}(h:l.Perm m)(f:α→Nat):(l.map f).sum=(m.map f).sum:=by
 grind
theorem eu{A:Ab}(h:(A.names.map (·.1)).Nodup){x:ByteArray × Nat}(hx:x∈A.names):A.look x.1=some x.2:=by
 have key:∀(l:List (ByteArray × Nat)),(l.map (·.1)).Nodup→x∈l→(l.find? (fun y=>decide (y.1=x.1))).map (·.2)=some x.2:=by
  intro l
  induction l with
  | nil=>intro _ h;cases h
  | cons y l ih =>
   grind
 exact key A.names h hx
theorem tx(A:Ab):(eQ A).Perm (A.names.map (·.1)):=by
 unfold eQ gj
 have h:=(lj (A.names.map (·.1))).map strOf
 rw[List.map_map]at h
 have h2:(A.names.map (·.1)).map (strOf ∘ fun b=>b.data.toList)=A.names.map (·.1):=by
  rw[List.map_map]
  refine List.map_congr_left fun x _=>?_
  exact uY x.1
 grind
def uQ{A:Ab}(h:(A.names.map (·.1)).Nodup):KK A=((eQ A).map (mu A)).sum:=by
 rw[zM (tx A),List.map_map]
 unfold KK
 congr 1
 refine List.map_congr_left fun x hx=>?_
 have hl:=eu h hx
 simp only[Function.comp,mu,Ab.size,hl]
def Ae{A:Ab}(h:HN A)(nm:ByteArray):mu A nm≤1048576:=by
 unfold mu Ab.size
 split
 ·cases A.look nm with
  | none=>simp
  | some f=>exact h.now f
 ·omega
def sg{α:Type}(l:List α)(f:α→Nat)(m:Nat)(h:∀x∈l,f x≤m):(l.map f).sum≤l.length*m:=by
 induction l with
 | nil=>simp
 | cons x l ih =>
  have h1:=h x (List.mem_cons_self ..)
  have h2:=ih (fun y hy=>h y (List.mem_cons_of_mem _ hy))
  simp only[List.map_cons,List.sum_cons,List.length_cons,Nat.add_mul,Nat.one_mul]
  omega
def mw(cy:List (Dg × Bl))(dn:List Dg):Int:=((cy.filter fun x=>decide (x.1∈dn)).map (·.2.size)).sum
def LU(cy:List (Dg × Bl)):mw cy []=0:=by unfold mw;rw[List.filter_eq_nil_iff.2 (by simp)];rfl
def Ch(cy:List (Dg × Bl))(dn:List Dg)(h:∀x∈cy,x.1∈dn):mw cy dn=(cy.map (·.2.size)).sum:=by
 unfold mw
 rw[List.filter_eq_self.2 (fun x hx=>decide_eq_true (h x hx))]
theorem IG(cy:List (Dg × Bl))(key:Dg)(dn:List Dg)(h:key ∉ cy.map (·.1)):mw cy (key::dn)=mw cy dn:=by
 unfold mw
 congr 2
 refine List.filter_congr fun x hx=>?_
 grind
theorem IH(cy:List (Dg × Bl))(key:Dg)(y:Bl)(dn:List Dg)(hn:(cy.map (·.1)).Nodup)(hm:(key,y)∈cy)(hd:key ∉ dn):mw cy (key::dn)=mw cy dn+y.size:=by
 induction cy with
 | nil=>cases hm
 | cons x l ih =>
  grind [IG,mw]
theorem GO(cy:List (Dg × Bl))(dn:List Dg)(h:∀x∈cy,0≤x.2.size∧x.2.size≤1048576):0≤mw cy dn∧mw cy dn≤cy.length*1048576:=by
 unfold mw
 induction cy with
 | nil=>simp
 | cons x l ih =>
  obtain⟨h1,h2⟩:=h x (List.mem_cons_self ..)
  obtain⟨h3,h4⟩:=ih (fun y hy=>h y (List.mem_cons_of_mem _ hy))
  grind
def tW(cy:List (Dg × Bl)):Prop:=(∀x∈cy,0≤x.2.size∧x.2.size≤1048576)∧cy.length≤1000000
theorem P8(bs bd:Nat)(q:Int)(mb:Nat)(s:nV)(hb:tW s.cy):aw Tryz.prog 200 [ptr bs] (p5 bs bd q mb s)
  (fun r H=>r = .int .i64 (pK s)∧H=p5 bs bd q mb s):=by
 obtain⟨A,cy,brk⟩:=s
 obtain⟨pH,pR⟩:=hb
 simp only at pH pR
 refine aw.ao Tryz.func200 Tryz.ntmps200 fun G F R hE=>?_
 refine ai (H':=ag bs (cl (dR bd q mb brk) 209)::aG bd A::au dV mb (eB cy)::F) ah ?_
 refine rG (bd:=bd) (A:=A) 1 rfl ?_
 intro Fj
 have CB:=nh Fj
 have Oe:pK ⟨A,cy,brk⟩=((eQ A).map (mu A)).sum+(cy.map (·.2.size)).sum:=by
  unfold pK
  rw[uQ (Fj.nodup _ (List.mem_cons_self ..))]
 obtain⟨l,hl⟩:∃l,l=eQ A:=⟨_,rfl⟩
 rw[← hl]at Oe CB
 rw[Oe]at hE
 have hle:∀i,((l.take i).map (mu A)).sum≤209715200:=fun i=>by
  have h1:=sg (l.take i) (mu A) 1048576 (fun x _=>Ae Fj x)
  grind
 refine go ?_
 have nR:=oX bd A
 rw[← hl]at nR
 refine az nR ?_
 rintro r _ rfl
 refine aM 0 rfl ?_
 rintro ra rc rfl
 refine eL 0 rfl ?_
 intro dt
 refine go ?_
 refine bj (fun i:Nat=>i≤l.length) (fun i=>l.length-i)
  (fun i=>[(0,ptr bs),(3,.int .i64 (((l.take i).map (mu A)).sum:Nat)),(16,.slice ra l.length rc),(17,.int .i64 (l.length:Int)),(18,.int .i64 (i:Int))])
  (fun i=>aH 9 1 (.slice ra l.length rc) l.length (l.map Value.string)::ag bs (cl (dR bd q mb brk) 209)::aG bd A::au dV mb (eB cy)::F) 0 (Nat.zero_le _) rfl bO ah ?_
 rintro i hi ih
 have hli:=hle i
 refine go ?_
 refine aD zr zr ?_ ?_
 ·intro cB
  have dP:i<l.length:=by omega
  obtain⟨nm,hx⟩:∃x,l[i]?=some x:=⟨l[i],by simp⟩
  have nQ:((l.take (i+1)).map (mu A)).sum=((l.take i).map (mu A)).sum+mu A nm:=by
   rw[List.take_add_one,hx];simp
  have dq:(l.map Value.string)[i]?=some (.string nm):=by rw[List.getElem?_map,hx];rfl
  have gA:=Ae Fj nm
  obtain⟨b,o,fX,eR⟩:=dt.some (by intro h;rw[h]at dq;simp at dq)
  simp only[Value.slice.injEq]at eR
  obtain⟨rfl,_,rfl⟩:=eR
  refine go ?_
  refine bM i 1 zr zr zr zr zr zr zr zr dP ?_
  refine aS ?_
  refine aP 0 (i*1) zr zr zr dt rfl (by rw[Nat.mul_one];exact dq) zr zr ?_
  refine go ?_
  refine aF (v8 kB nm (by decide)) ?_
  cases hh:gk kB nm with
  | none =>
   have hz:mu A nm=0:=by unfold mu;rw[hh];rfl
   have aac:((l.take i).map (mu A)).sum=((l.take (i+1)).map (mu A)).sum:=by omega
   simp only[wb]
   unfold dV
   refine go ?_
   refine aB zr zr zr bq ?_
   intro b9
   refine go ?_
   rw[aac]
   refine aK ih (i+1) rfl aj aj bO ah
  | some d =>
   have hz:mu A nm=(A.size nm).1:=by unfold mu;rw[hh];rfl
   rw[hz]at nQ gA
   simp only[wb]
   unfold dV
   refine go ?_
   refine aB zr zr zr bq ?_
   intro b9
   refine go ?_
   refine aF (rA bd A nm) ?_
   refine go ?_
   refine aQ 3 (.int .i64 (((l.take (i+1)).map (mu A)).sum:Nat)) rfl (congrArg (Value.int .i64) (by rw[nQ];omega)) ?_
   refine aK ih (i+1) rfl aj aj bO ah
 ·intro eN
  have tK:i=l.length:=by omega
  subst tK
  rw[List.take_length]
  obtain⟨n0,hn0⟩:∃n0,n0=(l.map (mu A)).sum:=⟨_,rfl⟩
  rw[List.take_length]at hli
  rw[← hn0]at hli hE ⊢
  refine oZ fun⟨w,hw⟩=>?_
  have iJ:(cy.map (·.1)).Nodup:=by
   obtain⟨h1,hA⟩:=Aw hw (i:=3) rfl
   have:=E1 hA
   grind [eB]
  clear hw w
  refine go ?_
  refine j0 (kv:=dV) (es:=eB cy) (U:=aY) 3 zr zr zr zr zr (fun _=>rfl) bq ?_
  intro it
  refine go ?_
  have CF:(eB cy).map (·.1)=cy.map (·.1):=by unfold eB;rw[List.map_map];rfl
  have js:∀dn,0≤mw cy dn∧mw cy dn≤1048576000000:=fun dn=>by
   have:=GO cy dn pH
   omega
  have h00:(n0:Int)=(n0:Int)+mw cy []:=by rw[LU];omega
  refine aQ 3 (.int .i64 ((n0:Int)+mw cy [])) rfl (congrArg (Value.int .i64) h00) ?_
  refine bj (fun s:List Dg=>s.Nodup∧∀x∈s,x∈cy.map (·.1)) (fun s=>cy.length-s.length) (fun s=>[(0,ptr bs),(3,.int .i64 ((n0:Int)+mw cy s)),(45,.pointer (some ⟨it,0,none⟩))])
   (fun s=>bE dV mb it (eB cy) s::ag bs (cl (dR bd q mb brk) 209)::aG bd A::F) [] ⟨List.nodup_nil,by simp⟩ rfl bO ah ?_
  clear ih
  rintro dn⟨nx,cH⟩ ih
  have hsd:=js dn
  refine go ?_
  refine nI (kv:=dV) (es:=eB cy) 0 rfl Ko.inj zr zr (fun _=>rfl) fE bq ?_ ?_
  ·intro eY
   have hme:mw cy dn=(cy.map (·.2.size)).sum:=Ch cy dn (fun x hx=>eY (x.1,l7 x.2) (List.mem_map.2 ⟨x,hx,rfl⟩))
   rw[hme]
   refine go ?_
   refine ai (ak.head (B:=[au dV mb (eB cy)]) (fun h hs=>by obtain⟨h',s,hm⟩:=gM h hs;exact⟨h',s,di hm⟩)) ?_
   refine ai (H':=p5 bs bd q mb ⟨A,cy,brk⟩++F) ah ?_
   refine ad hE Tryz.func200 zr zr ⟨rfl,rfl⟩
  ·intro key v dU k8
   obtain⟨y,hy,Z6⟩:∃y,(key,y)∈cy∧v=l7 y:=by
    obtain⟨z,hz,he⟩:=List.mem_map.1 dU
    cases he
    grind
   subst Z6
   have hms:=IH cy key y dn iJ hy k8
   have af6:=js (key::dn)
   have hk:key∈cy.map (·.1):=List.mem_map.2 ⟨_,hy,rfl⟩
   have cB:dn.length<cy.length:=by
    have h1:(key::dn).length≤(cy.map (·.1)).length:=(List.nodup_cons.2 ⟨k8,nx⟩).length_le_of_subset (fun x hx=>by rcases List.mem_cons.1 hx with rfl|h;exact hk;exact cH x h)
    grind
   refine go ?_
   refine lN (kv:=dV) (es:=eB cy) 0 rfl Ko.inj zr zr dU ?_
   unfold l7
   refine go ?_
   refine aB zr zr zr bq ?_
   intro b11
   refine go ?_
   refine aQ 3 (.int .i64 ((n0:Int)+mw cy (key::dn))) rfl (congrArg (Value.int .i64) (by rw[hms];omega)) ?_
   refine aK ih (key::dn) rfl (⟨List.nodup_cons.2 ⟨k8,nx⟩,fun x hx=>by rcases List.mem_cons.1 hx with rfl|h;exact hk;exact cH x h⟩) (by show _-(key::dn).length<_;simp only[List.length_cons];omega) bO ah
end Go.Proofs.YtjpboghdolfekaaGreatDoor
namespace Go.Proofs.YtjpboghdolfekaaGreatDoor
open Go Go.SL
structure HA(A:Ab):Prop where
 cu:A.cu=[]
 on:A.off=false
 keys:(A.names.map (·.1)).Nodup
 own:(A.names.map (·.2)).Nodup
 ids:(A.fs.map (·.1)).Nodup
 known:∀x∈A.names,x.2∈A.fs.map (·.1)
def vw(A:Ab)(nm:ByteArray):Option (List UInt8):=(A.look nm).map A.now
def HA.new(room:Nat):HA (Ab.new room):=⟨rfl,rfl,List.nodup_nil,List.nodup_nil,List.nodup_nil,fun _ h=>by cases h⟩
def HA.meet{A:Ab}(h:HA A):A.meet true=(0,A):=by unfold Ab.meet;rw[if_neg (by simp),if_neg (by rw[h.on];simp),h.cu]
theorem HA.find{A:Ab}(h:HA A)(nm:ByteArray):A.find nm true=match A.look nm with|none=>(4,none,A)|some f=>(0,some f,A):=by
 unfold Ab.find
 rw[h.meet,if_pos rfl]
 grind
theorem gz{A:Ab}{nm:ByteArray}{f:Nat}(h:A.look nm=some f):(nm,f)∈A.names:=by
 unfold Ab.look Ab.cK at h
 cases hx:A.names.find? (fun x=>decide (x.1=nm))with
 | none=>rw[hx]at h;cases h
 | some x =>
  grind
theorem HA.ZU{A:Ab}(h:HA A){a b:ByteArray}{f:Nat}(ha:A.look a=some f)(hb:A.look b=some f):a=b:=by
 have h1:=gz ha
 have h2:=gz hb
 have hn:=h.own
 have key:∀l:List (ByteArray × Nat),(l.map (·.2)).Nodup→(a,f)∈l→(b,f)∈l→a=b:=by
  intro l
  induction l with
  | nil=>intro _ h;cases h
  | cons y l ih =>
   grind
 grind
theorem Co(l:List (ByteArray × Nat))(k nm:ByteArray)(f:Nat)(hk:Ab.cK l k=none):Ab.cK (l++[(k,f)]) nm=if nm=k then some f else Ab.cK l nm:=by
 unfold Ab.cK at hk ⊢
 grind
theorem GN{A:Ab}{f g:Nat}(names:List (ByteArray × Nat))(aI:List (List (ByteArray × Nat))):({ A with names:=names,aI:=aI,fs:=(f,[],[])::A.fs }:Ab).now g=if f=g then []else A.now g:=by
 unfold Ab.now Ab.file
 grind
theorem HA.create{A:Ab}(h:HA A){nm:ByteArray}{f:Nat}(hv:vw A nm=none)(hl:A.names.length<200)(hf:f ∉ A.fs.map (·.1)){e:Nat}{B:Ab}(hB:(e,B)=A.create true nm f) :
  e=0∧HA B∧(∀n,vw B n=if n=nm then some []else vw A n)∧B.names.length=A.names.length+1∧B.room=A.room:=by
 have CE:A.look nm=none:=by
  unfold vw at hv
  cases hx:A.look nm with
  | none=>rfl
  | some x=>rw[hx]at hv;cases hv
 have hc:A.create true nm f=(0,{ A.nU (A.names++[(nm,f)])with fs:=(f,[],[])::A.fs }):=by
  unfold Ab.create
  rw[h.meet,if_pos rfl]
  grind
 rw[hc]at hB
 injection hB with h1 h2
 subst h1 h2
 have aeW:∀n g,A.look n=some g→f≠g:=fun n g hg e=>hf (e ▸ h.known _ (gz hg))
 refine⟨rfl,⟨h.cu,h.on,?_,?_,?_,?_⟩,?_,?_,rfl⟩
 ·show((A.names++[(nm,f)]).map (·.1)).Nodup
  rw[List.map_append,List.nodup_append]
  refine⟨h.keys,by simp,fun a ha b hb=>?_⟩
  simp only[List.map_cons,List.map_nil,List.mem_singleton]at hb
  subst hb
  rintro rfl
  obtain⟨x,hx,Kr⟩:=List.mem_map.1 ha
  have:=eu h.keys hx
  grind
 ·show((A.names++[(nm,f)]).map (·.2)).Nodup
  rw[List.map_append,List.nodup_append]
  refine⟨h.own,by simp,fun a ha b hb=>?_⟩
  simp only[List.map_cons,List.map_nil,List.mem_singleton]at hb
  subst hb
  rintro rfl
  obtain⟨x,hx,rfl⟩:=List.mem_map.1 ha
  exact hf (h.known x hx)
 ·exact List.nodup_cons.2 ⟨hf,h.ids⟩
 ·intro x hx
  rcases List.mem_append.1 hx with hx|hx
  ·exact List.mem_cons_of_mem _ (h.known x hx)
  grind
 ·intro n
  unfold vw
  have e1:({ A.nU (A.names++[(nm,f)])with fs:=(f,[],[])::A.fs }:Ab).look n=if n=nm then some f else A.look n:=Co A.names nm n f CE
  rw[e1]
  by_cases hn:n=nm
  ·rw[if_pos hn,if_pos hn]
   show some _=_
   exact congrArg some ((GN _ _).trans (if_pos rfl))
  ·rw[if_neg hn,if_neg hn]
   cases hg:A.look n with
   | none=>rfl
   | some g=>exact congrArg some ((GN _ _).trans (if_neg (aeW n g hg)))
 ·show(A.names++[(nm,f)]).length=_
  simp
theorem LP(A:Ab)(f g:Nat)(n:List UInt8)(w:List (Nat × Nat × List UInt8))(hg:g∈A.fs.map (·.1)):({ A with fs:=Ab.zI A.fs f n,writes:=w }:Ab).now g=if g=f then n else A.now g:=by
 unfold Ab.now Ab.file Ab.zI
 simp only[List.find?_map]
 have:((fun x:Nat × List UInt8 × List UInt8=>decide (x.1=g)) ∘ fun x=>if x.1=f then(x.1,n,x.2.2)else x)=fun x=>decide (x.1=g):=by
  grind
 rw[this]
 cases hx:A.fs.find? (fun x=>decide (x.1=g))with
 | none =>
  grind
 | some x =>
  grind
theorem HA.write{A:Ab}(h:HA A){nm:ByteArray}{c:List UInt8}(hv:vw A nm=some c)(at_:Nat)(b:List UInt8)(hr:A.used+(at_+b.length)≤A.room){e:Nat}{B:Ab}(hB:(e,B)=A.write true nm at_ b) :
  e=0∧HA B∧(∀n,vw B n=if n=nm then some (cX c at_ b)else vw A n)∧B.names=A.names∧B.room=A.room:=by
 obtain⟨f,hf,rfl⟩:∃f,A.look nm=some f∧A.now f=c:=by
  unfold vw at hv
  cases hx:A.look nm with
  | none=>rw[hx]at hv;cases hv
  | some f=>rw[hx]at hv;injection hv with hv;exact⟨f,rfl,hv⟩
 have hc:A.write true nm at_ b=(0,{ A with fs:=Ab.zI A.fs f (cX (A.now f) at_ b),writes:=A.writes++[(f,at_,b)] }):=by
  unfold Ab.write
  rw[h.find,hf]
  grind
 rw[hc]at hB
 injection hB with h1 h2
 subst h1 h2
 have Mv:∀g,g∈A.fs.map (·.1)→({ A with fs:=Ab.zI A.fs f (cX (A.now f) at_ b),writes:=A.writes++[(f,at_,b)] }:Ab).now g=if g=f then cX (A.now f) at_ b else A.now g:=fun g hg=>LP A f g _ _ hg
 refine⟨rfl,⟨h.cu,h.on,h.keys,h.own,?_,?_⟩,?_,rfl,rfl⟩
 ·show((Ab.zI A.fs f _).map (·.1)).Nodup
  rw[qz]
  exact h.ids
 ·intro x hx
  show x.2∈(Ab.zI A.fs f _).map (·.1)
  rw[qz]
  exact h.known x hx
 ·intro n
  unfold vw
  show(A.look n).map _=_
  by_cases hn:n=nm
  ·subst hn
   rw[if_pos rfl,hf]
   exact congrArg some ((Mv f (h.known _ (gz hf))).trans (if_pos rfl))
  ·rw[if_neg hn]
   cases hg:A.look n with
   | none=>rfl
   | some g=>exact congrArg some ((Mv g (h.known _ (gz hg))).trans (if_neg (fun e=>hn (h.ZU (e ▸ hg) hf))))
theorem yr(fs:List (Nat × List UInt8 × List UInt8))(f:Nat):(Ab.me fs f).map (·.1)=fs.map (·.1):=by
 unfold Ab.me
 rw[List.map_map]
 refine List.map_congr_left fun x _=>?_
 grind
theorem IB(A:Ab)(f g:Nat)(w:List (Nat × Nat × List UInt8)):({ A with fs:=Ab.me A.fs f,writes:=w }:Ab).now g=A.now g:=by
 unfold Ab.now Ab.file Ab.me
 simp only[List.find?_map]
 have:((fun x:Nat × List UInt8 × List UInt8=>decide (x.1=g)) ∘ fun x=>if x.1=f then(x.1,x.2.1,x.2.1)else x)=fun x=>decide (x.1=g):=by
  grind
 rw[this]
 cases A.fs.find? (fun x=>decide (x.1=g))with
 | none=>rfl
 | some x =>
  grind
theorem HA.sync{A:Ab}(h:HA A){nm:ByteArray}{c:List UInt8}(hv:vw A nm=some c){e:Nat}{B:Ab}(hB:(e,B)=A.sync true nm) :
  e=0∧HA B∧(∀n,vw B n=vw A n)∧B.names=A.names∧B.room=A.room:=by
 obtain⟨f,hf⟩:∃f,A.look nm=some f:=by
  unfold vw at hv
  cases hx:A.look nm with
  | none=>rw[hx]at hv;cases hv
  | some f=>exact⟨f,rfl⟩
 have hc:A.sync true nm=(0,{ A with fs:=Ab.me A.fs f,writes:=A.writes.filter fun x => !decide (x.1=f) }):=by
  unfold Ab.sync
  rw[h.find,hf]
  grind
 rw[hc]at hB
 injection hB with h1 h2
 subst h1 h2
 refine⟨rfl,⟨h.cu,h.on,h.keys,h.own,?_,?_⟩,?_,rfl,rfl⟩
 ·show((Ab.me A.fs f).map (·.1)).Nodup
  rw[yr]
  exact h.ids
 ·intro x hx
  show x.2∈(Ab.me A.fs f).map (·.1)
  rw[yr]
  exact h.known x hx
 ·intro n
  unfold vw
  show(A.look n).map _=_
  cases hg:A.look n with
  | none=>rfl
  | some g=>exact congrArg some (IB A f g _)
def HA.cq{A:Ab}(h:HA A){e:Nat}{B:Ab}(hB:(e,B)=A.cq):e=0∧HA B∧(∀n,vw B n=vw A n)∧B.names=A.names∧B.room=A.room:=by
 have hc:A.cq=(0,{ A with aI:=[A.names] }):=by
  unfold Ab.cq
  rw[h.meet,if_pos rfl]
 rw[hc]at hB
 injection hB with h1 h2
 subst h1 h2
 exact⟨rfl,⟨h.cu,h.on,h.keys,h.own,h.ids,h.known⟩,fun n=>rfl,rfl,rfl⟩
theorem qW(l:List (ByteArray × Nat))(k n:ByteArray):Ab.cK (Ab.dZ l k) n=if n=k then none else Ab.cK l n:=by
 unfold Ab.cK Ab.dZ
 grind
theorem HA.rename{A:Ab}(h:HA A){o n:ByteArray}{c:List UInt8}(gf:o≠n)(hv:vw A o=some c)(G1:vw A n=none){e:Nat}{B:Ab}(hB:(e,B)=A.rename true o n) :
  e=0∧HA B∧(∀m,vw B m=if m=n then some c else if m=o then none else vw A m)∧B.room=A.room∧∃f,A.look o=some f∧B.names=Ab.dZ A.names o++[(n,f)]:=by
 obtain⟨f,hf,rfl⟩:∃f,A.look o=some f∧A.now f=c:=by
  unfold vw at hv
  cases hx:A.look o with
  | none=>rw[hx]at hv;cases hv
  | some f=>rw[hx]at hv;injection hv with hv;exact⟨f,rfl,hv⟩
 have Ku:A.look n=none:=by
  unfold vw at G1
  cases hx:A.look n with
  | none=>rfl
  | some x=>rw[hx]at G1;cases G1
 have Pk:Ab.cK (Ab.dZ A.names o) n=none:=by
  rw[qW]
  split
  ·rfl
  ·exact Ku
 have jL:Ab.jl (Ab.dZ A.names o) n f=Ab.dZ A.names o++[(n,f)]:=by
  unfold Ab.jl
  grind
 have hc:A.rename true o n=(0,A.nU (Ab.dZ A.names o++[(n,f)])):=by
  unfold Ab.rename
  rw[h.find,hf]
  grind
 rw[hc]at hB
 injection hB with h1 h2
 subst h1 h2
 have cH:∀x∈Ab.dZ A.names o,x∈A.names∧x.1≠o:=fun x hx=>by
  obtain⟨h1,h2⟩:=List.mem_filter.1 hx
  grind
 refine⟨rfl,⟨h.cu,h.on,?_,?_,h.ids,?_⟩,?_,rfl,f,hf,rfl⟩
 ·show((Ab.dZ A.names o++[(n,f)]).map (·.1)).Nodup
  rw[List.map_append,List.nodup_append]
  refine⟨(List.filter_sublist.map _).nodup h.keys,by simp,fun a ha b hb=>?_⟩
  simp only[List.map_cons,List.map_nil,List.mem_singleton]at hb
  subst hb
  rintro rfl
  obtain⟨x,hx,rfl⟩:=List.mem_map.1 ha
  have:=eu h.keys (cH x hx).1
  grind
 ·show((Ab.dZ A.names o++[(n,f)]).map (·.2)).Nodup
  rw[List.map_append,List.nodup_append]
  refine⟨(List.filter_sublist.map _).nodup h.own,by simp,fun a ha b hb=>?_⟩
  simp only[List.map_cons,List.map_nil,List.mem_singleton]at hb
  subst hb
  rintro rfl
  obtain⟨x,hx,Kr⟩:=List.mem_map.1 ha
  have h3:=eu h.keys (cH x hx).1
  rw[Kr]at h3
  exact(cH x hx).2 (h.ZU h3 hf)
 ·intro x hx
  rcases List.mem_append.1 hx with hx|hx
  ·exact h.known x (cH x hx).1
  ·simp only[List.mem_singleton]at hx
   subst hx
   exact h.known (o,f) (gz hf)
 ·intro m
  unfold vw
  have e1:(A.nU (Ab.dZ A.names o++[(n,f)])).look m=if m=n then some f else if m=o then none else A.look m:=by
   refine(Co (Ab.dZ A.names o) n m f Pk).trans ?_
   rw[qW]
   rfl
  rw[e1]
  by_cases hm:m=n
  ·rw[if_pos hm,if_pos hm];rfl
  ·rw[if_neg hm,if_neg hm]
   by_cases hmo:m=o
   ·grind
   ·rw[if_neg hmo,if_neg hmo];rfl
def stE(bs bd:Nat)(q:Int)(mb:Nat):HP:=fun h=>∃b,ag bs (cl (dR bd q mb b) 209) h
def Eb(bs bd:Nat)(q:Int)(mb:Nat)(b:Bool)(H:List HP):ak (ag bs (cl (dR bd q mb b) 209)::H) (stE bs bd q mb::H) :=
 ak.fold (B:=[_]) fun h' hs=>⟨h',sub.refl h',b,cT hs⟩
def KY{G:cg}{w:World}{bs bd:Nat}{q:Int}{mb:Nat}{H:List HP}(hw:Sat G w (stE bs bd q mb::H)):w.cell? ⟨bs,0,none⟩=some (ptr bd):=by
 obtain⟨h,hh,b,hA⟩:=hw.jM (i:=0) rfl
 have hb:h bs=some (cl (dR bd q mb b) 209):=by rw[hA bs,if_pos rfl]
 exact gb hh (by unfold dq;rw[hb];rfl)
attribute [local irreducible] J K aw Ends ag aH au bE aW aJ a6 aZ bI Sha.chunks Sha.chunk Sha.rounds Sha.sched ff cI GI fA aG
section
variable{P:Program}{f:FuncId}{n:Nat}{R:Ending→World→Prop}{G:cg}{L:eC}{H:List HP}{S:World→Prop}{all:Array Oper}{rest:Pl}
def ad9{k k':List Item}{α:Type}(I:α→Prop)(Lf:α→eC)(Hf:α→List HP)(hk:fU 1000 k = .mk k')(tail:∀y,I y→K P f n R G k' (Lf y) (Hf y))(h:(∀y,I y→K P f n R G k' (Lf y) (Hf y))→J P f n R G S all rest k L H):J P f n R G S all rest k L H:=h tail
def aa8{k k':List Item}{α:Type}(m:Nat)(I:α→Prop)(Lf:α→eC)(Hf:α→List HP)(hk:fU 1000 (k.drop m) = .mk k')(tail:∀y,I y→K P f n R G k' (Lf y) (Hf y))(h:(∀y,I y→K P f n R G k' (Lf y) (Hf y))→J P f n R G S all rest k L H):J P f n R G S all rest k L H:=h tail
end
theorem KJ{A:Ab}{cy:List (Dg × Bl)}{brk:Bool}(h:HN A)(hb:tW cy):0≤pK ⟨A,cy,brk⟩∧pK ⟨A,cy,brk⟩≤1048786000000:=by
 have h1:=GO cy (cy.map (·.1)) hb.1
 rw[Ch cy _ (fun x hx=>List.mem_map.2 ⟨x,hx,rfl⟩)]at h1
 have h2:=uQ (h.nodup _ (List.mem_cons_self ..))
 have h3:=sg (eQ A) (mu A) 1048576 (fun x _=>Ae h x)
 have h4:=nh h
 have h5:=hb.2
 grind [pK]
theorem Nb(l:List (Dg × Bl))(x:Bl)(h:AJ l x.d=none):gT (eB l) x.d (l7 x)=eB (l++[(x.d,x)]):=by
 have hn:x.d ∉ (eB l).map (·.1):=by
  rw[← wY,sP,h];rfl
 grind [gT,eB]
theorem N6(bs bd:Nat)(q:Int)(hq:0≤q∧q≤1073741824)(mb:Nat)(s:nV)(x:Bl)(hbo:tW s.cy)(dE:s.A.aI.length≤900000000)(k4:s.A.writes.length≤900000000) :
  aw Tryz.prog 118 [ptr bs,l7 x] (p5 bs bd q mb s)
  (fun r H=>∃(e:Nat) (t:nV),r = .int .i64 (e:Int)∧H=p5 bs bd q mb t∧gJ q x s e t):=by
 obtain⟨A,cy,brk⟩:=s
 have acW:=P8 bs bd q mb ⟨A,cy,brk⟩ hbo
 obtain⟨pH,pR⟩:=hbo
 simp only at dE k4 pH pR
 have vU:=mH x
 have aas:=Qi bs bd q mb brk A x.d
 refine aw.ao Tryz.func118 Tryz.ntmps118 fun G F R hE=>?_
 refine aN rfl ?_
 refine bC zr zr bq ?_
 intro b2
 refine bC zr zr bq ?_
 intro b3
 refine rW ?_
 refine aO (fun w=>Sat G w ([ag b3 (cl (dN x) 182),ag b2 (cl [ptr bs] 122),ag bs (cl (dR bd q mb brk) 209),au dV mb (eB cy)])) (cM 0 10 (.act 10 (.act 11 (.st 12 .nil)))) rfl ae ae ae dv ?_
 refine ad9 (fun Z5:Bool=>Z5=(AJ cy x.d).isSome) (fun Z5=>[(2,ptr b2),(3,ptr b3),(6,.bool Z5)]) (fun _=>ag b3 (cl (dN x) 182)::ag b2 (cl [ptr bs] 122)::ag bs (cl (dR bd q mb brk) 209)::au dV mb (eB cy)::aG bd A::F) rfl ?_ ?_
 ·rintro Z5 Pn
  have hB0:brk=true→gJ q x ⟨A,cy,brk⟩ 10 ⟨A,cy,brk⟩:=fun h=>by unfold gJ;rw[if_pos h];exact⟨rfl,rfl⟩
  have hB1:¬brk=true→bY x=false→gJ q x ⟨A,cy,brk⟩ 1 ⟨A,cy,brk⟩:=fun h h1=>by unfold gJ;rw[if_neg h,if_pos h1];exact⟨rfl,rfl⟩
  have hB2:¬brk=true→¬bY x=false→(Z5=true∨qg A (fB x)=true)→gJ q x ⟨A,cy,brk⟩ 5 ⟨A,cy,brk⟩:=fun h h1 h2=>by unfold gJ;rw[Pn]at h2;rw[if_neg h,if_neg h1,if_pos h2];exact⟨rfl,rfl⟩
  have hB3:∀e t,¬brk=true→¬bY x=false→¬(Z5=true∨qg A (fB x)=true)→(if q<pK ⟨A,cy,brk⟩+x.size then e=11∧t=⟨A,cy,brk⟩
    else if qg A (fS x)then e=0∧t=⟨A,cy++[(x.d,x)],brk⟩
    else ∃e1 s1,P0 [gq (fS x),dO] ⟨A,cy,brk⟩ e1 s1∧((e1≠0∧e=e1∧t=s1)∨(e1=0∧e=0∧t=⟨s1.A,s1.cy++[(x.d,x)],s1.brk⟩)))→gJ q x ⟨A,cy,brk⟩ e t:=fun e t h h1 h2 h3=>by
   unfold gJ;rw[Pn]at h2;rw[if_neg h,if_neg h1,if_neg h2];exact h3
  cases brk with
  | true =>
   refine go ?_
   refine ad hE Tryz.func118 zr zr ⟨10,⟨A,cy,true⟩,rfl,rfl,hB0 rfl⟩
  | false =>
   refine rG (bd:=bd) (A:=A) 4 rfl ?_
   intro Fj
   have hul:=KJ (brk:=false) Fj ⟨pH,pR⟩
   refine go ?_
   refine aV (U:=aY) (l:=dN x) 0 zr zr zr zr zr zr ?_
   refine aF vU ?_
   cases hr:bY x with
   | false =>
    refine go ?_
    refine ad hE Tryz.func118 zr zr ⟨1,⟨A,cy,false⟩,rfl,rfl,hB1 (by simp) hr⟩
   | true =>
    have O':¬bY x=false:=by rw[hr];simp
    have hrs:=hr
    simp only[bY,decide_eq_true_eq]at hrs
    cases Z5 with
    | true =>
     refine go ?_
     refine ad hE Tryz.func118 zr zr ⟨5,⟨A,cy,false⟩,rfl,rfl,hB2 (by simp) O' (.inl rfl)⟩
    | false =>
     refine go ?_
     refine cC 0 zr zr zr zr zr zr ?_
     ((refine go ?_;(refine az aas ?_)))
     rintro _ _⟨rfl,rfl⟩
     cases hhb:qg A (eZ kB x.d)with
     | true =>
      refine go ?_
      refine ad hE Tryz.func118 zr zr ⟨5,⟨A,cy,false⟩,rfl,rfl,hB2 (by simp) O' (.inr hhb)⟩
     | false =>
      have tJ:¬(false=true∨qg A (fB x)=true):=by
       grind [qg,fB]
      refine go ?_
      refine aO (fun w=>Sat G w ([ag b3 (cl (dN x) 182),ag b2 (cl [ptr bs] 122),ag bs (cl (dR bd q mb false) 209)])) (.st 0 (.st 2 (.st 3 (cM 5 4 (.act 1 (.st 4 (.st 9 (.st 10 .nil)))))))) rfl ae ae ae dv ?_
      refine go ?_
      refine bP acW ?_
      refine go ?_
      refine aD zr zr ?_ ?_
      ·intro hqu
       have QC:q<pK ⟨A,cy,false⟩+x.size:=hqu
       refine go ?_
       ((refine ad hE Tryz.func118 zr zr ⟨11,⟨A,cy,false⟩,rfl,rfl,hB3 _ _ (by simp) O' tJ (by rw[if_pos QC];exact⟨rfl,rfl⟩)⟩))
      ·intro hqu
       have QC:¬q<pK ⟨A,cy,false⟩+x.size:=hqu
       refine ai (ak.pick [3,4] rfl) (go ?_)
       refine cC 0 zr zr zr zr zr zr ?_
       refine aF (aaL x) ?_
       refine aB zr zr zr bq ?_
       intro b7
       refine go ?_
       refine aF (Me bs bd q mb false A (fS x)) ?_
       refine aa8 1 (fun B:Ab=>gJ q x ⟨A,cy,false⟩ 0 ⟨B,cy++[(x.d,x)],false⟩) (fun B=>[(2,ptr b2),(3,ptr b3)]) (fun B=>ag b3 (cl (dN x) 182)::ag b2 (cl [ptr bs] 122)::ag bs (cl (dR bd q mb false) 209)::au dV mb (eB cy)::aG bd B::F) rfl ?_ ?_
       ·intro B Jk
        have jL:=Nb cy x (by cases h:AJ cy x.d with|none=>rfl|some y=>rw[h]at Pn;cases Pn)
        refine aO (fun w=>Sat G w ([ag b3 (cl (dN x) 182),ag b2 (cl [ptr bs] 122),ag bs (cl (dR bd q mb false) 209)])) (cM 0 7 (.act 7 .nil)) rfl ae ae ae dv ?_
        refine go ?_
        refine cE (U:=aY) 0 zr zr zr zr zr zr (go ?_)
        refine cE (U:=aY) (cs:=dN x) 0 zr zr zr zr zr zr (go ?_)
        refine du (es:=eB cy) (key:=x.d) (v:=l7 x) 3 Ko (fun _ _=>by exact trivial) zr zr zr zr zr zr zr zr ?_
        rw[jL]
        refine go ?_
        refine ad hE Tryz.func118 zr zr ⟨0,⟨B,cy++[(x.d,x)],false⟩,rfl,rfl,Jk⟩
       ·intro tail
        cases hsf:qg A (fS x)with
        | true =>
         refine go ?_
         refine pJ tail A rfl (hB3 _ _ (by simp) O' tJ (by rw[if_neg QC,if_pos hsf];exact⟨rfl,rfl⟩)) bO ah
        | false =>
         have Mn:∀(i:Nat) (fv:Value) (sp:FV),[.func (.func 202) #[] #[ptr b2,ptr b7],.func (.func 115) #[ptr bd] #[] ][i]?=some fv→[gq (fS x),dO][i]?=some sp→∃g fi cap,fv = .func (.func g) fi cap∧∀y,GQ A i y→aw Tryz.prog g (fi.toList++cap.toList) [rR bs bd q mb false (Sep [ag b2 (cl [ptr bs] 122),ag b7 (cl [.string (fS x)] 9)]) y] (fun r H=>∃(e:Nat) (x':Ab),r = .int .i64 (e:Int)∧H=[rR bs bd q mb false (Sep [ag b2 (cl [ptr bs] 122),ag b7 (cl [.string (fS x)] 9)]) x']∧sp y e x'∧(e=0→GQ A (i+1) x')):=by
          intro i fv sp hi hs
          match i,hi,hs with
          | 0,hi,hs =>
           cases hi;cases hs
           refine⟨_,_,_,rfl,fun y hy=>?_⟩
           refine(Ho (p:=gq (fS x) y) (FM bs bd b2 b7 q mb false (fS x) y (by have:=hy.1;omega))).post ?_
           rintro r H⟨e,B,rfl,rfl,h1⟩
           exact⟨e,B,rfl,rfl,h1,fun _=>hy.next (pS h1)⟩
          | 1,hi,hs =>
           cases hi;cases hs
           refine⟨_,_,_,rfl,fun y hy=>(OS bs bd q mb false [ag b2 (cl [ptr bs] 122),ag b7 (cl [.string (fS x)] 9)] y).post ?_⟩
           rintro r H⟨e,B,rfl,rfl,h1⟩
           exact⟨e,B,rfl,rfl,h1,fun _=>hy.next (mB h1)⟩
          | k+2,hi,hs=>simp at hi
         refine go ?_
         refine aO (fun w=>Sat G w [stE bs bd q mb,ag b2 (cl [ptr bs] 122)]) (cM 0 7 (.act 7 (.act 8 (.st 9 .nil)))) rfl ae ae ae (fun w hw=>hw.cp (ak.trans (H2:=[ag bs (cl (dR bd q mb false) 209),ag b2 (cl [ptr bs] 122)]) ah (Eb bs bd q mb _ _))) ?_
         refine go ?_
         refine aS ?_
         refine uL (U:=aY) zr zr (fun w hw=>KY hw) zr zr ?_
         refine go ?_
         refine aq (cs:=[.func (.func 202) #[] #[ptr b2,ptr b7],.func (.func 115) #[ptr bd] #[] ]) zr zr zr zr zr zr zr zr zr (fun _ w hw=>by exact hw.cp (ak.trans (H2:=[ag bs (cl (dR bd q mb false) 209),ag b2 (cl [ptr bs] 122)]) ah (Eb bs bd q mb _ _))) ?_
         intro row
         have hch:=C9 bs bd q mb false (Sep [ag b2 (cl [ptr bs] 122),ag b7 (cl [.string (fS x)] 9)]) (ag row (cl [.func (.func 202) #[] #[ptr b2,ptr b7],.func (.func 115) #[ptr bd] #[] ] 137)) (.slice (some ⟨row,0,none⟩) 2 2) [.func (.func 202) #[] #[ptr b2,ptr b7],.func (.func 115) #[ptr bd] #[] ] (Vw.ag rfl) (by show 2≤_;omega) [gq (fS x),dO] rfl (GQ A) Mn A (GQ.zero A)
         refine aR (H':=ag row (cl [.func (.func 202) #[] #[ptr b2,ptr b7],.func (.func 115) #[ptr bd] #[] ] 137)::rR bs bd q mb false (Sep [ag b2 (cl [ptr bs] 122),ag b7 (cl [.string (fS x)] 9)]) A::au dV mb (eB cy)::ag b3 (cl (dN x) 182)::F) (ak.trans (H2:=ag bs (cl (dR bd q mb false) 209)::aG bd A::([ag b2 (cl [ptr bs] 122),ag b7 (cl [.string (fS x)] 9)]++(ag row (cl [.func (.func 202) #[] #[ptr b2,ptr b7],.func (.func 115) #[ptr bd] #[] ] 137)::au dV mb (eB cy)::ag b3 (cl (dN x) 182)::F))) ah (ak.trans (KX bs bd q mb false _ A _) ah)) ?_
         refine dM zr zr zr zr hch ah ?_ (fun _ _ w hp hw=>by
          obtain⟨e,B,rfl,rfl,pQ,_⟩:=hp
          exact hw.cp (ak.trans (ak.pick [1] rfl) (ak.trans (zN bs bd q mb (or false (decide (e≠0))) _ B _) (ak.trans (H2:=[ag bs (cl (dR bd q mb (or false (decide (e≠0)))) 209),ag b2 (cl [ptr bs] 122)]) ah (Eb bs bd q mb _ _)))))
         rintro _ _⟨e,B,rfl,rfl,pQ,-⟩
         refine aR (ak.trans (ak.pick [1] rfl) (zN bs bd q mb (or false (decide (e≠0))) _ B _)) ?_
         have jW:∀e' t,(∃e1 s1,P0 [gq (fS x),dO] ⟨A,cy,false⟩ e1 s1∧((e1≠0∧e'=e1∧t=s1)∨(e1=0∧e'=0∧t=⟨s1.A,s1.cy++[(x.d,x)],s1.brk⟩)))→gJ q x ⟨A,cy,false⟩ e' t:=fun e' t h=>hB3 e' t (by simp) O' tJ (by rw[if_neg QC,if_neg (by rw[hsf];simp)];exact h)
         refine go ?_
         refine aD zr zr ?_ ?_
         ·intro agb
          have he:e≠0:=by omega
          refine go ?_
          refine ad hE Tryz.func118 zr zr ⟨e,⟨B,cy,or false (decide (e≠0))⟩,rfl,rfl,jW _ _ ⟨e,_,⟨B,pQ,rfl⟩,.inl ⟨he,rfl,rfl⟩⟩⟩
         ·intro agm
          have he:e=0:=by omega
          subst he
          refine go ?_
          refine pJ tail B rfl (jW _ _ ⟨0,_,⟨B,pQ,rfl⟩,.inr ⟨rfl,rfl,rfl⟩⟩) bO ah
 ·intro tail
  refine go ?_
  refine cE (U:=aY) 0 zr zr zr zr zr zr (go ?_)
  refine hX (es:=eB cy) (key:=x.d) rfl Ko zr zr zr zr zr zr zr (fun w hw=>hw.jt (i:=3) rfl) ?_
  rw[sP]
  cases hb:AJ cy x.d with
  | none =>
   rw[hb]at tail
   refine go ?_
   refine aB zr zr zr (fun _ w hw=>hw.cp ah) ?_
   intro b5
   refine rW ?_
   (refine aX ?_;(refine bG 0 dv zr zr zr zr zr zr zr zr zr ?_))
   refine rW ?_
   refine pJ tail false zr zr bO ah
  | some y =>
   rw[hb]at tail
   refine go ?_
   refine aB zr zr zr (fun _ w hw=>hw.cp ah) ?_
   intro b5
   refine rW ?_
   (refine aX ?_;(refine bG 0 dv zr zr zr zr zr zr zr zr zr ?_))
   refine rW ?_
   refine pJ tail true zr zr bO ah
end Go.Proofs.YtjpboghdolfekaaGreatDoor
namespace Go.Proofs.YtjpboghdolfekaaGreatDoor
open Go Go.SL
attribute [local irreducible] J K aw Ends ag aH au bE aW aJ a6 aZ bI Sha.chunks Sha.chunk Sha.rounds Sha.sched ff cI GI fA aG
theorem P4{b:List UInt8}{k:Int}{x:Bl}(h:gl b k=some x):bY x=true∧x.size=b.length∧x.piece=k∧KE x b=true:=by
 grind [gl,gN,bY,KE]
def M7:∃x,gl [7] 16=some x:=by
 unfold gl gN
 rw[if_pos (by decide)]
 exact⟨_,rfl⟩
def rB(n:Nat)(s t:nV):Prop:=t.A.aI.length≤s.A.aI.length+n∧t.A.writes.length≤s.A.writes.length+n
def Jm(ss:List FV)(hs:∀sp∈ss,∀A e B,sp A e B→kY A B)(A:Ab)(e:Nat)(B:Ab)(h:sT ss A e B):B.aI.length≤A.aI.length+ss.length∧B.writes.length≤A.writes.length+ss.length:=by
 induction ss generalizing A with
 | nil=>obtain⟨_,rfl⟩:=h;exact⟨Nat.le_refl _,Nat.le_refl _⟩
 | cons sp ss ih =>
  obtain⟨e1,A1,h1,hc⟩:=h
  have g:=hs sp (List.mem_cons_self ..) _ _ _ h1
  have g1:=g.1
  have g2:=g.2
  simp only[List.length_cons]
  rcases hc with⟨_,_,rfl⟩|⟨_,h2⟩
  ·omega
  ·have:=ih (fun s h=>hs s (List.mem_cons_of_mem _ h)) A1 h2
   omega
def Jn{ss:List FV}(hs:∀sp∈ss,∀A e B,sp A e B→kY A B){s t:nV}{e:Nat}(h:P0 ss s e t):rB ss.length s t:=by
 obtain⟨B,h,rfl⟩:=h
 exact Jm ss hs _ _ _ h
theorem rB.refl(n:Nat)(s:nV):rB n s s:=⟨aj,aj⟩
theorem DQ{q:Int}{x:Bl}{s t:nV}{e:Nat}(h:gJ q x s e t):rB 2 s t:=by
 unfold gJ at h
 split at h
 ·grind [rB.refl]
 split at h
 ·grind [rB.refl]
 split at h
 ·grind [rB.refl]
 split at h
 ·grind [rB.refl]
 split at h
 ·rw[h.2];exact rB.refl 2 s
 ·obtain⟨e1,s1,hc,hd⟩:=h
  have g:=Jn (ss:=[gq (fS x),dO]) (fun sp DV A e B hh=>by
   simp only[List.mem_cons,List.not_mem_nil,or_false]at DV
   rcases DV with rfl|rfl
   ·exact pS hh
   ·exact mB hh) hc
  rcases hd with⟨_,_,rfl⟩|⟨_,_,rfl⟩ <;> exact g
def Gr{A:Ab}(h:HA A)(m:Nat)(hm:∀n c,vw A n=some c→c.length≤m):A.used≤A.names.length*m:=by
 unfold Ab.used
 refine sg A.names _ m fun x hx=>?_
 refine hm x.1 _ ?_
 unfold vw
 rw[eu h.keys hx]
 rfl
end Go.Proofs.YtjpboghdolfekaaGreatDoor
namespace Go.Proofs.YtjpboghdolfekaaGreatDoor
open Go Go.SL
variable{A B:Ab}{k nm:ByteArray}{K':List ByteArray}{e f:Nat}
abbrev Vm:=ByteArray→Option (List UInt8)
structure w5(K:List ByteArray)(v:Vm):Prop where
 nd:K.Nodup
 mem:∀n,n∈K↔(v n).isSome=true
def N9(w:ByteArray→List UInt8→Nat)(K:List ByteArray)(v:Vm):Nat:=(K.map fun k=>w k ((v k).getD [])).sum
def mj(v:Vm)(k:ByteArray)(o:Option (List UInt8)):Vm:=fun n=>if n=k then o else v n
def lp(v:Vm)(k:ByteArray)(o:Option (List UInt8)):mj v k o k=o:=if_pos rfl
def mS(v:Vm){n:ByteArray}(o:Option (List UInt8))(h:n≠k):mj v k o n=v n:=if_neg h
def w5.perm{K:List ByteArray}{v:Vm}(h:w5 K v)(h':w5 K' v):K.Perm K':=(List.perm_ext_iff_of_nodup h.nd h'.nd).2 fun n=>(h.mem n).trans (h'.mem n).symm
def KQ{K:List ByteArray}{v:Vm}(w:ByteArray→List UInt8→Nat)(h:w5 K v)(h':w5 K' v):N9 w K v=N9 w K' v:=((h.perm h').map _).sum_nat
theorem w5.add{K:List ByteArray}{v:Vm}(h:w5 K v)(hk:v k=none)(c:List UInt8):w5 (k::K) (mj v k (some c)):=by
 refine⟨List.nodup_cons.2 ⟨fun hm=>?_,h.nd⟩,fun n=>?_⟩
 ·have:=(h.mem k).1 hm
  grind
 ·rw[List.mem_cons]
  by_cases hn:n=k
  ·simp[hn,lp]
  ·rw[mS _ _ hn,← h.mem n]
   simp[hn]
theorem Gu{K:List ByteArray}{v:Vm}{c:List UInt8}(w:ByteArray→List UInt8→Nat)(h:w5 K v)(h':w5 K' (mj v k (some c)))(hk:v k=none):N9 w K' (mj v k (some c))=w k c+N9 w K v:=by
 rw[KQ w h' (h.add hk c)]
 unfold N9
 rw[List.map_cons,List.sum_cons,lp]
 congr 1
 have QI:∀n∈K,n≠k:=fun n hn e=>by
  have:=(h.mem n).1 hn
  grind
 exact congrArg List.sum (List.map_congr_left fun x hx=>by rw[mS _ _ (QI x hx)])
theorem On(K:List ByteArray)(v:Vm)(m:Nat):N9 (fun _ _=>m) K v=K.length*m:=by
 unfold N9
 induction K with
 | nil=>simp
 | cons x l ih =>
  grind
def mem_keys(h:HA A)(n:ByteArray):n∈gj A↔(vw A n).isSome=true:=by
 unfold gj vw
 constructor
 ·intro hn
  obtain⟨x,hx,rfl⟩:=List.mem_map.1 hn
  rw[eu h.keys hx]
  rfl
 ·intro hn
  cases hl:A.look n with
  | none=>rw[hl]at hn;cases hn
  | some f=>exact List.mem_map.2 ⟨_,gz hl,rfl⟩
def HA.ZJ(h:HA A):w5 (gj A) (vw A):=⟨h.keys,mem_keys h⟩
def OY(_:ByteArray)(c:List UInt8):Nat:=c.length
def ZY(h:HA A){x:ByteArray × Nat}(hx:x∈A.names):A.now x.2=(vw A x.1).getD []:=by
 unfold vw
 rw[eu h.keys hx]
 rfl
theorem KI(h:HA A):A.used=N9 OY (gj A) (vw A):=by
 unfold Ab.used N9 gj OY
 rw[List.map_map]
 exact congrArg List.sum (List.map_congr_left fun x hx=>by simp only[Function.comp];rw[ZY h hx])
def IQ(A:Ab):(gj A).length=A.names.length:=by unfold gj;rw[List.length_map]
theorem OX(A:Ab):A.names.length=N9 (fun _ _=>1) (gj A) (vw A):=by rw[On,IQ];omega
def fSd(d:Dg):ByteArray:=eZ kS d
def HA.PZ(h:HA A)(hv:vw A nm=none)(hl:A.names.length<200)(hf:f ∉ A.fs.map (·.1))(hB:(e,B)=A.create true nm f) :
  e=0∧HA B∧vw B=mj (vw A) nm (some [])∧B.room=A.room :=
 let ⟨h1,h2,h3,_,h5⟩:=h.create hv hl hf hB;⟨h1,h2,funext h3,h5⟩
def HA.Rc(h:HA A){c:List UInt8}(hv:vw A nm=some c)(at_:Nat)(b:List UInt8)(hr:A.used+(at_+b.length)≤A.room)(hB:(e,B)=A.write true nm at_ b) :
  e=0∧HA B∧vw B=mj (vw A) nm (some (cX c at_ b))∧B.room=A.room :=
 let ⟨h1,h2,h3,_,h5⟩:=h.write hv at_ b hr hB;⟨h1,h2,funext h3,h5⟩
def HA.acD(h:HA A){c:List UInt8}(hv:vw A nm=some c)(hB:(e,B)=A.sync true nm) :
  e=0∧HA B∧vw B=vw A∧B.room=A.room :=
 let ⟨h1,h2,h3,_,h5⟩:=h.sync hv hB;⟨h1,h2,funext h3,h5⟩
def HA.D8(h:HA A)(hB:(e,B)=A.cq):e=0∧HA B∧vw B=vw A∧B.room=A.room :=
 let ⟨h1,h2,h3,_,h5⟩:=h.cq hB;⟨h1,h2,funext h3,h5⟩
def HA.OH(h:HA A){o n:ByteArray}{c:List UInt8}(gf:o≠n)(hv:vw A o=some c)(G1:vw A n=none)(hB:(e,B)=A.rename true o n) :
  e=0∧HA B∧vw B=mj (mj (vw A) o none) n (some c)∧B.room=A.room :=
 let ⟨h1,h2,h3,h4,_⟩:=h.rename gf hv G1 hB;⟨h1,h2,funext h3,h4⟩
theorem HA.Br(h:HA A)(h':HA B){c:List UInt8}(hk:vw A k=none)(hv:vw B=mj (vw A) k (some c)):B.used=A.used+c.length∧B.names.length=A.names.length+1:=by
 have hs:=h'.ZJ
 rw[hv]at hs
 have h1:=Gu OY h.ZJ hs hk
 have h2:=Gu (fun _ _=>1) h.ZJ hs hk
 grind [KI,OX,OY]
def kZ:ByteArray:=strOf [112,105,101,99,101,115]
def lE(k:List UInt8)(d:Dg):eZ k d≠kZ:=fun h=>by
 have h1:=congrArg (fun s:ByteArray=>s.data.toList.length) h
 simp only[eZ,kZ,strOf,List.length_append,mf]at h1
 simp at h1
theorem p6{kind:List UInt8}{right:Ab→Dg→Bool}(l:List ByteArray)(h:∀nm∈l,∀d,gk kind nm=some d→right A d=true)(hs:kV kind right l A e B):e=0∧B=A:=by
 induction l with
 | nil=>exact hs
 | cons nm l ih =>
  grind [kV,gk]
def vD(h:HA A)(n:ByteArray):n∈eQ A↔(vw A n).isSome=true:=by
 rw[(tx A).mem_iff]
 exact mem_keys h n
theorem xY{fs:List (Nat × List UInt8 × List UInt8)}(u:Nat × List UInt8 × List UInt8→Nat × List UInt8 × List UInt8)(hu:∀x,(u x).1=x.1)(f:Nat) :
  (fs.map u).find? (fun x=>decide (x.1=f))=(fs.find? (fun x=>decide (x.1=f))).map u:=by
 induction fs with
 | nil=>rfl
 | cons x l ih =>
  grind
def MR{fs:List (Nat × List UInt8 × List UInt8)}(h:f∈fs.map (·.1)):∃x,fs.find? (fun x=>decide (x.1=f))=some x∧x.1=f:=by
 obtain⟨y,hy,hyf⟩:=List.mem_map.1 h
 cases hx:fs.find? (fun x=>decide (x.1=f))with
 | none=>exact absurd hyf (by simpa using List.find?_eq_none.1 hx y hy)
 | some x=>exact⟨x,rfl,by simpa using List.find?_some hx⟩
theorem CY(A:Ab)(u:Nat × List UInt8 × List UInt8→Nat × List UInt8 × List UInt8)(hu:∀x,(u x).1=x.1)(h:f∈A.fs.map (·.1)):({ A with fs:=A.fs.map u }:Ab).file f=(u (f,A.file f)).2:=by
 obtain⟨x,hx,hxf⟩:=MR h
 simp only[Ab.file]
 rw[xY u hu,hx]
 grind
def GY(fs:List (Nat × List UInt8 × List UInt8))(u:Nat × List UInt8 × List UInt8→Nat × List UInt8 × List UInt8)(hu:∀x,(u x).1=x.1):(fs.map u).map (·.1)=fs.map (·.1):=by
 simp_all
structure KB(A B:Ab):Prop where
 names:B.names=A.names
 aI:B.aI=A.aI
 fs:B.fs=A.fs
 writes:B.writes=A.writes
 room:B.room=A.room
theorem KB.refl(A:Ab):KB A A:=⟨rfl,rfl,rfl,rfl,rfl⟩
def vE(A:Ab)(ok:Bool):KB A (A.meet ok).2:=by
 unfold Ab.meet
 split
 ·exact KB.refl A
 split
 ·exact KB.refl A
 split
 ·exact KB.refl A
 split
 ·exact⟨rfl,rfl,rfl,rfl,rfl⟩
 split <;> exact⟨rfl,rfl,rfl,rfl,rfl⟩
theorem wm(A:Ab)(nm:ByteArray)(ok:Bool):KB A (A.find nm ok).2.2∧((A.find nm ok).1=0→∃f,A.look nm=some f∧(A.find nm ok).2.1=some f):=by
 have hm:=vE A ok
 unfold Ab.find
 split
 ·have hl:(A.meet ok).2.look nm=A.look nm:=by unfold Ab.look;rw[hm.names]
  grind
 grind
theorem AD(h:gq nm A e B):(e≠0∧KB A B)∨(e=0∧A.look nm=none∧∃f,f ∉ A.fs.map (·.1)∧B.names=A.names++[(nm,f)]∧B.aI=A.aI++[A.names++[(nm,f)]]∧B.fs=(f,[],[])::A.fs∧B.writes=A.writes):=by
 obtain⟨f,hf,hc⟩:=h
 have hm:=vE A (isName nm)
 unfold Ab.create at hc
 have hl:(A.meet (isName nm)).2.look nm=A.look nm:=by unfold Ab.look;rw[hm.names]
 split at hc
 ·split at hc
  ·grind
  split at hc
  ·grind
  ·rename_i h1 h2 h3
   injection hc with h4 h5
   subst h4 h5
   refine .inr ⟨rfl,?_,f,hf,by simp[Ab.nU,hm.names],by simp[Ab.nU,hm.names,hm.aI],by simp[hm.fs],hm.writes⟩
   simp_all
 grind
theorem zY{o:ByteArray}(h:u3 o nm A e B):(e≠0∧KB A B)∨(e=0∧∃f,A.look o=some f∧B.names=Ab.jl (Ab.dZ A.names o) nm f∧B.aI=A.aI++[Ab.jl (Ab.dZ A.names o) nm f]∧B.fs=A.fs∧B.writes=A.writes):=by
 have hf:=wm A o ([o,nm].all isName)
 unfold u3 Ab.rename at h
 generalize hx:A.find o ([o,nm].all isName)=r at h hf
 obtain⟨e1,oo,A1⟩:=r
 obtain⟨hq,hs⟩:=hf
 simp only at hq hs h
 by_cases h0:e1=0
 ·subst h0
  obtain⟨f,h1,rfl⟩:=hs rfl
  simp only at h
  injection h with h2 h3
  subst h2 h3
  exact .inr ⟨rfl,f,h1,by simp[Ab.nU,hq.names],by simp[Ab.nU,hq.names,hq.aI],hq.fs,hq.writes⟩
 grind
theorem Bp{at_:Nat}{b:List UInt8}(h:uw nm at_ b A e B):(e≠0∧KB A B)∨(e=0∧∃f,A.look nm=some f∧B.names=A.names∧B.aI=A.aI∧B.fs=Ab.zI A.fs f (cX (A.now f) at_ b)∧B.writes=A.writes++[(f,at_,b)]):=by
 have hf:=wm A nm (kF nm at_ b)
 unfold uw Ab.write at h
 generalize hx:A.find nm (kF nm at_ b)=r at h hf
 obtain⟨e1,oo,A1⟩:=r
 obtain⟨hq,hs⟩:=hf
 simp only at hq hs h
 by_cases h0:e1=0
 ·subst h0
  obtain⟨f,h1,rfl⟩:=hs rfl
  rw[if_pos rfl]at h
  simp only at h
  split at h
  ·grind
  ·injection h with h2 h3
   subst h2 h3
   have hn:A1.now f=A.now f:=by unfold Ab.now Ab.file;rw[hq.fs]
   exact .inr ⟨rfl,f,h1,hq.names,hq.aI,by simp only;rw[hq.fs,hn],by simp only;rw[hq.writes]⟩
 grind
theorem D7(h:zO nm A e B):(e≠0∧KB A B)∨(e=0∧∃f,A.look nm=some f∧B.names=A.names∧B.aI=A.aI∧B.fs=Ab.me A.fs f∧B.writes=A.writes.filter fun x => !decide (x.1=f)):=by
 have hf:=wm A nm (isName nm)
 unfold zO Ab.sync at h
 generalize hx:A.find nm (isName nm)=r at h hf
 obtain⟨e1,oo,A1⟩:=r
 obtain⟨hq,hs⟩:=hf
 simp only at hq hs h
 by_cases h0:e1=0
 ·subst h0
  obtain⟨f,h1,rfl⟩:=hs rfl
  rw[if_pos rfl]at h
  simp only at h
  injection h with h2 h3
  subst h2 h3
  exact .inr ⟨rfl,f,h1,hq.names,hq.aI,by simp only;rw[hq.fs],by simp only;rw[hq.writes]⟩
 grind
theorem tX(h:dO A e B):(e≠0∧KB A B)∨(e=0∧B.names=A.names∧B.aI=[A.names]∧B.fs=A.fs∧B.writes=A.writes):=by
 have hm:=vE A true
 unfold dO Ab.cq at h
 split at h
 ·injection h with h1 h2
  subst h1 h2
  exact .inr ⟨rfl,hm.names,by simp[hm.names],hm.fs,hm.writes⟩
 grind
abbrev Nms:=List (ByteArray × Nat)
theorem E3(l:Nms)(k nm:ByteArray)(f:Nat):Ab.cK (l++[(k,f)]) nm=(Ab.cK l nm).or (if nm=k then some f else none):=by
 unfold Ab.cK
 grind
def Az(h:B.fs=A.fs)(f:Nat):B.file f=A.file f:=by unfold Ab.file;rw[h]
theorem MW(h:B.fs=(f,[],[])::A.fs)(g:Nat):B.file g=if f=g then([],[])else A.file g:=by
 unfold Ab.file
 grind
theorem MU{c:List UInt8}(h:B.fs=Ab.zI A.fs f c){g:Nat}(hg:g∈A.fs.map (·.1)):B.file g=if g=f then(c,(A.file g).2)else A.file g:=by
 have h1:B.file g=({ A with fs:=A.fs.map fun x=>if x.1=f then(x.1,c,x.2.2)else x }:Ab).file g:=Az h g
 grind [CY]
theorem Ju(h:B.fs=Ab.me A.fs f){g:Nat}(hg:g∈A.fs.map (·.1)):B.file g=if g=f then((A.file g).1,(A.file g).1)else A.file g:=by
 have h1:B.file g=({ A with fs:=A.fs.map fun x=>if x.1=f then(x.1,x.2.1,x.2.1)else x }:Ab).file g:=Az h g
 grind [CY]
def O5(h:B.fs=(f,[],[])::A.fs):B.fs.map (·.1)=f::A.fs.map (·.1):=by rw[h];rfl
def O4{c:List UInt8}(h:B.fs=Ab.zI A.fs f c):B.fs.map (·.1)=A.fs.map (·.1):=by rw[h];exact GY _ _ (fun x=>by split <;> rfl)
def Mh(h:B.fs=Ab.me A.fs f):B.fs.map (·.1)=A.fs.map (·.1):=by rw[h];exact GY _ _ (fun x=>by split <;> rfl)
end Go.Proofs.YtjpboghdolfekaaGreatDoor
namespace Go.SL
open Go
abbrev od:=BitVec 64
def Om(x:od):Value := .int .u64 (x.toNat:Int)
def qV(l:List od):List Value:=l.map Om
def ZP(l:List od):(qV l).length=l.length:=by simp[qV]
def Ll{l:List od}{i:Nat}{x:od}(h:l[i]?=some x):(qV l)[i]?=some (Om x):=by simp[qV,h]
def Lk(l:List od)(i:Nat)(x:od):(qV l).set i (Om x)=qV (l.set i x):=by simp[qV]
def Gp(n:Nat):IntKind.u64.wrap (n:Int)=((n%18446744073709551616:Nat):Int):=by
 simp[IntKind.wrap,IntKind.bits,IntKind.signed]
theorem oC(p:od):BitVec.ofInt IntKind.u64.bits ((p.toNat:Nat):Int)=p:=by
 apply BitVec.eq_of_toNat_eq
 have h:IntKind.u64.bits=64:=rfl
 grind
section
variable{P:Program}{U:Tr}[hU:eO P U]{f:FuncId}{n:Nat}{R:Ending→World→Prop}{G:cg}{k:List Item}{L:eC}{H H':List HP}{S:World→Prop}{all:Array Oper}{rest:Pl}{ty:TypeId}{pos:String}{af:Array Edge}{gd:Option (Nat × Bool)}{m:Bool}{d:Tmp}
theorem oe(p:od):IntKind.u64.wrap (p.toNat:Int)=(p.toNat:Int):=by
 rw[Gp];have:=p.isLt;congr 1;omega
def NQ{t yt:TypeId}{x y:Operand}{p:od}{j':IntKind}{q:Int}(s:Nat)(hd:Nat.blt d n=true)(hx:ev L x=some (.int .u64 (p.toNat:Int)))(hy:ev L y=some (.int j' q))(hq:q=(s:Int))(hs:s≤64)(h:J P f n R G S all rest k ((d,.int .u64 ((p >>> s).toNat:Int))::L) H):J P f n R G S all (.cons m true ⟨some d,.binOp .shr t x y yt,ty,pos,af,gd⟩ rest) k L H:=by
 subst hq
 refine fL hd hx hy aj ?_
 have e:(p.toNat:Int)/2 ^ (min ((s:Int).toNat) IntKind.u64.bits)=((p >>> s).toNat:Int):=by
  rw[BitVec.toNat_ushiftRight,Nat.shiftRight_eq_div_pow,Int.toNat_natCast,show min s IntKind.u64.bits=s from by show min s 64=s;omega]
  simp
 rw[e];exact h
def aa6{t yt:TypeId}{x y:Operand}{p:od}{j':IntKind}{q:Int}(s:Nat)(hd:Nat.blt d n=true)(hx:ev L x=some (.int .u64 (p.toNat:Int)))(hy:ev L y=some (.int j' q))(hq:q=(s:Int))(hs:s≤64)(h:J P f n R G S all rest k ((d,.int .u64 ((p <<< s).toNat:Int))::L) H):J P f n R G S all (.cons m true ⟨some d,.binOp .shl t x y yt,ty,pos,af,gd⟩ rest) k L H:=by
 subst hq
 refine l4 hd hx hy aj ?_
 have e:IntKind.u64.wrap ((p.toNat:Int)*2 ^ (min ((s:Int).toNat) IntKind.u64.bits))=((p <<< s).toNat:Int):=by
  rw[BitVec.toNat_shiftLeft,Nat.shiftLeft_eq,Int.toNat_natCast,show min s IntKind.u64.bits=s from by show min s 64=s;omega]
  rw[show(p.toNat:Int)*2 ^ s=((p.toNat*2 ^ s:Nat):Int)from by simp,Gp]
 rw[e];exact h
end
end Go.SL
