import Derived.Test.YtjpboghdolfekaaGreatDoorQMQ2
import Derived.Test.YtjpboghdolfekaaGreatDoorQMQ3
import Derived.Test.YtjpboghdolfekaaGreatDoorQMQ4
set_option linter.unusedSimpArgs false
set_option linter.unusedVariables false
set_option linter.defProp false
namespace Go.Proofs.YtjpboghdolfekaaGreatDoor
open Go Go.SL
variable{A:Ab}{k:ByteArray}{dS:Int}{files:List (Nat × Value × Value)}{H:List HP}{b n s stay:List UInt8}{x:List UInt8 × List UInt8}{f i j:Nat}{v v1 v2:Value}{w:World}{G:cg}{arrs':eG}
attribute [local irreducible] J K aw Ends ag aH au bE aW
def um(A X:HP)(v:Value)(bs:List UInt8)(hv:Vw A v bs.length (bV bs))(hlen:bs.length≤9223372036854775807)(g:FuncId)(cap:List Value)(p:UInt8→Bool)(hf:∀x∈bs,aw Tryz.prog g (u8 x::cap) [X] (fun v H=>v = .bool (p x)∧H=[X])) :
  aw Tryz.prog 475 [v,.func (.func g) #[] cap.toArray] [A,X] (fun r H=>r = .int .i64 (iR p bs)∧H=[A,X]):=by
 obtain⟨a,c0,rfl⟩:=hv.shape
 refine aw.enter Tryz.func475 ae rfl Tryz.ntmps475 zr zr ?_
 intro G F R hR
 refine go ?_
 refine bj (fun i:Nat=>i≤bs.length∧∀y∈bs.take i,p y=false) (fun i=>bs.length-i) (fun i=>[(0,.slice a bs.length c0),(1,.func (.func g) #[] cap.toArray),(7,.int .i64 bs.length),(8,.int .i64 i)]) (fun _=>[A,X]++F) 0 ⟨by simp,by simp⟩ rfl bO (ak.refl _) ?_
 rintro i⟨hi,hb⟩ ih
 refine go ?_
 refine aD zr zr ?_ ?_
 ·intro cB
  refine go ?_
  have dP:i<bs.length:=by omega
  obtain⟨b,o,fX,eR⟩:=hv.some (by rw[← List.length_pos_iff,bK];omega)
  simp only[Value.slice.injEq]at eR
  obtain⟨rfl,_,rfl⟩:=eR
  refine bD i zr zr zr zr zr zr zr zr dP ?_
  have hx:bs[i]?=some bs[i]:=by simp[dP]
  refine rH (U:=aY) 0 zr zr zr (hv.cell (sQ hx)) zr zr ?_
  refine bS [1] zr zr zr zr (hf bs[i] (List.getElem_mem dP)) rfl iM ?_
  rintro _ _⟨rfl,rfl⟩
  refine go ?_
  refine ep zr zr ?_ ?_
  ·intro hp
   refine go ?_
   refine aL hR Tryz.func475 rfl _ rfl ⟨by rw[jq hx hp hb];rfl,rfl⟩ (ak.fin [1,0] 0 zr zr)
  ·intro hp
   refine go ?_
   refine aK ih (i+1) rfl ⟨aj,nE hb hx hp⟩ aj bO (ak.pick [1,0] rfl)
 ·intro eN
  refine go ?_
  have:i=bs.length:=by omega
  subst this
  refine aL hR Tryz.func475 rfl _ rfl ⟨by rw[ki (fun x hx=>hb x (by simpa using hx))];rfl,rfl⟩ (ak.fin [0,1] 0 zr zr)
def okc(x:UInt8):Bool:=decide (97≤x.toNat∧x.toNat≤122∨48≤x.toNat∧x.toNat≤57∨x.toNat=45∨x.toNat=46)
def Il(X:HP)(x:UInt8):aw Tryz.prog 404 [u8 x] [X] (fun v H=>v = .bool (!okc x)∧H=[X]):=by
 refine aw.enter Tryz.func404 ae rfl Tryz.ntmps404 zr zr ?_
 intro G F R hR
 have hx:=abb x
 repeat'(first|(with_reducible intro kQ)|refine eK ?_|refine ew zr zr zr zr ?_ ?_|fail)
 all_goals refine aL hR Tryz.func404 rfl _ rfl ⟨congrArg Value.bool (by rw[Bool.eq_iff_iff];simp[okc];omega),rfl⟩ (ak.fin [0] 0 zr zr)
theorem qt(A X:HP)(v:Value)(bs:List UInt8)(hv:Vw A v bs.length (bV bs))(hlen:bs.length≤9223372036854775807)(g:FuncId)(cap:List Value)(p:UInt8→Bool)(hf:∀x∈bs,aw Tryz.prog g (u8 x::cap) [X] (fun v H=>v = .bool (p x)∧H=[X])) :
  aw Tryz.prog 405 [v,.func (.func g) #[] cap.toArray] [A,X] (fun r H=>r = .bool (bs.any p)∧H=[A,X]):=by
 refine aw.enter Tryz.func405 ae rfl Tryz.ntmps405 zr zr ?_
 intro G F R hR
 refine go ?_
 refine bS [0,1] zr zr zr zr (um A X v bs hv hlen g cap p hf) rfl iM ?_
 rintro _ _⟨rfl,rfl⟩
 refine go ?_
 have hb:decide (0≤iR p bs)=bs.any p:=by
  have := @kJ _ p bs
  cases h:bs.any p with
  | false=>rw[h]at this;exact decide_eq_false (by have:=this.2 rfl;omega)
  | true =>
   grind
 refine aL hR Tryz.func405 rfl _ rfl ⟨congrArg Value.bool hb,rfl⟩ (ak.fin [0,1] 0 zr zr)
def isName(s:ByteArray):Bool:=decide (1≤s.size∧s.size≤80) && s.data.toList.all okc
theorem IW{s:ByteArray}(h1:1≤s.size)(h2:s.size≤80):isName s = !(s.data.toList.any fun x => !okc x):=by
 grind [isName]
theorem Aj{s:ByteArray}(h1:s.size<1):isName s=false:=by simp[isName];omega
theorem Ct{s:ByteArray}(h1:80<s.size):isName s=false:=by simp[isName];omega
theorem iE(A:HP)(v:Value)(l:List ByteArray)(hv:Vw A v l.length (l.map Value.string))(hlen:l.length≤1000000) :
  aw Tryz.prog 284 [v] [A] (fun r H=>r = .bool (l.all isName)∧H=[A]):=by
 obtain⟨a,c0,rfl⟩:=hv.shape
 refine aw.enter Tryz.func284 ae rfl Tryz.ntmps284 zr zr ?_
 intro G F R hR
 refine ai (ak.jO _) (go ?_)
 refine bj (fun i:Nat=>i≤l.length∧∀y∈l.take i,isName y=true) (fun i=>l.length-i) (fun i=>[(3,.func (.func 404) #[] #[]),(6,.slice a l.length c0),(7,.int .i64 l.length),(8,.int .i64 i)]) (fun _=>emp::([A]++F)) 0 ⟨by simp,by simp⟩ rfl bO (ak.refl _) ?_
 rintro i⟨hi,hb⟩ ih
 refine go ?_
 refine aD zr zr ?_ ?_
 ·intro cB
  refine go ?_
  have dP:i<l.length:=by omega
  obtain⟨b,o,fX,eR⟩:=hv.some (by rw[← List.length_pos_iff,List.length_map];omega)
  simp only[Value.slice.injEq]at eR
  obtain⟨rfl,_,rfl⟩:=eR
  refine bD i zr zr zr zr zr zr zr zr dP ?_
  obtain⟨s,hs⟩:∃s,l[i]?=some s:=⟨l[i],by simp[dP]⟩
  refine rH (U:=aY) 1 zr zr zr (hv.cell (c := .string s) (by simp[hs])) zr zr ?_
  have dU:s∈l:=List.mem_of_getElem? hs
  repeat'(first|(with_reducible intro kQ)|refine eK ?_|refine ew zr zr zr zr ?_ ?_|fail)
  ·have hn:l.all isName=false:=by
    grind [Aj]
   refine aL hR Tryz.func284 rfl _ rfl ⟨congrArg Value.bool hn.symm,rfl⟩ (ak.fin [1] 1 zr zr)
  ·have hn:l.all isName=false:=by
    grind [Ct]
   refine aL hR Tryz.func284 rfl _ rfl ⟨congrArg Value.bool hn.symm,rfl⟩ (ak.fin [1] 1 zr zr)
  ·have nR:=IW (s:=s) aj aj
   refine J4 (U:=aY) zr zr zr zr zr zr zr zr (fun _ _ _ _=>trivial) ?_
   intro bb cc
   refine go ?_
   refine bS [0,1] zr zr zr zr (qt (aW bb s _ cc) emp _ s.data.toList (by simpa using Em bb s _ cc cc) (by simp;omega) _ [] _ (fun x _=>Il emp x)) rfl iM ?_
   rintro _ _⟨rfl,rfl⟩
   refine go ?_
   refine ep zr zr ?_ ?_
   ·intro ht
    refine go ?_
    have hn:l.all isName=false:=by
     grind
    refine aL hR Tryz.func284 rfl _ rfl ⟨congrArg Value.bool hn.symm,rfl⟩ (ak.fin [2] 2 zr zr)
   ·intro hf
    refine go ?_
    refine aK ih (i+1) rfl ⟨aj,nE hb hs (by rw[nR,hf];rfl)⟩ aj bO (ak.to [1,2] 1 zr zr zr)
 ·intro eN
  refine go ?_
  have:i=l.length:=by omega
  subst this
  refine aL hR Tryz.func284 rfl _ rfl ⟨congrArg Value.bool (by rw[eq_comm,List.all_eq_true];intro x hx;exact hb x (by simpa using hx)),rfl⟩ (ak.fin [1] 1 rfl rfl)
theorem rX(A:HP)(v1 v2:Value)(old b:List UInt8)(at_:Nat)(h1:Vw A v1 old.length (bV old))(h2:Vw A v2 b.length (bV b))(hb:old.length+at_+b.length≤1000000000) :
  aw Tryz.prog 97 [v1,.int .i64 at_,v2] [A] (fun r H=>∃bl cap,r = .slice (some ⟨bl,0,none⟩) (cX old at_ b).length cap∧(cX old at_ b).length≤cap∧H=[ag bl (cl (bV (cX old at_ b)) 5),A]):=by
 obtain⟨a1,c1,rfl⟩:=h1.shape
 obtain⟨a2,c2,rfl⟩:=h2.shape
 refine aw.enter Tryz.func97 ae rfl Tryz.ntmps97 zr zr ?_
 intro G F R hR
 refine go ?_
 have hN:(max old.length (at_+b.length):Nat)=max old.length (at_+b.length):=rfl
 generalize hM:max old.length (at_+b.length)=M at *
 refine aC 14 (.int .i64 (M:Int)) rfl (congrArg (Value.int .i64) aj) ?_
 refine hJ (p:=M) (q:=M) zr zr zr zr zr zr zr zr zr (Nat.le_refl _) aj (by show 1*M≤_;omega) bq ?_
 intro bl
 refine go ?_
 refine NW (U:=aY) (src:=bV old) (mm:=old.length) (l':=bV (old++List.replicate (M-old.length) 0)) 0 1 zr zr zr zr zr zr zr zr h1 (by show _=_*1;rw[bK];omega) (dL old) (by show 0+_*1≤_;simp;omega) ?_ rfl fE ?_
 ·show bV (old++List.replicate (M-old.length) 0)=List.take 0 (List.replicate M (Value.int .u8 0))++List.take (min old.length M*1) (bV old)++List.drop (0+min old.length M*1) (List.replicate M (Value.int .u8 0))
  have e:min old.length M*1=old.length:=by omega
  rw[e,List.take_of_length_le (l:=bV old) (by rw[bK];omega)]
  simp[bV,u8]
 refine go ?_
 refine iF zr zr zr zr zr zr zr aj aj (.inl rfl) ?_
 intro o' G8 QH
 have hA:at_≠M→o'=at_:=fun h=>by have:=G8 (by simpa using h);rw[this];show 0+(at_:Int).toNat*1=at_;simp
 have hB:at_=M→o'=0:=fun h=>QH (by simpa using h)
 clear G8 QH
 have aak:(min b.length ((M:Int).toNat-(at_:Int).toNat))*1=b.length:=by simp;omega
 refine go ?_
 refine NW (U:=aY) (src:=bV b) (mm:=b.length) (l':=bV (cX old at_ b)) 0 1 zr zr zr zr zr zr zr zr h2 (by show _=_*1;rw[bK];omega) (dL b) ?_ ?_ rfl fE ?_
 ·show o'+(min b.length ((M:Int).toNat-(at_:Int).toNat))*1≤_
  grind [bK]
 ·show bV (cX old at_ b)=List.take o' _++List.take (min b.length ((M:Int).toNat-(at_:Int).toNat)*1) (bV b)++List.drop (o'+min b.length ((M:Int).toNat-(at_:Int).toNat)*1) _
  rw[aak,List.take_of_length_le (l:=bV b) (by rw[bK];omega)]
  have aad:at_+b.length-old.length=M-old.length:=by omega
  unfold cX
  rw[aad]
  by_cases h:at_=M
  ·have h3:=hB h
   have h4:b=[]:=List.eq_nil_of_length_eq_zero aj
   grind [bV]
  ·rw[hA h]
   simp[bV]
 ·have hl:(cX old at_ b).length=M:=by unfold cX;simp;omega
  rw[← hl]
  refine go ?_
  refine aL hR Tryz.func97 rfl _ rfl ⟨bl,_,rfl,Nat.le_refl _,rfl⟩ (ak.fin [0,1] 0 zr zr)
attribute [local irreducible] aJ a6
def dT(l:List (ByteArray × Nat)):List (ByteArray × Value):=l.map fun x=>(x.1,ptr x.2)
structure Dk where
 room:Nat
 bm:Nat
 k5:Value
 mJ:Value
 l5:Value
 off:Bool
 maps:List (Nat × List (ByteArray × Value))
 dg:eG
 files:List (Nat × Value × Value)
 fg:List Nat
 wl:List (Nat × Nat × Value)
def jB(x:Nat × List (ByteArray × Value)):HP:=au Value.string x.1 x.2
def eh(x:Nat × Value × Value):HP:=ag x.1 (cl [x.2.1,x.2.2] 199)
def ei(l:List (Nat × Nat × Value)):List Value:=l.flatMap fun x=>[ptr x.1,.int .i64 x.2.1,x.2.2]
def Q4(bd:Nat)(D:Dk):List HP :=
  [ag bd (cl [.int .i64 D.room,.map (some D.bm),D.k5,D.mJ,D.l5,.bool D.off] 98),aJ jB D.maps,a6 5 D.dg,aJ eh D.files,
   aH 94 1 D.k5 D.fg.length (D.fg.map fun b => .map (some b)),aH 195 3 D.mJ D.wl.length (ei D.wl)]
def fG(bd:Nat)(D:Dk):HP:=Sep (Q4 bd D)
def gD(bd room bm:Nat)(k5 mJ l5:Value)(off:Bool)(maps:List (Nat × List (ByteArray × Value)))(dg:eG)(files:List (Nat × Value × Value))(fg:List Nat)(wl:List (Nat × Nat × Value))(H:List HP) :
  ak (fG bd ⟨room,bm,k5,mJ,l5,off,maps,dg,files,fg,wl⟩::H)
   (ag bd (cl [.int .i64 room,.map (some bm),k5,mJ,l5,.bool off] 98)::aJ jB maps::a6 5 dg::aJ eh files::aH 94 1 k5 fg.length (fg.map fun b => .map (some b))::aH 195 3 mJ wl.length (ei wl)::H):=ak.cL _ _
def dy(bd room bm:Nat)(k5 mJ l5:Value)(off:Bool)(maps:List (Nat × List (ByteArray × Value)))(dg:eG)(files:List (Nat × Value × Value))(fg:List Nat)(wl:List (Nat × Nat × Value))(H:List HP) :
  ak (ag bd (cl [.int .i64 room,.map (some bm),k5,mJ,l5,.bool off] 98)::aJ jB maps::a6 5 dg::aJ eh files::aH 94 1 k5 fg.length (fg.map fun b => .map (some b))::aH 195 3 mJ wl.length (ei wl)::H)
   (fG bd ⟨room,bm,k5,mJ,l5,off,maps,dg,files,fg,wl⟩::H):=ak.bT (Q4 bd ⟨room,bm,k5,mJ,l5,off,maps,dg,files,fg,wl⟩) H
structure Rel(D:Dk)(A:Ab):Prop where
 room:D.room=A.room
 off:D.off=A.off
 names:(D.bm,dT A.names)∈D.maps
 aI:eM (fun b es=>(b,dT es)∈D.maps) D.fg A.aI
 fs:eM (fun x y=>x.1=y.1∧jx D.dg x.2.1 y.2.1∧jx D.dg x.2.2 y.2.2) D.files A.fs
 writes:eM (fun x y=>x.1=y.1∧x.2.1=y.2.1∧jx D.dg x.2.2 y.2.2) D.wl A.writes
 cu:jx D.dg D.l5 A.cu
 ids:(A.fs.map (·.1)).Nodup
 known:∀st∈A.names::A.aI,∀x∈st,x.2∈A.fs.map (·.1)
 fC:∀x∈A.writes,x.1∈A.fs.map (·.1)
 nodup:∀st∈A.names::A.aI,(st.map (·.1)).Nodup
 e8:∀x∈A.fs,x.2.1.length≤1048576∧x.2.2.length≤1048576
 fN:∀x∈A.writes,x.2.1+x.2.2.length≤1048576
 ek:∀st∈A.names::A.aI,st.length≤200
 fO:A.room≤1073741824
 iN:A.cu.length≤1000000000
 full:A.aI≠[]
def Rel.OA{D:Dk}(h:Rel D A){p:List UInt8}(o:Bool)(hp:jx D.dg v p)(hl:p.length≤1000000000):Rel { D with l5:=v,off:=o } { A with cu:=p,off:=o } :=
 ⟨h.room,rfl,h.names,h.aI,h.fs,h.writes,hp,h.ids,h.known,h.fC,h.nodup,h.e8,h.fN,h.ek,h.fO,hl,h.full⟩
def Rel.BH{D:Dk}(h:Rel D A){p:List UInt8}(hp:jx D.dg v p)(hl:p.length≤1000000000):Rel { D with l5:=v } { A with cu:=p } :=
 ⟨h.room,h.off,h.names,h.aI,h.fs,h.writes,hp,h.ids,h.known,h.fC,h.nodup,h.e8,h.fN,h.ek,h.fO,hl,h.full⟩
def vF(bd:Nat)(D:Dk)(A:Ab)(hR:Rel D A)(may:Bool) :
  aw Tryz.prog 187 [ptr bd,.bool may] [fG bd D] (fun v H=>∃D',Rel D' (A.meet may).2∧H=[fG bd D']∧v = .int .i64 (A.meet may).1):=by
 obtain⟨room,bm,k5,mJ,l5,off,maps,dg,files,fg,wl⟩:=D
 obtain⟨a,cap,uf,fF⟩:=hR.cu.shape
 simp only at uf
 subst uf
 have iS:=hR.off
 simp only at iS
 refine aw.ao Tryz.func187 Tryz.ntmps187 fun G F R hE=>?_
 refine ai (gD _ _ _ _ _ _ _ _ _ _ _ _ _) ?_
 cases may with
 | false =>
  refine go ?_
  refine aL hE Tryz.func187 rfl _ rfl ⟨_,hR,rfl,rfl⟩ ((ak.pick [0,1,2,3,4,5] rfl).trans (dy _ _ _ _ _ _ _ _ _ _ _ _ _))
 | true =>
  cases off with
  | true =>
   have hm:A.meet true=(7,A):=by simp[Ab.meet,← iS]
   rw[hm]at hE
   refine go ?_
   refine aL hE Tryz.func187 rfl _ rfl ⟨_,hR,rfl,rfl⟩ ((ak.pick [0,1,2,3,4,5] rfl).trans (dy _ _ _ _ _ _ _ _ _ _ _ _ _))
  | false =>
   refine go ?_
   refine ep zr zr ?_ ?_
   ·intro h0
    have n9:A.cu=[]:=List.eq_nil_of_length_eq_zero (by have:=of_decide_eq_true h0;omega)
    have hm:A.meet true=(0,A):=by simp[Ab.meet,← iS,n9]
    rw[hm]at hE
    refine go ?_
    refine aL hE Tryz.func187 rfl _ rfl ⟨_,hR,rfl,rfl⟩ ((ak.pick [0,1,2,3,4,5] rfl).trans (dy _ _ _ _ _ _ _ _ _ _ _ _ _))
   ·intro h0
    obtain⟨x,p,Ob⟩:∃x p,A.cu=x::p:=by
     cases h:A.cu with
     | nil=>rw[h]at h0;simp at h0
     | cons x p=>exact⟨x,p,rfl⟩
    have hm:A.meet true=if x=1 then(6,{ A with cu:=p })else if x=2 then(7,{ A with cu:=p,off:=true })else(0,{ A with cu:=p }):=by simp[Ab.meet,← iS,Ob]
    have aaF:jx dg (.slice a A.cu.length cap) (x::p):=by have:=hR.cu;rw[Ob]at this;rw[Ob];exact this
    have hlen:A.cu.length=p.length+1:=by rw[Ob];rfl
    have nu:=hR.iN
    obtain⟨b,o,fX,eR⟩:=(aaF.view 5).some (by simp[bV])
    simp only[Value.slice.injEq]at eR
    obtain⟨rfl,_,rfl⟩:=eR
    refine go ?_
    refine bD 0 zr zr zr zr zr zr zr zr aj ?_
    refine rH (U:=aY) 2 zr zr zr (Vw.cell (cap:=cap) (n:=(x::p).length) (cs:=bV (x::p)) (by rw[← Ob];exact hR.cu.view _) (c:=u8 x) (by simp[bV])) zr zr ?_
    refine go ?_
    refine iF zr zr zr zr zr zr zr aj aj (.inl rfl) ?_
    intro o' G8 _
    have hn:(A.cu.length:Int).toNat-(1:Int).toNat=p.length:=by omega
    rw[hn]
    have hp:jx dg (.slice (some ⟨b,o',none⟩) p.length (cap-(1:Int).toNat)) p:=aaF.tail o' _ (fun gf=>G8 (by
     have:0<p.length:=List.length_pos_iff.2 gf
     omega)) aj
    have hoA:A.off=false:=iS.symm
    have hR1:=hR.BH hp aj
    have MP:=hR.OA true hp aj
    clear aaF hp G8
    refine go ?_
    refine aD zr zr ?_ ?_
    ·intro hx
     have hx1:x=1:=KM hx
     rw[hm,if_pos hx1]at hE
     refine go ?_
     refine aL hE Tryz.func187 rfl _ rfl ⟨_,hR1,rfl,rfl⟩ ((ak.pick [0,1,2,3,4,5] rfl).trans (dy _ _ _ _ _ _ _ _ _ _ _ _ _))
    ·intro hx
     have hx1:x≠1:=fun h=>hx (by rw[h];rfl)
     refine go ?_
     refine aD zr zr ?_ ?_
     ·intro hy
      have Cv:x=2:=KM hy
      rw[hm,if_neg hx1,if_pos Cv]at hE
      refine go ?_
      refine aL hE Tryz.func187 rfl _ rfl ⟨_,MP,rfl,rfl⟩ ((ak.pick [0,1,2,3,4,5] rfl).trans (dy _ _ _ _ _ _ _ _ _ _ _ _ _))
     ·intro hy
      have Cv:x≠2:=fun h=>hy (by rw[h];rfl)
      rw[hm,if_neg hx1,if_neg Cv]at hE
      refine go ?_
      refine aL hE Tryz.func187 rfl _ rfl ⟨_,hR1,rfl,rfl⟩ ((ak.pick [0,1,2,3,4,5] rfl).trans (dy _ _ _ _ _ _ _ _ _ _ _ _ _))
theorem nD(l:List (ByteArray × Nat))(name:ByteArray):cF (dT l) name=(Ab.cK l name).map ptr:=by
 unfold cF Ab.cK dT
 induction l with
 | nil=>rfl
 | cons x l ih =>
  grind
def iQ{maps:List (Nat × List (ByteArray × Value))}{b:Nat}{es:List (ByteArray × Value)}(hs:Sat G w H)(hi:bU H i=some (aJ jB maps))(hm:(b,es)∈maps) :
  ∃o,oF Value.string o es∧w.heap[b]?=some o:=by
 obtain⟨h,hh,hA⟩:=hs.jM hi
 obtain⟨h',s,hb⟩:=yw hm hA
 unfold jB au at hb
 obtain⟨o,ho,hp⟩:=hb
 unfold ag at hp
 exact⟨o,ho,hh b o (s b o (by rw[hp b];simp))⟩
def tY:jg Tryz.prog 9 Value.string:=Mc Tryz.underlying9
def ZX:Option Nat→Value
 | none => .pointer none
 | some f=>ptr f
def iW(bd:Nat)(D:Dk)(A:Ab)(hR:Rel D A)(name:ByteArray)(may:Bool) :
  aw Tryz.prog 283 [ptr bd,.string name,.bool may] [fG bd D] (fun v H=>∃D',Rel D' (A.find name may).2.2∧H=[fG bd D']∧v = .tuple #[ZX (A.find name may).2.1,.int .i64 (A.find name may).1]):=by
 refine aw.ao Tryz.func283 Tryz.ntmps283 fun G F R hE=>?_
 refine go ?_
 refine bS [0] zr zr zr zr (vF bd D A hR may) rfl iM ?_
 rintro _ _⟨D',fh,rfl,rfl⟩
 refine go ?_
 refine ep zr zr ?_ ?_
 ·intro h0
  have n9:¬(A.meet may).1=0:=by have:=of_decide_eq_true h0;omega
  have hf:A.find name may=((A.meet may).1,none,(A.meet may).2):=by simp[Ab.find,n9]
  rw[hf]at hE
  refine go ?_
  refine aL hE Tryz.func283 rfl _ rfl ⟨D',fh,rfl,rfl⟩ (ak.pick [0] rfl)
 ·intro h0
  have n9:(A.meet may).1=0:=by have:=of_decide_eq_false h0;omega
  obtain⟨room,bm,k5,mJ,l5,off,maps,dg,files,fg,wl⟩:=D'
  refine ai (gD _ _ _ _ _ _ _ _ _ _ _ _ _) (go ?_)
  refine o6 (U:=aY) rfl tY zr zr zr zr zr zr zr (fun w hw=>iQ (i:=1) hw rfl fh.names) ?_
  rw[nD]
  cases hl:Ab.cK (A.meet may).2.names name with
  | none =>
   have hf:A.find name may=(4,none,(A.meet may).2):=by simp[Ab.find,n9,Ab.look,hl]
   rw[hf]at hE
   refine go ?_
   refine aL hE Tryz.func283 rfl _ rfl ⟨_,fh,rfl,rfl⟩ ((ak.pick [0,1,2,3,4,5] rfl).trans (dy _ _ _ _ _ _ _ _ _ _ _ _ _))
  | some fl =>
   have hf:A.find name may=(0,some fl,(A.meet may).2):=by simp[Ab.find,n9,Ab.look,hl]
   rw[hf]at hE
   refine go ?_
   refine aL hE Tryz.func283 rfl _ rfl ⟨_,fh,rfl,rfl⟩ ((ak.pick [0,1,2,3,4,5] rfl).trans (dy _ _ _ _ _ _ _ _ _ _ _ _ _))
theorem qh{α:Type}{l:List (Nat × α)}(hn:(l.map (·.1)).Nodup){x:α}(hi:l[i]?=some (f,x)):(l.find? fun x=>decide (x.1=f))=some (f,x):=by
 induction l generalizing i with
 | nil=>simp at hi
 | cons y l ih =>
  grind
def Rel.file{D:Dk}(h:Rel D A)(hf:f∈A.fs.map (·.1)):∃(i:Nat) (v1 v2:Value),D.files[i]?=some (f,v1,v2)∧A.fs[i]?=some (f,A.now f,A.sure f)∧jx D.dg v1 (A.now f)∧jx D.dg v2 (A.sure f):=by
 obtain⟨⟨f',n,s⟩,hm,rfl⟩:=List.mem_map.1 hf
 obtain⟨i,hi⟩:=List.getElem?_of_mem hm
 obtain⟨⟨f2,v1,v2⟩,hx,h1,h2,h3⟩:=h.fs.right hi
 simp only at h1 h2 h3
 subst h1
 have y5:A.file f2=(n,s):=by unfold Ab.file;rw[qh h.ids hi];rfl
 refine⟨i,v1,v2,hx,?_,?_,?_⟩
 ·rw[hi];simp[Ab.now,Ab.sure,y5]
 ·simpa[Ab.now,y5]using h2
 ·simpa[Ab.sure,y5]using h3
def Rel.small{D:Dk}(h:Rel D A)(f:Nat):(A.now f).length≤1048576∧(A.sure f).length≤1048576:=by
 unfold Ab.now Ab.sure Ab.file
 cases hf:A.fs.find? fun x=>decide (x.1=f)with
 | none=>simp
 | some x=>simpa using h.e8 x (List.mem_of_find?_eq_some hf)
def wu(hs:Sat G w H)(hi:bU H i=some (aJ eh files))(hm:files[j]?=some (f,v1,v2)) :
  w.heap[f]?=some (cl [v1,v2] 199):=by
 obtain⟨h,hh,hA⟩:=hs.jM hi
 obtain⟨h',s,hb⟩:=yw (List.mem_of_getElem? hm) hA
 unfold eh ag at hb
 exact hh f _ (s f _ (by rw[hb f];simp))
def ri(hs:Sat G w H)(hi:bU H i=some (aJ eh files))(hm:files[j]?=some (f,v1,v2)) :
  w.cell? ⟨f,0,none⟩=some v1:=by rw[cZ (wu hs hi hm)];rfl
theorem nj{l:List (ByteArray × Nat)}(hn:(l.map (·.1)).Nodup)(h:(k,f)∈l):Ab.cK l k=some f:=by
  obtain⟨i,hi⟩:=List.getElem?_of_mem h
  have:cF (l.map fun x=>(x.1,Value.int .i64 x.2)) k=some (.int .i64 f):=zx (i:=i) (by simp[hi]) (fun j hj he=>by
    rw[List.map_map]at he
    have h1:(l.map (·.1))[j]?=(l.map (·.1))[i]? := by
      grind
    have:=(List.getElem?_inj (by
      rcases Nat.lt_or_ge j (l.map (·.1)).length with h|h
      · exact h
      · rw[List.getElem?_eq_none h]at h1;simp[hi]at h1) hn).1 h1
    omega)
  unfold cF at this
  unfold Ab.cK
  rw[List.find?_map]at this
  simp only[Option.map_map]at this
  cases hx:l.find? fun x=>decide (x.1=k)with
  | none => have e : (l.find? ((fun x => decide (x.1 = k)) ∘ fun x => (x.1, Value.int IntKind.i64 (x.2 : Nat)))) = none := hx
            rw[e]at this;cases this
  | some y => 
    have e:(l.find? ((fun x=>decide (x.1=k)) ∘ fun x=>(x.1,Value.int IntKind.i64 (x.2:Nat))))=some y:=hx
    grind
theorem oG{l:List (ByteArray × Nat)}(h:Ab.cK l k=some f):(k,f)∈l:=by
 unfold Ab.cK at h
 cases hx:l.find? fun x=>decide (x.1=k)with
 | none=>rw[hx]at h;cases h
 | some y =>
  grind
def lenOf(A:Ab)(k:ByteArray):Nat:=(A.look k).elim 0 fun f=>(A.now f).length
def sumOf(A:Ab)(l:List ByteArray):Nat:=(l.map (lenOf A)).sum
theorem BB(h:∀f,(A.now f).length≤1048576)(l:List ByteArray):sumOf A l≤l.length*1048576:=by
 induction l with
 | nil=>simp[sumOf]
 | cons k l ih =>
  have h1:lenOf A k≤1048576:=by unfold lenOf;cases A.look k with|none=>simp|some f=>exact h f
  grind [sumOf]
def ES{α:Type}[DecidableEq α]{l r:List α}(h1:l.Nodup)(h2:r.Nodup)(h:∀x,x∈l↔x∈r):l.Perm r:=(List.perm_ext_iff_of_nodup h1 h2).2 h
theorem sy{α:Type}[DecidableEq α]{l r:List α}(h1:l.Nodup)(h:∀x∈l,x∈r):l.length≤r.length:=by
 induction l generalizing r with
 | nil=>simp
 | cons x l ih =>
  simp only[List.nodup_cons]at h1
  have:=ih (r:=r.erase x) h1.2 (fun y hy=>(List.mem_erase_of_ne (by rintro rfl;exact h1.1 hy)).2 (h y (by simp[hy])))
  grind
def uW(hn:(A.names.map (·.1)).Nodup):sumOf A (A.names.map (·.1))=A.used:=by
 unfold sumOf Ab.used
 rw[List.map_map]
 congr 1
 apply List.map_congr_left
 rintro⟨k,f⟩ hx
 have:A.look k=some f:=nj hn hx
 simp[lenOf,this]
theorem No(bd:Nat)(D:Dk)(A:Ab)(hR:Rel D A) :
  aw Tryz.prog 394 [ptr bd] [fG bd D] (fun v H=>H=[fG bd D]∧v = .int .i64 A.used):=by
 obtain⟨room,bm,k5,mJ,l5,off,maps,dg,files,fg,wl⟩:=D
 refine aw.ao Tryz.func394 Tryz.ntmps394 fun G F R hE=>?_
 refine ai (gD _ _ _ _ _ _ _ _ _ _ _ _ _) (go ?_)
 obtain⟨j,hj⟩:=List.getElem?_of_mem hR.names
 simp only at hj
 refine aR (ak.pick [1] rfl) ?_
 refine aR (dF jB hj _) ?_
 refine j0 (kv:=Value.string) (es:=dT A.names) (U:=aY) 0 zr zr zr zr zr (fun _=>rfl) bq ?_
 intro it
 refine go ?_
 have iJ:=hR.nodup _ (List.mem_cons_self ..)
 have CF:(dT A.names).map (·.1)=A.names.map (·.1):=by simp[dT,Function.comp_def]
 refine bj (fun dn:List ByteArray=>dn.Nodup∧∀x∈dn,x∈A.names.map (·.1)) (fun dn=>A.names.length-dn.length)
  (fun dn=>[(3,.int .i64 (sumOf A dn)),(10,.pointer (some ⟨it,0,none⟩))])
  (fun dn=>bE Value.string bm it (dT A.names) dn::aJ jB (maps.eraseIdx j)::ag bd (cl [.int .i64 room,.map (some bm),k5,mJ,l5,.bool off] 98)::a6 5 dg::aJ eh files::aH 94 1 k5 fg.length (fg.map fun b => .map (some b))::aH 195 3 mJ wl.length (ei wl)::F)
  [] ⟨List.nodup_nil,by simp⟩ rfl bO (ak.refl _) ?_
 rintro dn⟨nx,cH⟩ ih
 have hlen:=sy nx cH
 have hb:=BB (fun f=>(hR.small f).1) dn
 have hN:=hR.ek _ (List.mem_cons_self ..)
 rw[List.length_map]at hlen
 refine go ?_
 refine nI (kv:=Value.string) (es:=dT A.names) 0 rfl tY.inj zr zr (fun _=>rfl) fE bq ?_ ?_
 ·intro eY
  refine go ?_
  have hp:sumOf A dn=A.used:=by
   rw[← uW iJ]
   refine List.Perm.sum_nat ((ES nx iJ fun x=>⟨cH x,fun hx=>?_⟩).map _)
   grind
  refine ai ((ak.head (B:=[jB (bm,dT A.names)]) (fun h hs=>by obtain⟨h',s,hm⟩:=gM h hs;exact⟨h',s,di hm⟩)).trans (gp jB hj _)) ?_
  rw[hp]
  refine aL hE Tryz.func394 rfl _ rfl ⟨rfl,rfl⟩ ((ak.pick [1,0] rfl).trans ((ak.pick [0,1,2,3,4,5] rfl).trans (dy _ _ _ _ _ _ _ _ _ _ _ _ _)))
 ·intro key v dU k8
  obtain⟨⟨k',f⟩,hx,Kr⟩:=List.mem_map.1 dU
  simp only[Prod.mk.injEq]at Kr
  obtain⟨rfl,rfl⟩:=Kr
  refine go ?_
  refine lN (kv:=Value.string) (es:=dT A.names) 0 rfl tY.inj zr zr dU (go ?_)
  obtain⟨i,v1,v2,hi,qw,k6,qX⟩:=hR.file (hR.known _ (List.mem_cons_self ..) _ hx)
  obtain⟨a,cap,rfl,fF⟩:=k6.shape
  refine uM (U:=aY) zr zr (fun w hw=>ri (i:=4) hw rfl hi) zr zr ?_
  have CE:A.look k'=some f:=nj iJ hx
  have hl:lenOf A k'=(A.now f).length:=by simp[lenOf,CE]
  have nu:=(hR.small f).1
  have hmk:k'∈A.names.map (·.1):=List.mem_map.2 ⟨_,hx,rfl⟩
  have CL:(k'::dn).Nodup:=List.nodup_cons.2 ⟨k8,nx⟩
  have vT:∀x∈k'::dn,x∈A.names.map (·.1):=fun x hx=>by
   grind
  have qY:=sy CL vT
  rw[List.length_map,List.length_cons]at qY
  refine go ?_
  refine aQ 3 (.int .i64 (sumOf A (k'::dn))) rfl (congrArg (Value.int .i64) (by simp only[sumOf,List.map_cons,List.sum_cons,hl];omega)) ?_
  refine aK ih (k'::dn) rfl ⟨CL,vT⟩ (by show _-(_+1)<_;omega) bO (ak.refl _)
def xM(b:Nat)(es:List (ByteArray × Value)) :
  aw Tryz.prog 406 [.map (some b)] [au Value.string b es] (fun v H=>∃b',v = .map (some b')∧H=[au Value.string b' es,au Value.string b es]):=by
 refine aw.enter Tryz.func406 ae rfl Tryz.ntmps406 zr zr ?_
 intro G F R hR
 refine go ?_
 refine J7 (U:=aY) zr zr zr zr ?_
 refine Dt (kv:=Value.string) (es:=es) 0 rfl Tryz.func476 ae ae ae ae zr zr bq ?_
 intro b'
 refine NX (U:=aY) zr zr zr zr (go ?_)
 refine aL hR Tryz.func406 rfl _ rfl ⟨b',rfl,rfl⟩ (ak.fin [0,1] 0 zr zr)
def kO{α:Type}(bd:Nat)(D:Dk)(nm:List (ByteArray × Nat))(hm:(D.bm,dT nm)∈D.maps)(g:FuncId)(cap:Array Value)(E:HP)(nm':α→List (ByteArray × Nat))(E':α→HP)(q:α→Prop)(hc:∀b',aw Tryz.prog g (.map (some b')::cap.toList) [au Value.string b' (dT nm),E] (fun _ H=>∃x,q x∧H=[au Value.string b' (dT (nm' x)),E' x]))(hlen:D.fg.length≤1000000000) :
  aw Tryz.prog 285 [ptr bd,.func (.func g) #[] cap] [fG bd D,E]
   (fun _ H=>∃x b' v,q x∧H=[fG bd { D with bm:=b',maps:=(b',dT (nm' x))::D.maps,k5:=v,fg:=D.fg++[b'] },E' x]):=by
 obtain⟨room,bm,k5,mJ,l5,off,maps,dg,files,fg,wl⟩:=D
 simp only at hm hlen ⊢
 refine aw.ao Tryz.func285 Tryz.ntmps285 fun G F R hE=>?_
 refine ai (gD _ _ _ _ _ _ _ _ _ _ _ _ _) (go ?_)
 obtain⟨j,hj⟩:=List.getElem?_of_mem hm
 refine aR (ak.pick [1] rfl) ?_
 refine aR (dF jB hj _) ?_
 refine bS [0] zr zr zr zr (xM bm (dT nm)) rfl iM ?_
 rintro _ _⟨b',rfl,rfl⟩
 refine aR (ak.pick [1,2] rfl) ?_
 refine aR (gp jB hj _) (go ?_)
 refine bS [1,7] zr zr zr zr (hc b') rfl iM ?_
 rintro _ _⟨x,hq,rfl⟩
 refine aR (ak.pick [0,2] rfl) ?_
 refine aR (mi jB (b',dT (nm' x)) maps _) (go ?_)
 refine aO (fun w=>Sat G w ([ag bd (cl [.int .i64 room,.map (some b'),k5,mJ,l5,.bool off] 98)])) (cM 0 9 (.act 9 (.act 10 (.st 11 (.st 12 (.act 13 .nil)))))) rfl ae ae ae (fun w hw=>hw.cp (ak.bu ([2]) rfl)) ?_
 refine go ?_
 refine aq zr zr zr zr zr zr zr zr zr (fun _ w hw=>hw.cp (ak.bu ([3]) rfl)) ?_
 intro b0
 refine aU (mm:=1) (news:=[.map (some b')]) 6 0 zr zr zr zr zr zr zr zr zr zr zr zr (Vw.ag rfl) rfl (by simp[Value.oneCell']) aj (by show _*8≤_;omega) (fun _=>rfl) (fun _ w hw=>hw.cp (ak.bu ([3]) rfl)) ?_
 intro v'
 have e1:(fg.map fun b=>Value.map (some b))++[.map (some b')]=(fg++[b']).map fun b=>Value.map (some b):=by simp
 have e2:fg.length+1=(fg++[b']).length:=by simp
 rw[e1,e2]
 refine aM 6 rfl ?_
 rintro av cv rfl
 refine go ?_
 refine ai (ak.pick [3,1,4,5,6,7,2] rfl) ?_
 refine ai (dy bd room b' _ mJ l5 off _ dg files (fg++[b']) wl _) ?_
 refine bB hE Tryz.func285 rfl _ rfl ⟨x,b',_,hq,rfl⟩ (ak.fin [0,1] 1 zr zr)
def Rel.new(room bm P2:Nat)(v:Value)(h:room≤1073741824):Rel ⟨room,bm,v,.slice none 0 0,.slice none 0 0,false,[(P2,[]),(bm,[])],[],[],[P2],[]⟩ (Ab.new room) where
 room:=rfl
 off:=rfl
 names:=by simp[Ab.new,dT]
 aI:=eM.one (by simp[dT])
 fs:=eM.nil
 writes:=eM.nil
 cu:=jx.nil _ _ _
 ids:=by simp[Ab.new]
 known:=by simp[Ab.new]
 fC:=by simp[Ab.new]
 nodup:=by simp[Ab.new]
 e8:=by simp[Ab.new]
 fN:=by simp[Ab.new]
 ek:=by simp[Ab.new]
 fO:=h
 iN:=by simp[Ab.new]
 full:=by simp[Ab.new]
def NB(room:Nat)(h1:1≤room)(h2:room≤1073741824) :
  aw Tryz.prog 19 [.int .i64 room] [] (fun v H=>∃bd D,Rel D (Ab.new room)∧v = .tuple #[ptr bd,.int .i64 0]∧H=[fG bd D]):=by
 refine aw.ao Tryz.func19 Tryz.ntmps19 fun G F R hE=>?_
 repeat'(first|(with_reducible intro kQ)|refine eK ?_|refine ew zr zr zr zr ?_ ?_|refine aD zr zr ?_ ?_)
 ·omega
 ·omega
 refine dA rfl bq ?_
 intro bm
 refine aR (ak.head (B:=[jB (bm,[])]) (fun h hs=>⟨h,sub.refl h,di (eX _ _ h hs)⟩)) ?_
 refine dA rfl bq ?_
 intro P2
 refine aR (ak.head (B:=[jB (P2,[])]) (fun h hs=>⟨h,sub.refl h,di (eX _ _ h hs)⟩)) ?_
 refine aq zr zr zr zr zr zr zr zr zr bq ?_
 intro b0
 refine go ?_
 refine bC zr zr bq ?_
 intro bd
 refine go ?_
 refine ai (sh jB _) ?_
 refine ai (ak.pick [4,0] rfl) ?_
 refine ai (mi jB (bm,[]) [] _) ?_
 refine ai (ak.pick [3,0] rfl) ?_
 refine ai (mi jB (P2,[]) [(bm,[])] _) ?_
 refine ai (ak.pick [2] rfl) ?_
 refine ai (eW 94 1 b0 1 1 [.map (some P2)] [] _ rfl (Nat.le_refl _) (by simp)) ?_
 refine ai (bp 195 3 none _) ?_
 refine ai (wW 5 _) ?_
 refine ai (sh eh _) ?_
 refine ai (ak.pick [5,4,1,0,3,2] rfl) ?_
 refine ai (dy bd room bm (.slice (some ⟨b0,0,none⟩) 1 1) (.slice none 0 0) (.slice none 0 0) false [(P2,[]),(bm,[])] [] [] [P2] [] _) ?_
 refine aL hE Tryz.func19 rfl _ rfl ⟨bd,_,Rel.new room bm P2 _ h2,rfl,rfl⟩ (ak.fin [0] 0 zr zr)
theorem np{l:List (ByteArray × Nat)}:(Ab.cK l k).isSome=true↔k∈l.map (·.1):=by
 unfold Ab.cK
 grind
def zy(l:List (ByteArray × Nat))(k:ByteArray):rz (dT l) k=dT (Ab.dZ l k):=by
 unfold rz dT Ab.dZ
 rw[List.filter_map]
 rfl
theorem zt(l:List (ByteArray × Nat))(k:ByteArray)(f:Nat):gT (dT l) k (ptr f)=dT (Ab.jl l k f):=by
 have hk:(dT l).map (·.1)=l.map (·.1):=by simp[dT,Function.comp_def]
 unfold gT Ab.jl
 rw[hk]
 by_cases h:(Ab.cK l k).isSome=true
 ·rw[if_pos (np.1 h),if_pos h]
  simp only[dT,List.map_map]
  apply List.map_congr_left
  grind
 ·rw[if_neg (fun h'=>h (np.2 h')),if_neg h]
  simp[dT]
def Dm(b box:Nat)(l:List (ByteArray × Nat))(k:ByteArray) :
  aw Tryz.prog 286 [.map (some b),ptr box] [au Value.string b (dT l),ag box (cl [.string k] 9)] (fun _ H=>H=[au Value.string b (dT (Ab.dZ l k)),ag box (cl [.string k] 9)]):=by
 refine aw.ao Tryz.func286 Tryz.ntmps286 fun G F R hE=>?_
 refine go ?_
 refine rM (U:=aY) 0 tY fE zr zr zr zr zr zr zr ?_
 rw[zy]
 refine go ?_
 refine bB hE Tryz.func286 rfl _ zr zr (ak.fin [0,1] 0 zr zr)
def oW(b wS wR adW f:Nat)(l:List (ByteArray × Nat))(k k2:ByteArray) :
  aw Tryz.prog 426 [.map (some b),ptr wS,ptr wR,ptr adW] [au Value.string b (dT l),Sep [ag wS (cl [.string k] 9),ag wR (cl [ptr f] 193),ag adW (cl [.string k2] 9)]]
   (fun _ H=>H=[au Value.string b (dT (Ab.jl (Ab.dZ l k) k2 f)),emp]):=by
 refine aw.ao Tryz.func426 Tryz.ntmps426 fun G F R hE=>?_
 refine ai (ak.pick [1] rfl) ?_
 refine ai (ak.cL _ _) (go ?_)
 refine rM (U:=aY) 3 tY fE zr zr zr zr zr zr zr ?_
 rw[zy]
 refine go ?_
 refine du 3 tY fE zr zr zr zr zr zr zr zr ?_
 rw[zt]
 refine go ?_
 refine ai (ak.jO _) ?_
 refine bB hE Tryz.func426 rfl _ zr zr (ak.fin [4,0] 3 zr zr)
def DK(b box:Nat)(l:List (ByteArray × Nat))(k:ByteArray) :
  aw Tryz.prog 320 [.map (some b),ptr box] [au Value.string b (dT l),ag box (cl [.string k] 9)]
   (fun _ H=>∃f,True∧H=[au Value.string b (dT (Ab.jl l k f)),eh (f,.slice none 0 0,.slice none 0 0)]):=by
 refine aw.ao Tryz.func320 Tryz.ntmps320 fun G F R hE=>?_
 refine go ?_
 refine bC zr zr bq ?_
 intro f
 refine go ?_
 refine du (v:=ptr f) 1 tY fE zr zr zr zr zr zr zr zr ?_
 rw[zt]
 refine go ?_
 refine bB hE Tryz.func320 rfl _ rfl ⟨f,trivial,rfl⟩ (ak.fin [1,0] 1 zr zr)
def fresh(l:List Nat):∃n,n ∉ l:=by
  suffices h:∃n,∀x∈l,x<n from let ⟨n,hn⟩:=h;⟨n,fun hx=>Nat.lt_irrefl _ (hn n hx)⟩
  induction l with
  | nil=>exact⟨0,by simp⟩
  | cons a l ih =>
    obtain⟨n,hn⟩:=ih
    exact⟨max n (a+1),fun x hx=>by
      rcases List.mem_cons.1 hx with rfl|h
      · omega
      · have:=hn x h;omega⟩
def Fu{x:Nat × Value × Value}(hs:Sat G w (eh x::aJ eh files::H)):x.1 ∉ files.map (·.1):=by
 intro hx
 obtain⟨y,hy,he⟩:=List.mem_map.1 hx
 obtain⟨i,hi⟩:=List.getElem?_of_mem hy
 have h1:=hs.cp ((ak.perm (List.Perm.swap _ _ _)).trans ((dF eh hi _).trans (ak.pick [2,0] rfl)))
 unfold eh at h1
 exact h1.ne he.symm
theorem GP(A:Ab)(may:Bool):(A.meet may).2.fs=A.fs∧(A.meet may).2.names=A.names∧(A.meet may).2.aI=A.aI∧(A.meet may).2.writes=A.writes∧(A.meet may).2.room=A.room:=by
 unfold Ab.meet
 grind
def Rel.nU{D:Dk}(h:Rel D A){b':Nat}{nm:List (ByteArray × Nat)}(hk:∀x∈nm,x.2∈A.fs.map (·.1))(hn:(nm.map (·.1)).Nodup)(hl:nm.length≤200) :
  Rel { D with bm:=b',maps:=(b',dT nm)::D.maps,k5:=v,fg:=D.fg++[b'] } (A.nU nm) where
 room:=h.room
 off:=h.off
 names:=by simp[Ab.nU]
 aI:=eM.snoc (h.aI.mono fun b es hb=>List.mem_cons_of_mem _ hb) (by simp)
 fs:=h.fs
 writes:=h.writes
 cu:=h.cu
 ids:=h.ids
 known:=by
  intro st dE
  simp only[Ab.nU,List.mem_cons,List.mem_append,List.not_mem_nil,or_false]at dE
  rcases dE with rfl|dE|rfl
  ·exact hk
  ·exact h.known _ (List.mem_cons_of_mem _ dE)
  ·exact hk
 fC:=h.fC
 nodup:=by
  intro st dE
  simp only[Ab.nU,List.mem_cons,List.mem_append,List.not_mem_nil,or_false]at dE
  rcases dE with rfl|dE|rfl
  ·exact hn
  ·exact h.nodup _ (List.mem_cons_of_mem _ dE)
  ·exact hn
 e8:=h.e8
 fN:=h.fN
 ek:=by
  intro st dE
  simp only[Ab.nU,List.mem_cons,List.mem_append,List.not_mem_nil,or_false]at dE
  rcases dE with rfl|dE|rfl
  ·exact hl
  ·exact h.ek _ (List.mem_cons_of_mem _ dE)
  ·exact hl
 fO:=h.fO
 iN:=h.iN
 full:=by simp[Ab.nU]
def Rel.P7{D:Dk}(h:Rel D A)(hf:f ∉ A.fs.map (·.1)):Rel { D with files:=(f,.slice none 0 0,.slice none 0 0)::D.files } { A with fs:=(f,[],[])::A.fs } where
 room:=h.room
 off:=h.off
 names:=h.names
 aI:=h.aI
 fs:=h.fs.cons ⟨rfl,jx.nil _ _ _,jx.nil _ _ _⟩
 writes:=h.writes
 cu:=h.cu
 ids:=by simp only[List.map_cons,List.nodup_cons];exact⟨hf,h.ids⟩
 known:=fun st dE x hx=>List.mem_cons_of_mem _ (h.known st dE x hx)
 fC:=fun x hx=>List.mem_cons_of_mem _ (h.fC x hx)
 nodup:=h.nodup
 e8:=fun x hx=>by
  rcases List.mem_cons.1 hx with rfl|hx
  ·simp
  ·exact h.e8 x hx
 fN:=h.fN
 ek:=h.ek
 fO:=h.fO
 iN:=h.iN
 full:=h.full
theorem eM.ids{q:Nat × Value × Value→Nat × List UInt8 × List UInt8→Prop}{l:List (Nat × Value × Value)}{r:List (Nat × List UInt8 × List UInt8)}(h:eM q l r)(hq:∀x y,q x y→x.1=y.1):l.map (·.1)=r.map (·.1):=by
 apply List.ext_getElem?
 intro i
 simp only[List.getElem?_map]
 cases hx:l[i]? with
 | none =>
  have:r[i]?=none:=by rw[List.getElem?_eq_none_iff]at hx ⊢;rw[← h.1];exact hx
  grind
 | some x =>
  obtain⟨y,hy,ub⟩:=h.left hx
  grind
def Rel.adQ{D:Dk}(h:Rel D A):D.files.map (·.1)=A.fs.map (·.1):=eM.ids h.fs fun x y ub=>ub.1
def K4{l:List (ByteArray × Nat)}(h:Ab.cK l k=none):Ab.jl l k f=l++[(k,f)]:=by simp[Ab.jl,h]
theorem Gh(bd:Nat)(D:Dk)(A:Ab)(hR:Rel D A)(name:ByteArray)(dE:A.aI.length≤1000000000) :
  aw Tryz.prog 203 [ptr bd,.string name] [fG bd D]
   (fun v H=>∃f D',f ∉ A.fs.map (·.1)∧Rel D' (A.create (isName name) name f).2∧H=[fG bd D']∧v = .int .i64 (A.create (isName name) name f).1):=by
 refine aw.ao Tryz.func203 Tryz.ntmps203 fun G F R hE=>?_
 refine go ?_
 refine bC zr zr bq ?_
 intro box
 refine go ?_
 refine aq zr zr zr zr zr zr zr zr zr bq ?_
 intro b0
 refine go ?_
 refine bS [0] zr zr zr zr (iE _ _ [name] (Vw.ag rfl) (by simp)) rfl iM ?_
 rintro _ _⟨rfl,rfl⟩
 have e1:[name].all isName=isName name:=by simp
 rw[e1]
 refine go ?_
 refine bS [2] zr zr zr zr (vF bd D A hR (isName name)) rfl iM ?_
 rintro _ _⟨D',fh,rfl,rfl⟩
 obtain⟨f0,hf0⟩:=fresh (A.fs.map (·.1))
 have hmf:=GP A (isName name)
 refine go ?_
 refine ep zr zr ?_ ?_
 ·intro h0
  have n9:¬(A.meet (isName name)).1=0:=by have:=of_decide_eq_true h0;omega
  have hf:A.create (isName name) name f0=((A.meet (isName name)).1,(A.meet (isName name)).2):=by simp[Ab.create,n9]
  refine go ?_
  refine aL hE Tryz.func203 rfl _ rfl ⟨f0,D',hf0,by rw[hf];exact fh,rfl,by rw[hf];rfl⟩ (ak.fin [0] 2 zr zr)
 ·intro h0
  have n9:(A.meet (isName name)).1=0:=by have:=of_decide_eq_false h0;omega
  obtain⟨room,bm,k5,mJ,l5,off,maps,dg,files,fg,wl⟩:=D'
  have Mo:fg.length≤1000000000:=by have:=fh.aI.1;simp only at this;rw[this,hmf.2.2.1];exact dE
  refine ai (gD _ _ _ _ _ _ _ _ _ _ _ _ _) ?_
  refine aO (fun w=>Sat G w ([ag bd (cl [.int .i64 room,.map (some bm),k5,mJ,l5,.bool off] 98),aJ jB maps,ag box (cl [.string name] 9)])) (cM 0 11 .nil) rfl ae ae ae (fun w hw=>hw.cp (ak.bu ([0,1,7]) rfl)) ?_
  refine go ?_
  refine hX rfl tY zr zr zr zr zr zr zr (fun w hw=>iQ (i:=1) hw rfl fh.names) ?_
  rw[nD]
  cases hl:Ab.cK (A.meet (isName name)).2.names name with
  | some fl =>
   have hf:A.create (isName name) name f0=(5,(A.meet (isName name)).2):=by simp[Ab.create,n9,Ab.look,hl]
   refine go ?_
   refine ai ((ak.pick [0,1,2,3,4,5] rfl).trans (dy _ _ _ _ _ _ _ _ _ _ _ _ _)) ?_
   refine aL hE Tryz.func203 rfl _ rfl ⟨f0,_,hf0,by rw[hf];exact fh,rfl,by rw[hf];rfl⟩ (ak.fin [0] 2 zr zr)
  | none =>
   refine go ?_
   refine J' (kv:=Value.string) (U:=aY) zr zr zr zr (fun w hw=>iQ (i:=1) hw rfl fh.names) ?_
   have uf:(dT (A.meet (isName name)).2.names).length=(A.meet (isName name)).2.names.length:=by simp[dT]
   rw[uf]
   refine go ?_
   refine aD zr zr ?_ ?_
   ·intro tL
    have hf:A.create (isName name) name f0=(3,(A.meet (isName name)).2):=by simp[Ab.create,n9,Ab.look,hl];omega
    refine go ?_
    refine ai ((ak.pick [0,1,2,3,4,5] rfl).trans (dy _ _ _ _ _ _ _ _ _ _ _ _ _)) ?_
    refine aL hE Tryz.func203 rfl _ rfl ⟨f0,_,hf0,by rw[hf];exact fh,rfl,by rw[hf];rfl⟩ (ak.fin [0] 2 zr zr)
   ·intro tL
    refine go ?_
    refine aR ((ak.pick [0,1,2,3,4,5] rfl).trans (dy _ _ _ _ _ _ _ _ _ _ _ _ _)) ?_
    refine bS [0,2] zr zr zr zr (kO (α:=Nat) bd _ _ fh.names 320 #[ptr box] (ag box (cl [.string name] 9)) (fun f=>Ab.jl (A.meet (isName name)).2.names name f) (fun f=>eh (f,.slice none 0 0,.slice none 0 0)) (fun _=>True) (fun b'=>DK b' box _ name) Mo) rfl iM ?_
    rintro _ _⟨f,b',v,_,rfl⟩
    refine go ?_
    refine ai (gD _ _ _ _ _ _ _ _ _ _ _ _ _) ?_
    refine ai (ak.pick [6,3] rfl) ?_
    refine oZ fun⟨w,hw⟩=>?_
    have hff:f ∉ A.fs.map (·.1):=by have:=Fu hw;have h2:=fh.adQ;simp only at h2;rw[h2,hmf.1]at this;exact this
    clear hw
    refine ai (mi eh (f,.slice none 0 0,.slice none 0 0) files _) ?_
    have CE:(A.meet (isName name)).2.look name=none:=hl
    have hf:A.create (isName name) name f=(0,{ (A.meet (isName name)).2.nU ((A.meet (isName name)).2.names++[(name,f)])with fs:=(f,[],[])::(A.meet (isName name)).2.fs }):=by
     simp only[Ab.create,n9,if_true,CE,Option.isSome_none,Bool.false_eq_true,if_false]
     grind
    have jL:Ab.jl (A.meet (isName name)).2.names name f=(A.meet (isName name)).2.names++[(name,f)]:=K4 hl
    have Ph:name ∉ (A.meet (isName name)).2.names.map (·.1):=fun h=>by have:=np.2 h;rw[hl]at this;cases this
    have MP:=(fh.P7 (f:=f) (by rw[hmf.1];exact hff)).nU (b':=b') (v:=v) (nm:=(A.meet (isName name)).2.names++[(name,f)])
     (fun x hx=>by
      rcases List.mem_append.1 hx with hx|hx
      ·exact List.mem_cons_of_mem _ (fh.known _ (List.mem_cons_self ..) x hx)
      ·simp only[List.mem_singleton]at hx;subst hx;exact List.mem_cons_self ..)
     (by
      rw[List.map_append,List.nodup_append]
      exact⟨fh.nodup _ (List.mem_cons_self ..),by simp,fun a ha b hb=>by simp at hb;subst hb;rintro rfl;exact Ph ha⟩)
     (by rw[List.length_append];simp only[List.length_singleton];omega)
    rw[jL]
    refine ai (ak.pick [1,2,3,0,4,5] rfl) ?_
    refine ai (dy bd room b' _ mJ l5 off _ dg _ (fg++[b']) wl _) ?_
    refine aL hE Tryz.func203 rfl _ rfl ⟨f,_,hff,by rw[hf];exact MP,rfl,by rw[hf];rfl⟩ (ak.fin [0] 1 zr zr)
def Ns(bd:Nat)(D:Dk)(A:Ab)(hR:Rel D A)(name:ByteArray) :
  aw Tryz.prog 189 [ptr bd,.string name] [fG bd D] (fun v H=>H=[fG bd D]∧v = .tuple #[.int .i64 (A.size name).1,.int .i64 (A.size name).2]):=by
 obtain⟨room,bm,k5,mJ,l5,off,maps,dg,files,fg,wl⟩:=D
 refine aw.ao Tryz.func189 Tryz.ntmps189 fun G F R hE=>?_
 refine ai (gD _ _ _ _ _ _ _ _ _ _ _ _ _) (go ?_)
 refine o6 (U:=aY) rfl tY zr zr zr zr zr zr zr (fun w hw=>iQ (i:=1) hw rfl hR.names) ?_
 rw[nD]
 cases hl:Ab.cK A.names name with
 | none =>
  have hs:A.size name=(0,4):=by simp[Ab.size,Ab.look,hl]
  rw[hs]at hE
  refine go ?_
  refine ai ((ak.pick [0,1,2,3,4,5] rfl).trans (dy _ _ _ _ _ _ _ _ _ _ _ _ _)) ?_
  refine aL hE Tryz.func189 rfl _ rfl ⟨rfl,rfl⟩ (ak.fin [0] 0 zr zr)
 | some fl =>
  have hs:A.size name=((A.now fl).length,0):=by simp[Ab.size,Ab.look,hl]
  rw[hs]at hE
  obtain⟨i,v1,v2,hi,qw,k6,qX⟩:=hR.file (f:=fl) (hR.known _ (List.mem_cons_self ..) _ (oG hl))
  obtain⟨a,cap,rfl,fF⟩:=k6.shape
  refine go ?_
  refine uM (U:=aY) zr zr (fun w hw=>ri (i:=3) hw rfl hi) zr zr ?_
  refine go ?_
  refine ai ((ak.pick [0,1,2,3,4,5] rfl).trans (dy _ _ _ _ _ _ _ _ _ _ _ _ _)) ?_
  refine aL hE Tryz.func189 rfl _ rfl ⟨rfl,rfl⟩ (ak.fin [0] 0 zr zr)
def Nv(bd:Nat)(D:Dk)(A:Ab)(hR:Rel D A)(name:ByteArray)(at_ n:Int) :
  aw Tryz.prog 190 [ptr bd,.string name,.int .i64 at_,.int .i64 n] [fG bd D]
   (fun v H=>∃r,H=[aH 5 1 r (A.read name at_ n).1.length (bV (A.read name at_ n).1),fG bd D]∧v = .tuple #[r,.int .i64 (A.read name at_ n).2]):=by
 obtain⟨room,bm,k5,mJ,l5,off,maps,dg,files,fg,wl⟩:=D
 have iS:=hR.off
 simp only at iS
 refine aw.ao Tryz.func190 Tryz.ntmps190 fun G F R hE=>?_
 refine ai (gD _ _ _ _ _ _ _ _ _ _ _ _ _) ?_
 cases off with
 | true =>
  have hs:A.read name at_ n=([],7):=by simp[Ab.read,← iS]
  rw[hs]at hE
  refine go ?_
  refine ai ((ak.pick [0,1,2,3,4,5] rfl).trans (dy _ _ _ _ _ _ _ _ _ _ _ _ _)) ?_
  refine ai (bp 5 1 none _) ?_
  refine aL hE Tryz.func190 rfl _ rfl ⟨_,rfl,rfl⟩ (ak.fin [0,1] 0 zr zr)
 | false =>
  refine go ?_
  refine o6 (U:=aY) rfl tY zr zr zr zr zr zr zr (fun w hw=>iQ (i:=1) hw rfl hR.names) ?_
  rw[nD]
  cases hl:Ab.cK A.names name with
  | none =>
   have hs:A.read name at_ n=([],4):=by simp[Ab.read,Ab.look,hl,← iS]
   rw[hs]at hE
   refine go ?_
   refine ai ((ak.pick [0,1,2,3,4,5] rfl).trans (dy _ _ _ _ _ _ _ _ _ _ _ _ _)) ?_
   refine ai (bp 5 1 none _) ?_
   refine aL hE Tryz.func190 rfl _ rfl ⟨_,rfl,rfl⟩ (ak.fin [0,1] 0 zr zr)
  | some fl =>
   have hs:A.read name at_ n=if at_<0∨n<0∨((A.now fl).length:Int)<at_∨((A.now fl).length:Int)-at_<n then([],1)else(((A.now fl).drop at_.toNat).take n.toNat,0):=by simp[Ab.read,Ab.look,hl,← iS]
   obtain⟨i,v1,v2,hi,qw,k6,qX⟩:=hR.file (f:=fl) (hR.known _ (List.mem_cons_self ..) _ (oG hl))
   obtain⟨a,cap,rfl,fF⟩:=k6.shape
   have nu:=(hR.small fl).1
   have jC:∀(h:at_<0∨n<0∨((A.now fl).length:Int)<at_∨((A.now fl).length:Int)-at_<n),A.read name at_ n=([],1):=fun h=>by rw[hs,if_pos h]
   repeat'(first|(with_reducible intro kQ)|refine eK ?_|refine ew zr zr zr zr ?_ ?_|refine aD zr zr ?_ ?_|refine uM (U:=aY) zr zr (fun w hw=>ri (i:=3) hw rfl hi) zr zr ?_)
   any_goals (
    have vT:=jC aj
    rw[vT]at hE
    refine ai ((ak.pick [0,1,2,3,4,5] rfl).trans (dy _ _ _ _ _ _ _ _ _ _ _ _ _)) ?_
    refine ai (bp 5 1 none _) ?_
    refine aL hE Tryz.func190 rfl _ rfl ⟨_,rfl,rfl⟩ (ak.fin [0,1] 0 zr zr))
   refine bo zr zr zr zr zr zr zr aj aj (.inr aj) ?_
   have hr:A.read name at_ n=(((A.now fl).drop at_.toNat).take n.toNat,0):=by rw[hs,if_neg aj]
   have lg:=k6.cut at_.toNat n.toNat aj
   have hlen:(((A.now fl).drop at_.toNat).take n.toNat).length=n.toNat:=by rw[List.length_take,List.length_drop];omega
   refine aC 61 (.slice (sliceAt a cap at_.toNat 1) (((A.now fl).drop at_.toNat).take n.toNat).length (cap-at_.toNat)) rfl (by rw[hlen];congr 1;omega) ?_
   have QW:jx dg (.slice (sliceAt a cap at_.toNat 1) (((A.now fl).drop at_.toNat).take n.toNat).length (cap-at_.toNat)) (((A.now fl).drop at_.toNat).take n.toNat):=by rw[hlen];exact lg
   rw[hr]at hE
   clear lg hr hs jC
   generalize hbs:((A.now fl).drop at_.toNat).take n.toNat=bs at hE QW hlen ⊢
   refine go ?_
   refine bS [2] zr zr zr zr (gI _ _ bs (QW.view _) aj) rfl iM ?_
   rintro r _ rfl
   refine go ?_
   refine ai (ak.pick [2,3,1,4,5,6] rfl) ?_
   refine ai (dy bd room bm k5 mJ l5 false maps dg files fg wl _) ?_
   refine aL hE Tryz.func190 rfl _ rfl ⟨r,rfl,rfl⟩ (ak.fin [1,0] 0 zr zr)
def kF(name:ByteArray)(at_:Int)(b:List UInt8):Bool:=isName name && decide (0≤at_) && decide (at_≤1048576) && decide ((b.length:Int)≤1048576-at_)
def wo(A:Ab)(name:ByteArray):A.find name false=(1,none,A):=by simp[Ab.find,Ab.meet]
def ym(A:Ab)(name:ByteArray)(at_:Nat)(b:List UInt8):A.write false name at_ b=(1,A):=by simp[Ab.write,wo]
theorem Oj{fs:List (Nat × List UInt8 × List UInt8)}(hn:(fs.map (·.1)).Nodup)(hi:fs[i]?=some (f,x))(n:List UInt8):Ab.zI fs f n=fs.set i (f,n,x.2):=by
 induction fs generalizing i with
 | nil=>simp at hi
 | cons y l ih =>
  simp only[List.map_cons,List.nodup_cons]at hn
  cases i with
  | zero =>
   simp at hi
   subst hi
   simp only[Ab.zI,List.map_cons,if_true,List.set_cons_zero,List.cons.injEq,true_and]
   rw[List.map_congr_left (g:=id) (fun z hz=>?_),List.map_id]
   grind
  | succ i =>
   simp at hi
   have gf:y.1≠f:=fun e=>hn.1 (List.mem_map.2 ⟨_,List.mem_of_getElem? hi,e.symm⟩)
   have:=ih hn.2 hi
   simp only[Ab.zI]at this
   simp only[Ab.zI,List.map_cons,gf,if_false,List.set_cons_succ,this]
theorem qz(fs:List (Nat × List UInt8 × List UInt8))(f:Nat)(n:List UInt8):(Ab.zI fs f n).map (·.1)=fs.map (·.1):=by
 simp only[Ab.zI,List.map_map]
 apply List.map_congr_left
 grind
theorem Rel.wrote{D:Dk}(h:Rel D A){at_:Nat}{v3 v4:Value}{w:Value}(hi:D.files[i]?=some (f,v1,v2))(ha:A.fs[i]?=some (f,A.now f,A.sure f))(cH:∀x∈D.dg,x∈arrs')(hn:jx arrs' v3 n)(hb:jx arrs' v4 b)(G9:n.length≤1048576)(uj:at_+b.length≤1048576) :
  Rel { D with files:=D.files.set i (f,v3,v2),dg:=arrs',mJ:=w,wl:=D.wl++[(f,at_,v4)] } { A with fs:=Ab.zI A.fs f n,writes:=A.writes++[(f,at_,b)] } where
 room:=h.room
 off:=h.off
 names:=h.names
 aI:=h.aI
 fs:=by
  rw[Oj h.ids ha]
  have h2:=h.fs.2 i _ _ hi ha
  exact eM.set (h.fs.mono fun x y ub=>⟨ub.1,ub.2.1.mono cH,ub.2.2.mono cH⟩) i ⟨rfl,hn,h2.2.2.mono cH⟩
 writes:=eM.snoc (h.writes.mono fun x y ub=>⟨ub.1,ub.2.1,ub.2.2.mono cH⟩) ⟨rfl,rfl,hb⟩
 cu:=h.cu.mono cH
 ids:=by simp only[qz];exact h.ids
 known:=by simp only[qz];exact h.known
 fC:=by
  simp only[qz]
  intro x hx
  rcases List.mem_append.1 hx with hx|hx
  ·exact h.fC x hx
  grind
 nodup:=h.nodup
 e8:=by
  intro x hx
  simp only[Ab.zI,List.mem_map]at hx
  obtain⟨y,hy,rfl⟩:=hx
  have:=h.e8 y hy
  grind
 fN:=by
  intro x hx
  rcases List.mem_append.1 hx with hx|hx
  ·exact h.fN x hx
  grind
 ek:=h.ek
 fO:=h.fO
 iN:=h.iN
 full:=h.full
theorem pW(old:List UInt8)(at_:Nat)(b:List UInt8):(cX old at_ b).length=max old.length (at_+b.length):=by
 grind [cX]
theorem mD(A:Ab)(name:ByteArray)(ok:Bool):(A.find name ok).2.2.fs=A.fs∧(A.find name ok).2.2.names=A.names∧(A.find name ok).2.2.aI=A.aI∧(A.find name ok).2.2.writes=A.writes∧(A.find name ok).2.2.room=A.room:=by
 have:=GP A ok
 unfold Ab.find
 grind
theorem Rel.Gr{D:Dk}(h:Rel D A):A.used≤209715200:=by
 rw[← uW (h.nodup _ (List.mem_cons_self ..))]
 have:=BB (fun f=>(h.small f).1) (A.names.map (·.1))
 have h2:=h.ek _ (List.mem_cons_self ..)
 grind
theorem zw(e:TypeId)(v:Value)(bs:List UInt8)(M:eG):∀h,star (aH e 1 v bs.length (bV bs)) (a6 e M) h→∃M',(jx M' v bs∧∀x∈M,x∈M')∧Sep [a6 e M'] h:=fun h hs=>by
 grind [Ni,di]
theorem kL{name:ByteArray}{ok:Bool}(h:(A.find name ok).1=0):ok=true∧∃fl,(A.find name ok).2.1=some fl∧(name,fl)∈(A.find name ok).2.2.names:=by
 unfold Ab.find at h ⊢
 split
 ·rename_i h0
  rw[if_pos h0]at h
  cases hl:(A.meet ok).2.look name with
  | none=>rw[hl]at h;cases h
  | some f =>
   refine⟨?_,f,rfl,oG hl⟩
   cases ok with
   | true=>rfl
   | false=>simp[Ab.meet]at h0
 grind
def JJ(bd:Nat)(D:Dk)(A:Ab)(hR:Rel D A)(name:ByteArray)(at_:Int)(X:HP)(bv:Value)(b:List UInt8)(hv:Vw X bv b.length (bV b))(k4:A.writes.length≤1000000000)(uj:b.length≤1000000000)(hat : -9223372036854775808≤at_∧at_≤9223372036854775807) :
  aw Tryz.prog 264 [ptr bd,.string name,.int .i64 at_,bv] [fG bd D,X]
   (fun v H=>∃D',Rel D' (A.write (kF name at_ b) name at_.toNat b).2∧H=[fG bd D',X]∧v = .int .i64 (A.write (kF name at_ b) name at_.toNat b).1):=by
 obtain⟨a0,c0,rfl⟩:=hv.shape
 refine aw.ao Tryz.func264 Tryz.ntmps264 fun G F R hE=>?_
 refine go ?_
 refine aq zr zr zr zr zr zr zr zr zr bq ?_
 intro b0
 refine go ?_
 refine bS [0] zr zr zr zr (iE _ _ [name] (Vw.ag rfl) (by simp)) rfl iM ?_
 rintro _ _⟨rfl,rfl⟩
 have e1:[name].all isName=isName name:=by simp
 rw[e1]
 cases nR:isName name with
 | false =>
  have hm:kF name at_ b=false:=by simp[kF,nR]
  rw[hm,ym]at hE
  refine go ?_
  refine bS [1] zr zr zr zr (iW bd D A hR name false) rfl iM ?_
  rw[wo]
  rintro _ _⟨D',fh,rfl,rfl⟩
  refine go ?_
  refine aL hE Tryz.func264 rfl _ rfl ⟨D',fh,rfl,rfl⟩ (ak.fin [0,2] 1 zr zr)
 | true =>
  repeat'(first|(with_reducible intro kQ)|refine eK ?_|refine ew zr zr zr zr ?_ ?_|fail)
  any_goals (
   have hm:kF name at_ b=false:=by simp[kF,nR, *]
   rw[hm,ym]at hE
   refine bS [1] zr zr zr zr (iW bd D A hR name false) rfl iM ?_
   rw[wo]
   rintro _ _⟨D',fh,rfl,rfl⟩
   refine go ?_
   refine aL hE Tryz.func264 rfl _ rfl ⟨D',fh,rfl,rfl⟩ (ak.fin [0,2] 1 zr zr))
  rename_i h2
  obtain⟨at_,rfl⟩:=Int.eq_ofNat_of_zero_le h2
  simp only[Int.toNat_natCast]at hE
  have hm:kF name at_ b=decide ((b.length:Int)≤1048576-at_):=by simp[kF,nR, *]
  refine aC 31 (.bool (kF name at_ b)) rfl (congrArg Value.bool hm.symm) ?_
  refine bS [1] zr zr zr zr (iW bd D A hR name (kF name at_ b)) rfl iM ?_
  generalize mL:kF name at_ b=ok at hE hm ⊢
  rintro _ _⟨D',fh,rfl,rfl⟩
  refine go ?_
  refine ep zr zr ?_ ?_
  ·intro h0
   have n9:¬(A.find name ok).1=0:=by have:=of_decide_eq_true h0;omega
   have hw:A.write ok name at_ b=((A.find name ok).1,(A.find name ok).2.2):=by simp[Ab.write,n9]
   rw[hw]at hE
   refine go ?_
   refine aL hE Tryz.func264 rfl _ rfl ⟨D',fh,rfl,rfl⟩ (ak.fin [0,2] 1 zr zr)
  ·intro h0
   have n9:(A.find name ok).1=0:=by have:=of_decide_eq_false h0;omega
   obtain⟨aah,fl,q5,dU⟩:=kL n9
   rw[aah]at hm
   have hlen:=of_decide_eq_true hm.symm
   have hw:A.write ok name at_ b=if(A.find name ok).2.2.room<(A.find name ok).2.2.used+(at_+b.length-((A.find name ok).2.2.now fl).length)then(3,(A.find name ok).2.2)
    else(0,{ (A.find name ok).2.2 with fs:=Ab.zI (A.find name ok).2.2.fs fl (cX ((A.find name ok).2.2.now fl) at_ b),writes:=(A.find name ok).2.2.writes++[(fl,at_,b)] }):=by simp[Ab.write,n9,q5]
   rw[q5]
   have aeA:(A.find name ok).2.2.writes.length≤1000000000:=by rw[(mD A name ok).2.2.2.1];exact k4
   generalize (A.find name ok).2.2=A1 at *
   obtain⟨room,bm,k5,mJ,l5,off,maps,dg,files,fg,wl⟩:=D'
   obtain⟨i,v1,v2,hi,qw,k6,qX⟩:=fh.file (f:=fl) (fh.known _ (List.mem_cons_self ..) _ dU)
   obtain⟨a,cap,rfl,fF⟩:=k6.shape
   have nu:=(fh.small fl).1
   have tI:=fh.room
   have hrs:=fh.fO
   simp only at tI
   refine ai (gD _ _ _ _ _ _ _ _ _ _ _ _ _) ?_
   refine aO (fun w=>Sat G w ([ag bd (cl [.int .i64 room,.map (some bm),k5,mJ,l5,.bool off] 98),aJ eh files])) (.st 0 (cM 2 11 (cM 14 4 (.act 1 (.st 13 (.st 18 .nil)))))) rfl ae ae ae (fun w hw=>hw.cp (ak.bu ([0,3]) rfl)) ?_
   refine go ?_
   refine uL (U:=aY) zr zr (fun w hw=>ri (i:=1) hw rfl hi) zr zr ?_
   refine go ?_
   refine aR ((ak.pick [0,1,2,3,4,5] rfl).trans (dy _ _ _ _ _ _ _ _ _ _ _ _ _)) ?_
   have hul:=fh.Gr
   refine bS [0] rfl rfl rfl rfl (No bd _ A1 fh) rfl (fun _ _ w hp hw=>by obtain⟨rfl,_⟩:=hp;exact hw.cp ((gD _ _ _ _ _ _ _ _ _ _ _ _ _).trans (ak.bu [0,3] rfl))) ?_
   rintro _ _⟨rfl,rfl⟩
   refine go ?_
   refine aD zr zr ?_ ?_
   ·intro tL
    rw[if_pos aj]at hw
    rw[hw]at hE
    refine go ?_
    refine aL hE Tryz.func264 rfl _ rfl ⟨_,fh,rfl,rfl⟩ (ak.fin [0,2] 1 zr zr)
   ·intro tL
    rw[if_neg aj]at hw
    rw[hw]at hE
    refine go ?_
    refine aR (gD _ _ _ _ _ _ _ _ _ _ _ _ _) (go ?_)
    refine aR (ak.pick [3] rfl) ?_
    refine aR (dF eh hi _) (go ?_)
    refine aR (ak.pick [4,8] rfl) ?_
    refine aR (ak.join _ _ _) ?_
    refine bS [0] zr zr zr zr (rX (star (a6 5 dg) X) _ _ (A1.now fl) b at_ (k6.view _).left hv.right aj) rfl iM ?_
    rintro _ _⟨bl,qj,rfl,CO,rfl⟩
    refine aR (ak.pick [1] rfl) ?_
    refine aR (ak.part _ _ _) ?_
    refine aR (ak.pick [2,0] rfl) ?_
    refine aR (wX 5 bl _ dg _) (go ?_)
    refine ai (ak.pick [2,3] rfl) ?_
    refine ai (ke eh (y:=(fl,.slice (some ⟨bl,0,none⟩) (cX (A1.now fl) at_ b).length qj,v2)) hi _) ?_
    refine aO (fun w=>Sat G w ([ag bd (cl [.int .i64 room,.map (some bm),k5,mJ,l5,.bool off] 98)])) (cM 0 8 (.act 8 (.st 9 (.act 10 (.act 11 (.st 12 (.st 13 (.act 14 .nil)))))))) rfl ae ae ae (fun w hw=>hw.cp (ak.bu ([3]) rfl)) ?_
    refine go ?_
    refine bS [2] rfl rfl rfl rfl (gI X _ b hv uj) rfl (fun _ _ w hp hw=>by subst hp;exact hw.cp (ak.bu [4] rfl)) ?_
    rintro r _ rfl
    refine aM 0 rfl ?_
    rintro ar cr rfl
    refine go ?_
    refine aq zr zr zr zr zr zr zr zr zr (fun _ w hw=>hw.cp (ak.bu ([5]) rfl)) ?_
    intro b1
    refine aU (mm:=1) (news:=[ptr fl,.int .i64 at_,.slice ar b.length cr]) 8 0 zr zr zr zr zr zr zr zr zr zr zr zr (Vw.ag rfl) rfl (by simp[Value.oneCell',ptr]) (by have:=fh.writes.1;simp only at this;omega) (by have:=fh.writes.1;simp only at this;show _*40≤_;omega) (fun _=>rfl) (fun _ w hw=>hw.cp (ak.bu ([5]) rfl)) ?_
    intro v'
    have e2:ei wl++[ptr fl,.int .i64 at_,.slice ar b.length cr]=ei (wl++[(fl,at_,.slice ar b.length cr)]):=by simp[ei]
    have e3:wl.length+1=(wl++[(fl,at_,Value.slice ar b.length cr)]).length:=by simp
    rw[e2,e3]
    refine aM 8 rfl ?_
    rintro av cv rfl
    refine go ?_
    refine aX ?_;refine bG 5 fE zr zr zr zr zr zr zr zr zr ?_
    refine go ?_
    refine ai (ak.pick [1,4] rfl) ?_
    refine ai (ak.join _ _ _) ?_
    refine cG (zw 5 _ b _) ?_
    rintro arrs'⟨Jh,cH⟩
    have MP:=fh.wrote (w := .slice av (wl++[(fl,at_,Value.slice ar b.length cr)]).length cv) hi qw (fun x hx=>cH x (List.mem_cons_of_mem _ hx)) ((jx.row (cap:=qj) CO).mono cH) Jh (by rw[pW];omega) (by omega:at_+b.length≤1048576)
    refine ai (ak.pick [4,5,0,3,6,7] rfl) ?_
    refine ai (dy bd room bm k5 _ l5 off maps arrs' _ fg _ _) ?_
    refine aL hE Tryz.func264 rfl _ rfl ⟨_,MP,rfl,rfl⟩ (ak.fin [0,2] 2 zr zr)
def C2{l:List (ByteArray × Nat)}{x:ByteArray × Nat}(h:x∈Ab.dZ l k):x∈l∧x.1≠k:=by
 simpa[Ab.dZ]using h
def M1(l:List (ByteArray × Nat))(k:ByteArray):(Ab.dZ l k).length≤l.length:=List.length_filter_le _ _
def wF{l:List (ByteArray × Nat)}(h:(l.map (·.1)).Nodup)(k:ByteArray):((Ab.dZ l k).map (·.1)).Nodup:=(List.filter_sublist.map _).nodup h
theorem PV{l:List (ByteArray × Nat)}(h:(k,f)∈l):(Ab.dZ l k).length+1≤l.length:=by
 have:(Ab.dZ l k).length<l.length:=by
  unfold Ab.dZ
  rw[List.length_filter_lt_length_iff_exists]
  grind
 omega
theorem K6(l:List (ByteArray × Nat))(k:ByteArray)(f:Nat):(Ab.jl l k f).length≤l.length+1:=by
 unfold Ab.jl
 grind
theorem K5{l:List (ByteArray × Nat)}{x:ByteArray × Nat}(h:x∈Ab.jl l k f):x=(k,f)∨x∈l:=by
 unfold Ab.jl at h
 grind
theorem Ei{l:List (ByteArray × Nat)}(h:(l.map (·.1)).Nodup)(k:ByteArray)(f:Nat):((Ab.jl l k f).map (·.1)).Nodup:=by
 unfold Ab.jl
 split
 ·grind
 ·rename_i hk
  rw[List.map_append,List.nodup_append]
  exact⟨h,by simp,fun a ha b hb=>by simp at hb;subst hb;rintro rfl;exact hk (np.2 ha)⟩
theorem F3(bd:Nat)(D:Dk)(A:Ab)(hR:Rel D A)(name:ByteArray)(dE:A.aI.length≤1000000000) :
  aw Tryz.prog 175 [ptr bd,.string name] [fG bd D]
   (fun v H=>∃D',Rel D' (A.remove (isName name) name).2∧H=[fG bd D']∧v = .int .i64 (A.remove (isName name) name).1):=by
 refine aw.ao Tryz.func175 Tryz.ntmps175 fun G F R hE=>?_
 refine go ?_
 refine bC zr zr bq ?_
 intro box
 refine go ?_
 refine aO (fun w=>Sat G w ([ag box (cl [.string name] 9)])) (cM 0 3 (.act 3 (.act 4 (.act 5 (cM 6 5 .nil))))) rfl ae ae ae (fun w hw=>hw.cp (ak.bu ([0]) rfl)) ?_
 refine go ?_
 refine aq zr zr zr zr zr zr zr zr zr (fun _ w hw=>hw.cp (ak.bu ([1]) rfl)) ?_
 intro b0
 refine bS [0] rfl rfl rfl rfl (iE _ _ [name] (Vw.ag rfl) (by simp)) rfl (fun _ _ w hp hw=>by obtain⟨_,rfl⟩:=hp;exact hw.cp (ak.bu [1] rfl)) ?_
 rintro _ _⟨rfl,rfl⟩
 have e1:[name].all isName=isName name:=by simp
 rw[e1]
 refine bS [2] rfl rfl rfl rfl (iW bd D A hR name (isName name)) rfl (fun _ _ w hp hw=>by obtain⟨_,_,rfl,_⟩:=hp;exact hw.cp (ak.bu [2] rfl)) ?_
 generalize mL:isName name=ok at hE ⊢
 rintro _ _⟨D',fh,rfl,rfl⟩
 refine go ?_
 refine ep zr zr ?_ ?_
 ·intro h0
  have n9:¬(A.find name ok).1=0:=by have:=of_decide_eq_true h0;omega
  have hw:A.remove ok name=((A.find name ok).1,(A.find name ok).2.2):=by
   unfold Ab.remove
   grind
  rw[hw]at hE
  refine go ?_
  refine aL hE Tryz.func175 rfl _ rfl ⟨D',fh,rfl,rfl⟩ (ak.fin [0] 2 zr zr)
 ·intro h0
  have n9:(A.find name ok).1=0:=by have:=of_decide_eq_false h0;omega
  obtain⟨aah,fl,q5,dU⟩:=kL n9
  have hw:A.remove ok name=(0,(A.find name ok).2.2.nU (Ab.dZ (A.find name ok).2.2.names name)):=by
   unfold Ab.remove
   grind
  have Mo:(A.find name ok).2.2.aI.length≤1000000000:=by rw[(mD A name ok).2.2.1];exact dE
  rw[hw]at hE
  generalize (A.find name ok).2.2=A1 at *
  have Mm:D'.fg.length≤1000000000:=by rw[fh.aI.1];exact Mo
  refine go ?_
  refine bS [0,2] zr zr zr zr (kO (α:=Unit) bd D' A1.names fh.names 286 #[ptr box] (ag box (cl [.string name] 9)) (fun _=>Ab.dZ A1.names name) (fun _=>ag box (cl [.string name] 9)) (fun _=>True) (fun b'=>aw.post (Dm b' box A1.names name) (fun v H h=>⟨(),trivial,h⟩)) Mm) rfl iM ?_
  rintro _ _⟨_,b',v,_,rfl⟩
  have MP:=fh.nU (b':=b') (v:=v) (nm:=Ab.dZ A1.names name) (fun x hx=>fh.known _ (List.mem_cons_self ..) x (C2 hx).1) (wF (fh.nodup _ (List.mem_cons_self ..)) name) (Nat.le_trans (M1 _ _) (fh.ek _ (List.mem_cons_self ..)))
  refine go ?_
  refine aL hE Tryz.func175 rfl _ rfl ⟨_,MP,rfl,rfl⟩ (ak.fin [0] 2 zr zr)
abbrev Dr:=Nat × Nat × Value
def vJ(x:Dr):List Value:=[ptr x.1,.int .i64 x.2.1,x.2.2]
def fj(l:List Dr):ei l=l.flatMap vJ:=rfl
theorem dK(x:Dr):(vJ x).length=3:=rfl
theorem xr(A X:HP)(v:Value)(l:List Dr)(hv:Vw A v l.length (ei l))(hlen:l.length≤1000000000)(g:FuncId)(cap:List Value)(p:Dr→Bool)(hf:∀x∈l,aw Tryz.prog g (.agg #[ptr x.1,.int .i64 x.2.1,x.2.2]::cap) [X] (fun v H=>v = .bool (p x)∧H=[X])) :
  aw Tryz.prog 501 [v,.func (.func g) #[] cap.toArray] [A,X] (fun r H=>r = .int .i64 (iR p l)∧H=[A,X]):=by
 obtain⟨a,c0,rfl⟩:=hv.shape
 refine aw.enter Tryz.func501 ae rfl Tryz.ntmps501 zr zr ?_
 intro G F R hR
 refine go ?_
 refine bj (fun i:Nat=>i≤l.length∧∀y∈l.take i,p y=false) (fun i=>l.length-i) (fun i=>[(0,.slice a l.length c0),(1,.func (.func g) #[] cap.toArray),(7,.int .i64 l.length),(8,.int .i64 i)]) (fun _=>[A,X]++F) 0 ⟨by simp,by simp⟩ rfl bO (ak.refl _) ?_
 rintro i⟨hi,hb⟩ ih
 refine go ?_
 refine aD zr zr ?_ ?_
 ·intro cB
  refine go ?_
  have dP:i<l.length:=by omega
  have hx:l[i]?=some l[i]:=by simp[dP]
  generalize hxx:l[i]=x at hx
  obtain⟨b,o,fX,eR⟩:=hv.some (by rw[← List.length_pos_iff,fj,bt dK];omega)
  simp only[Value.slice.injEq]at eR
  obtain⟨rfl,_,rfl⟩:=eR
  refine bM i 3 zr zr zr zr zr zr zr zr dP ?_
  refine bZ (U:=aY) (es:=vJ x) 0 (i*3) zr zr zr hv rfl (fun j v hj=>?_) zr zr zr ?_
  ·have y3:j<3:=by
    grind [dK]
   rw[fj,cd dK hx j y3];exact hj
  refine bS [1] zr zr zr zr (hf x (List.mem_of_getElem? hx)) rfl iM ?_
  rintro _ _⟨rfl,rfl⟩
  refine go ?_
  refine ep zr zr ?_ ?_
  ·intro hp
   refine go ?_
   refine aL hR Tryz.func501 rfl _ rfl ⟨by rw[jq hx hp hb];rfl,rfl⟩ (ak.fin [1,0] 0 zr zr)
  ·intro hp
   refine go ?_
   refine aK ih (i+1) rfl ⟨aj,nE hb hx hp⟩ aj bO (ak.pick [1,0] rfl)
 ·intro eN
  refine go ?_
  have:i=l.length:=by omega
  subst this
  refine aL hR Tryz.func501 rfl _ rfl ⟨by rw[ki (fun x hx=>hb x (by simpa using hx))];rfl,rfl⟩ (ak.fin [0,1] 0 zr zr)
def JM(c5 f g at_:Nat)(bv:Value)(files:List (Nat × Value × Value))(hf:f∈files.map (·.1))(hg:g∈files.map (·.1))(gA:bv.oneCell'=true) :
  aw Tryz.prog 425 [.agg #[ptr g,.int .i64 at_,bv],ptr c5] [star (ag c5 (cl [ptr f] 193)) (aJ eh files)] (fun v H=>v = .bool (decide (g=f))∧H=[star (ag c5 (cl [ptr f] 193)) (aJ eh files)]):=by
 have row:∀ {G:cg} {w:World} {H:List HP} {i y:Nat},Sat G w H→bU H i=some (aJ eh files)→y∈files.map (·.1)→Row w y:=by
  intro G w H i y hs hi hy
  obtain⟨⟨y',v1,v2⟩,hm,rfl⟩:=List.mem_map.1 hy
  obtain⟨j,hj⟩:=List.getElem?_of_mem hm
  exact⟨_,_,wu hs hi hj⟩
 refine aw.ao Tryz.func425 Tryz.ntmps425 fun G F R hE=>?_
 refine ai (ak.part _ _ _) (go ?_)
 refine bC zr zr bq ?_
 intro bx
 refine go ?_
 refine Qg (U:=aY) zr zr zr zr zr zr zr (fun w hw=>row (i:=2) hw rfl hg) (fun w hw=>row (i:=2) hw rfl hf) ?_
 refine go ?_
 refine ai (ak.pick [1,2] rfl) ?_
 refine ai (ak.join _ _ _) ?_
 refine aL hE Tryz.func425 rfl _ rfl ⟨congrArg Value.bool (by simp),rfl⟩ (ak.fin [0] 1 zr zr)
theorem uo(v:Value)(l:List Dr)(X:HP)(g:FuncId)(cap:List Value)(p:Dr→Bool)(hlen:l.length≤1000000000)(eR:∀x∈l,∃a n c,x.2.2 = .slice a n c)(hf:∀x∈l,aw Tryz.prog g (.agg #[ptr x.1,.int .i64 x.2.1,x.2.2]::cap) [X] (fun v H=>v = .bool (p x)∧H=[X])) :
  aw Tryz.prog 424 [v,.func (.func g) #[] cap.toArray] [aH 195 3 v l.length (ei l),X]
   (fun r H=>H=[aH 195 3 r (l.filter fun x => !p x).length (ei (l.filter fun x => !p x)),X]):=by
 refine aw.ao Tryz.func424 Tryz.ntmps424 fun G F R hE=>?_
 refine cU 0 rfl ?_
 rintro a0 c rfl
 refine go ?_
 refine eL 0 rfl ?_
 intro hv
 refine bS [0,1] zr zr zr zr (xr _ X _ l hv hlen g cap p hf) rfl iM ?_
 rintro _ _⟨rfl,rfl⟩
 refine go ?_
 refine aD zr zr ?_ ?_
 ·intro h0
  have nZ:l.any p=false:=kJ.1 aj
  have q5:(l.filter fun x => !p x)=l:=List.filter_eq_self.2 fun x hx=>by
   grind
  rw[q5]at hE
  refine go ?_
  refine aL hE Tryz.func424 rfl _ zr zr (ak.fin [0,1] 0 zr zr)
 ·intro h0
  obtain⟨i0,x0,Jb,Z',G6,CQ⟩:=qd h0
  have adz:i0<l.length:=by
   grind
  rw[Jb]
  refine go ?_
  refine nG (fun a qu hn _=>by omega) ?_
  rintro b o c' pre junk vS gZ hnc fF jF
  simp only[Value.slice.injEq,true_and]at vS
  obtain⟨rfl,rfl⟩:=vS
  have h1:l.take (i0+1)=l.take i0++[x0]:=by rw[List.take_add_one,Z'];rfl
  have DX:(l.take i0).filter (fun x => !p x)=l.take i0:=List.filter_eq_self.2 fun x hx=>by simp[CQ x hx]
  refine bj (fun s:Nat × Nat × List Dr=>s.1<s.2.1∧s.2.1≤l.length∧s.2.2.length=l.length∧s.2.2.take s.1=(l.take s.2.1).filter (fun x => !p x)∧s.2.2.drop s.2.1=l.drop s.2.1) (fun s=>l.length-s.2.1)
   (fun s=>[(0,.slice (some ⟨b,o,none⟩) l.length c),(1,.func (.func g) #[] cap.toArray),(5,.int .i64 s.1),(6,.int .i64 s.2.1)])
   (fun s=>ag b (cl (pre++ei s.2.2++junk) 195)::X::F) (i0,i0+1,l) ⟨by simp,by simp only;omega,rfl,by simp only[h1,List.filter_append,DX];simp[G6],rfl⟩ rfl bO (ak.refl _) ?_
  rintro⟨i,j,E⟩⟨I',Ff,DY,tN,Hi⟩ ih
  simp only at I' Ff DY tN Hi
  have k4:(ei E).length=l.length*3:=by rw[fj,bt dK,DY]
  have hvE:Vw (ag b (cl (pre++ei E++junk) 195)) (.slice (some ⟨b,o,none⟩) l.length c) l.length (ei E):=Vw.ag (by rw[List.append_assoc,← gZ,List.drop_left,List.take_left])
  refine go ?_
  refine aD zr zr ?_ ?_
  ·intro cB
   simp only at cB
   have pG:j<l.length:=by omega
   obtain⟨⟨fx,ax,bx⟩,hx⟩:∃x,l[j]?=some x:=⟨l[j],by simp[pG]⟩
   have hEx:E[j]?=some (fx,ax,bx):=by
    have:=congrArg (·[0]?) Hi
    grind
   have dU:=List.mem_of_getElem? hx
   obtain⟨ab,nb,cb,tM⟩:=eR _ dU
   simp only at tM
   subst tM
   have Ps:=hf _ dU
   refine go ?_
   refine bM j 3 zr zr zr zr zr zr zr zr pG ?_
   refine bZ (U:=aY) (es:=vJ (fx,ax,.slice ab nb cb)) 0 (j*3) zr zr zr hvE rfl (fun q v hq=>?_) zr zr zr ?_
   ·have y3:q<3:=by
     grind [dK]
    rw[fj,cd dK hEx q y3];exact hq
   refine aB zr zr zr bq ?_
   intro bv
   refine go ?_
   refine cC 0 zr zr zr zr zr zr ?_
   refine bS [2] zr zr zr zr (Ps) rfl iM ?_
   rintro _ _⟨rfl,rfl⟩
   refine go ?_
   refine ep zr zr ?_ ?_
   ·intro hp
    have qv:p (fx,ax,.slice ab nb cb)=false:=by simpa using hp
    refine go ?_
    refine cC 1 zr zr zr zr zr zr (go ?_)
    refine bM i 3 zr zr zr zr zr zr zr zr aj ?_
    refine iz (U:=aY) (l':=pre++ei (E.set i (fx,ax,.slice ab nb cb))++junk) 2 fE zr zr zr zr zr zr zr ?_ ?_ rfl ?_
    ·show o+i*3+3≤_
     rw[List.length_append,List.length_append,k4];omega
    ·show _=List.take (o+i*3) (pre++ei E++junk)++vJ (fx,ax,.slice ab nb cb)++List.drop (o+i*3+(vJ (fx,ax,.slice ab nb cb)).length) (pre++ei E++junk)
     rw[← gZ,kD _ _ _ _ _ (by rw[dK,k4];omega),fj,py dK aj]
     rfl
    refine go ?_
    refine aK ih (i+1,j+1,E.set i (fx,ax,.slice ab nb cb)) rfl ⟨by simp only;omega,by simp only;omega,by simp only[List.length_set];exact DY,?_,?_⟩ (by simp only;omega) bO (ak.to [2,0] 1 zr zr zr)
    ·simp only
     rw[List.take_add_one,List.take_set_of_le (Nat.le_refl i),tN,List.take_add_one (l:=l),hx,List.getElem?_set_self aj]
     simp[List.filter_append,qv]
    ·simp only
     rw[List.drop_set_of_lt aj,← List.drop_drop,Hi,List.drop_drop]
   ·intro hp
    have qv:p (fx,ax,.slice ab nb cb)=true:=by simpa using hp
    refine go ?_
    refine aK ih (i,j+1,E) rfl ⟨by simp only;omega,by simp only;omega,DY,by simp only;rw[tN,List.take_add_one,hx];simp[List.filter_append,qv],by simp only;rw[← List.drop_drop,Hi,List.drop_drop]⟩ (by simp only;omega) bO (ak.to [2,0] 1 zr zr zr)
  ·intro eN
   refine go ?_
   simp only at eN
   have hjn:j=l.length:=by omega
   subst hjn
   rw[List.take_length]at tN
   have qY:(l.filter fun x => !p x).length=i:=by rw[← tN,List.length_take];omega
   refine iF zr zr zr zr zr zr zr aj aj (.inl rfl) ?_
   intro o1 G8 QH
   simp only[Int.toNat_natCast]at G8 QH
   have CA:i≠c→o1=o+i*3:=G8
   have hL:(pre++ei E++junk).length=o+l.length*3+junk.length:=by rw[List.length_append,List.length_append,k4,gZ]
   obtain⟨kH,CG,adq⟩:∃kH,(pre++ei E++junk).take o1++(List.replicate (((l.length:Int).toNat-(i:Int).toNat)) [Value.pointer none,.int .i64 0,.slice none 0 0]).flatten++(pre++ei E++junk).drop (o1+((l.length:Int).toNat-(i:Int).toNat)*3)=pre++ei (E.take i)++kH∧c*3≤i*3+kH.length:=by
    have MJ:i≠c:=by omega
    rw[CA MJ,← gZ,List.append_assoc pre,List.take_length_add_append,List.take_append_of_le_length (by rw[k4];omega),fj,fj,qi dK E i aj]
    refine⟨_,by rw[List.append_assoc],?_⟩
    rw[List.length_append,List.length_drop,iU]
    simp only[List.length_append,List.length_cons,List.length_nil,bt dK,DY,Int.toNat_natCast]
    grind
   refine A9 (U:=aY) (l':=pre++ei (E.take i)++kH) 0 fE zr zr zr zr zr zr zr zr ?_ ?_ rfl ?_
   ·have MJ:i≠c:=by omega
    show o1+((l.length:Int).toNat-(i:Int).toNat)*3≤_
    rw[CA MJ,hL];omega
   ·rw[← CG];rfl
   refine go ?_
   refine iF zr zr zr zr zr zr zr aj aj (.inr aj) ?_
   intro o2 ho3 ho4
   have Mu:o2=o:=by
    grind
   subst Mu
   refine go ?_
   refine ai (fQ (sz:=3) (nn:=i) (c:=c) gZ aj (by rw[fj,bt dK,List.length_take];omega) (by rw[fj,bt dK,List.length_take];omega) _) ?_
   rw[← tN,tN,qY,← tN]at hE
   refine aL hE Tryz.func424 rfl _ zr zr (ak.fin [0,1] 0 zr zr)
def yc(bd:Nat)(D:Dk)(A:Ab)(hR:Rel D A) :
    aw Tryz.prog 115 [ptr bd] [fG bd D] (fun v H=>∃D',Rel D' A.cq.2∧H=[fG bd D']∧v = .int .i64 A.cq.1):=by
  refine aw.ao Tryz.func115 Tryz.ntmps115 fun G F R hE=>?_
  refine go ?_
  refine bS [0] zr zr zr zr (vF bd D A hR true) rfl iM ?_
  rintro _ _⟨D',fh,rfl,rfl⟩
  refine go ?_
  refine ep zr zr ?_ ?_
  · intro h0
    have n9:¬(A.meet true).1=0:=by have:=of_decide_eq_true h0;omega
    have hf:A.cq=((A.meet true).1,(A.meet true).2):=by simp[Ab.cq,n9]
    rw[hf]at hE
    refine go ?_
    refine aL hE Tryz.func115 rfl _ rfl ⟨D',fh,rfl,rfl⟩ (ak.fin [0] 0 zr zr)
  · intro h0
    have n9:(A.meet true).1=0:=by have:=of_decide_eq_false h0;omega
    have hf:A.cq=(0,{ (A.meet true).2 with aI:=[(A.meet true).2.names] }):=by simp[Ab.cq,n9]
    rw[hf]at hE
    obtain⟨room,bm,k5,mJ,l5,off,maps,dg,files,fg,wl⟩:=D'
    refine ai (gD _ _ _ _ _ _ _ _ _ _ _ _ _) (go ?_)
    refine aq zr zr zr zr zr zr zr zr zr bq ?_
    intro b0
    refine go ?_
    refine ai (eW 94 1 b0 1 1 [.map (some bm)] [] _ rfl (Nat.le_refl _) (by simp)) ?_
    refine ai (ak.pick [1,2,3,4,0,6] rfl) ?_
    refine ai (dy bd room bm _ mJ l5 off maps dg files [bm] wl _) ?_
    have MP:Rel ⟨room,bm,.slice (some ⟨b0,0,none⟩) 1 1,mJ,l5,off,maps,dg,files,[bm],wl⟩ { (A.meet true).2 with aI:=[(A.meet true).2.names] } :=
      { room:=fh.room,off:=fh.off,names:=fh.names,aI:=eM.one fh.names,fs:=fh.fs,writes:=fh.writes,cu:=fh.cu,ids:=fh.ids
        known:=fun st dE=>fh.known st (by simp only[List.mem_cons,List.not_mem_nil,or_false]at dE;rcases dE with rfl|rfl <;> exact List.mem_cons_self ..)
        fC:=fh.fC
        nodup:=fun st dE=>fh.nodup st (by simp only[List.mem_cons,List.not_mem_nil,or_false]at dE;rcases dE with rfl|rfl <;> exact List.mem_cons_self ..)
        e8:=fh.e8,fN:=fh.fN
        ek:=fun st dE=>fh.ek st (by simp only[List.mem_cons,List.not_mem_nil,or_false]at dE;rcases dE with rfl|rfl <;> exact List.mem_cons_self ..)
        fO:=fh.fO,iN:=fh.iN,full:=by simp }
    refine aL hE Tryz.func115 rfl _ rfl ⟨_,MP,rfl,rfl⟩ (ak.fin [0] 1 zr zr)
theorem eM.filter{α β:Type}{q:α→β→Prop}{l:List α}{r:List β}(h:eM q l r){p1:α→Bool}{p2:β→Bool}(hp:∀x y,q x y→p1 x=p2 y):eM q (l.filter p1) (r.filter p2):=by
 induction l generalizing r with
 | nil =>
  have:r=[]:=List.eq_nil_of_length_eq_zero h.1.symm
  grind
 | cons x l ih =>
  cases r with
  | nil=>exact absurd h.1 (by simp)
  | cons y r =>
   have h0:=h.2 0 x y zr zr
   have ht:eM q l r:=⟨by have:=h.1;simpa using this,fun i a b ha hb=>h.2 (i+1) a b (by simpa using ha) (by simpa using hb)⟩
   rw[List.filter_cons,List.filter_cons,hp x y h0]
   split
   ·exact(ih ht).cons h0
   grind
theorem KL{fs:List (Nat × List UInt8 × List UInt8)}(hn:(fs.map (·.1)).Nodup)(hi:fs[i]?=some (f,x)):Ab.me fs f=fs.set i (f,x.1,x.1):=by
 induction fs generalizing i with
 | nil=>simp at hi
 | cons y l ih =>
  simp only[List.map_cons,List.nodup_cons]at hn
  cases i with
  | zero =>
   simp at hi
   subst hi
   simp only[Ab.me,List.map_cons,if_true,List.set_cons_zero,List.cons.injEq,true_and]
   rw[List.map_congr_left (g:=id) (fun z hz=>?_),List.map_id]
   grind
  | succ i =>
   simp at hi
   have gf:y.1≠f:=fun e=>hn.1 (List.mem_map.2 ⟨_,List.mem_of_getElem? hi,e.symm⟩)
   have:=ih hn.2 hi
   simp only[Ab.me]at this
   simp only[Ab.me,List.map_cons,gf,if_false,List.set_cons_succ,this]
theorem uR(fs:List (Nat × List UInt8 × List UInt8))(f:Nat):(Ab.me fs f).map (·.1)=fs.map (·.1):=by
 simp only[Ab.me,List.map_map]
 apply List.map_congr_left
 grind
theorem Rel.synced{D:Dk}(h:Rel D A){w:Value}(hi:D.files[i]?=some (f,v1,v2))(ha:A.fs[i]?=some (f,A.now f,A.sure f)) :
  Rel { D with files:=D.files.set i (f,v1,v1),mJ:=w,wl:=D.wl.filter fun x => !decide (x.1=f) } { A with fs:=Ab.me A.fs f,writes:=A.writes.filter fun x => !decide (x.1=f) } where
 room:=h.room
 off:=h.off
 names:=h.names
 aI:=h.aI
 fs:=by
  rw[KL h.ids ha]
  have h2:=h.fs.2 i _ _ hi ha
  exact eM.set h.fs i ⟨rfl,h2.2.1,h2.2.1⟩
 writes:=eM.filter h.writes (fun x y ub=>by rw[ub.1])
 cu:=h.cu
 ids:=by simp only[uR];exact h.ids
 known:=by simp only[uR];exact h.known
 fC:=by
  simp only[uR]
  exact fun x hx=>h.fC x (List.mem_filter.1 hx).1
 nodup:=h.nodup
 e8:=by
  intro x hx
  simp only[Ab.me,List.mem_map]at hx
  obtain⟨y,hy,rfl⟩:=hx
  have:=h.e8 y hy
  grind
 fN:=fun x hx=>h.fN x (List.mem_filter.1 hx).1
 ek:=h.ek
 fO:=h.fO
 iN:=h.iN
 full:=h.full
theorem Nr(bd:Nat)(D:Dk)(A:Ab)(hR:Rel D A)(name:ByteArray)(k4:A.writes.length≤1000000000) :
  aw Tryz.prog 310 [ptr bd,.string name] [fG bd D]
   (fun v H=>∃D',Rel D' (A.sync (isName name) name).2∧H=[fG bd D']∧v = .int .i64 (A.sync (isName name) name).1):=by
 refine aw.ao Tryz.func310 Tryz.ntmps310 fun G F R hE=>?_
 refine go ?_
 refine aq zr zr zr zr zr zr zr zr zr bq ?_
 intro b0
 refine go ?_
 refine bS [0] zr zr zr zr (iE _ _ [name] (Vw.ag rfl) (by simp)) rfl iM ?_
 rintro _ _⟨rfl,rfl⟩
 have e1:[name].all isName=isName name:=by simp
 rw[e1]
 refine go ?_
 refine bS [1] zr zr zr zr (iW bd D A hR name (isName name)) rfl iM ?_
 generalize mL:isName name=ok at hE ⊢
 rintro _ _⟨D',fh,rfl,rfl⟩
 by_cases n9:(A.find name ok).1=0
 ·obtain⟨aah,fl,q5,dU⟩:=kL n9
  have hw:A.sync ok name=(0,{ (A.find name ok).2.2 with fs:=Ab.me (A.find name ok).2.2.fs fl,writes:=(A.find name ok).2.2.writes.filter fun x => !decide (x.1=fl) }):=by simp[Ab.sync,n9,q5]
  rw[hw]at hE
  rw[q5,n9]
  have aeA:(A.find name ok).2.2.writes.length≤1000000000:=by rw[(mD A name ok).2.2.2.1];exact k4
  generalize (A.find name ok).2.2=A1 at *
  obtain⟨room,bm,k5,mJ,l5,off,maps,dg,files,fg,wl⟩:=D'
  obtain⟨i,v1,v2,hi,qw,k6,qX⟩:=fh.file (f:=fl) (fh.known _ (List.mem_cons_self ..) _ dU)
  obtain⟨a,cap,rfl,fF⟩:=k6.shape
  refine go ?_
  refine aB zr zr zr bq ?_
  intro c5
  refine go ?_
  refine ai (ak.pick [1] rfl) ?_
  refine ai (gD _ _ _ _ _ _ _ _ _ _ _ _ _) ?_
  refine ai (ak.pick [3] rfl) ?_
  refine ai (dF eh hi _) ?_
  refine aO (fun w=>Sat G w ([ag c5 (cl [ptr fl] 193),ag fl (cl [.slice a (A1.now fl).length cap,v2] 199)])) (cM 0 7 (.act 7 .nil)) rfl ae ae ae (fun w hw=>hw.cp (ak.bu ([7,0]) rfl)) ?_
  refine go ?_
  refine aR (ke eh (y:=(fl,.slice a (A1.now fl).length cap,.slice a (A1.now fl).length cap)) hi _) ?_
  refine aR (ak.pick [6,0] rfl) ?_
  refine aR (ak.join _ _ _) ?_
  have nY:(files.set i (fl,.slice a (A1.now fl).length cap,.slice a (A1.now fl).length cap)).map (·.1)=files.map (·.1):=by
   rw[List.map_set]
   apply List.ext_getElem?
   grind
  have hfi:=fh.adQ
  simp only at hfi
  have hwx:∀x∈wl,(∃a n c,x.2.2 = .slice a n c)∧x.1∈files.map (·.1):=fun x hx=>by
   obtain⟨j,hj⟩:=List.getElem?_of_mem hx
   obtain⟨y,hy,h1,_,h3⟩:=fh.writes.left hj
   obtain⟨a,c,h4,_⟩:=h3.shape
   refine⟨⟨_,_,_,h4⟩,?_⟩
   rw[hfi,h1]
   exact fh.fC y (List.mem_of_getElem? hy)
  refine bS [5,0] zr zr zr zr (uo mJ wl (star (ag c5 (cl [ptr fl] 193)) (aJ eh (files.set i (fl,.slice a (A1.now fl).length cap,.slice a (A1.now fl).length cap)))) 425 [ptr c5] (fun x=>decide (x.1=fl)) (by have:=fh.writes.1;simp only at this;omega) (fun x hx=>(hwx x hx).1)
   (fun x hx=>JM c5 fl x.1 x.2.1 x.2.2 _ (by rw[nY,hfi];exact List.mem_map.2 ⟨_,List.mem_of_getElem? qw,rfl⟩) (by rw[nY];exact(hwx x hx).2) (by obtain⟨⟨a,n,c,h⟩,_⟩:=hwx x hx;rw[h];rfl))) rfl iM ?_
  rintro r _ rfl
  refine aM 0 rfl ?_
  rintro ar cr rfl
  refine go ?_
  refine ai (ak.pick [1] rfl) ?_
  refine ai (ak.part _ _ _) ?_
  refine ai (ak.pick [3,4,5,1,6,2] rfl) ?_
  refine ai (dy bd room bm k5 _ l5 off maps dg _ fg _ _) ?_
  refine aL hE Tryz.func310 rfl _ rfl ⟨_,fh.synced hi qw,rfl,rfl⟩ (ak.fin [0] 2 zr zr)
 ·have hw:A.sync ok name=((A.find name ok).1,(A.find name ok).2.2):=by simp[Ab.sync,n9]
  rw[hw]at hE
  cases Bm:(A.find name ok).2.1 with
  | none =>
   refine go ?_
   refine aB zr zr zr bq ?_
   intro c5
   refine go ?_
   refine ep zr zr ?_ ?_
   ·intro _
    refine go ?_
    refine aL hE Tryz.func310 rfl _ rfl ⟨D',fh,rfl,rfl⟩ (ak.fin [1] 2 zr zr)
   ·intro h;exfalso;have:=of_decide_eq_false h;omega
  | some fl =>
   refine go ?_
   refine aB zr zr zr bq ?_
   intro c5
   refine go ?_
   refine ep zr zr ?_ ?_
   ·intro _
    refine go ?_
    refine aL hE Tryz.func310 rfl _ rfl ⟨D',fh,rfl,rfl⟩ (ak.fin [1] 2 zr zr)
   ·intro h;exfalso;have:=of_decide_eq_false h;omega
abbrev KA:=List (Nat × List UInt8 × List UInt8)
structure i'(zv dg:eG)(files:List (Nat × Value × Value))(fs:KA)(ids:List Nat):Prop where
 all:eM (fun x y=>x.1=y.1∧jx dg x.2.1 y.2.1∧jx dg x.2.2 y.2.2) files fs
 sub:∀x∈zv,x∈dg
 ids:fs.map (·.1)=ids
 small:∀x∈fs,x.2.1.length≤1048576∧x.2.2.length≤1048576
def pZ(stay:List UInt8)(i:Nat):Bool:=decide (i/8<stay.length∧((stay.getD (i/8) 0).toNat/2 ^ (i%8))%2=1)
theorem GS(g:Nat × List UInt8 × List UInt8→Nat × List UInt8 × List UInt8){fs:KA}(hn:(fs.map (·.1)).Nodup)(hi:fs[i]?=some (f,x)):(fs.map fun y=>if y.1=f then g y else y)=fs.set i (g (f,x)):=by
 induction fs generalizing i with
 | nil=>simp at hi
 | cons y l ih =>
  simp only[List.map_cons,List.nodup_cons]at hn
  cases i with
  | zero =>
   simp at hi
   subst hi
   simp only[List.map_cons,if_true,List.set_cons_zero,List.cons.injEq,true_and]
   rw[List.map_congr_left (g:=id) (fun z hz=>?_),List.map_id]
   grind
  | succ i =>
   grind
def i'.get{zv dg:eG}{fs:KA}{ids:List Nat}(h:i' zv dg files fs ids)(hn:ids.Nodup)(hf:f∈ids) :
  ∃(j:Nat) (v1 v2:Value) (n s:List UInt8),files[j]?=some (f,v1,v2)∧fs[j]?=some (f,n,s)∧jx dg v1 n∧jx dg v2 s∧n.length≤1048576∧s.length≤1048576∧(fs.find? fun x=>decide (x.1=f))=some (f,n,s):=by
 rw[← h.ids]at hf hn
 obtain⟨⟨f',n,s⟩,hm,rfl⟩:=List.mem_map.1 hf
 obtain⟨i,hi⟩:=List.getElem?_of_mem hm
 obtain⟨⟨f2,v1,v2⟩,hx,h1,h2,h3⟩:=h.all.right hi
 simp only at h1 h2 h3
 subst h1
 exact⟨i,v1,v2,n,s,hx,hi,h2,h3,(h.small _ hm).1,(h.small _ hm).2,qh hn hi⟩
theorem i'.put{zv dg:eG}{fs:KA}{ids:List Nat}(h:i' zv dg files fs ids)(hs:∀x∈dg,x∈arrs'){y:List UInt8 × List UInt8}(hj:fs[j]?=some (f,y))(h1:jx arrs' v1 n)(h2:jx arrs' v2 s)(hl:n.length≤1048576∧s.length≤1048576):i' zv arrs' (files.set j (f,v1,v2)) (fs.set j (f,n,s)) ids where
 all:=eM.set (h.all.mono fun x y ub=>⟨ub.1,ub.2.1.mono hs,ub.2.2.mono hs⟩) j ⟨rfl,h1,h2⟩
 sub x hx:=hs x (h.sub x hx)
 ids:=by
  rw[← h.ids,List.map_set]
  apply List.ext_getElem?
  grind
 small x hx:=by
  rcases List.mem_or_eq_of_mem_set hx with h'|rfl
  ·exact h.small x h'
  ·exact hl
theorem drop_cons{α:Type}{l:List α}{x:α}(h:l[i]?=some x):l.drop i=x::l.drop (i+1):=by
 have cB:i<l.length:=by
  grind
 rw[List.drop_eq_getElem_cons cB]
 grind
theorem vK{cut:Int}{ws:List (Nat × Nat × List UInt8)}{fs:KA}{a:Nat}{c:List UInt8}(h:ws[i]?=some (f,a,b))(hn:(fs.map (·.1)).Nodup)(hj:fs[j]?=some (f,n,s))(hk:Ab.kept stay dS cut i b=some c):Ab.kG stay dS cut i (ws.drop i) fs=Ab.kG stay dS cut (i+1) (ws.drop (i+1)) (fs.set j (f,n,cX s a c)):=by
 rw[drop_cons h]
 simp only[Ab.kG,hk]
 rw[qh hn hj]
 have:=GS (fun y=>(y.1,y.2.1,cX s a c)) hn hj
 unfold Ab.Gs
 grind
def vL{cut:Int}{ws:List (Nat × Nat × List UInt8)}{fs:KA}{a:Nat}(h:ws[i]?=some (f,a,b))(hk:Ab.kept stay dS cut i b=none):Ab.kG stay dS cut i (ws.drop i) fs=Ab.kG stay dS cut (i+1) (ws.drop (i+1)) fs:=by
 rw[drop_cons h]
 simp only[Ab.kG,hk]
theorem yR{cut:Int}{c:Nat}(hi:(i:Int)=dS)(hc:max 0 (min cut b.length)=(c:Int)):Ab.kept stay dS cut i b=if c=0 then none else some (b.take c):=by
 unfold Ab.kept
 rw[if_pos hi]
 have e:(max 0 (min cut (b.length:Int))).toNat=c:=by omega
 simp only[e]
 have hcb:c≤b.length:=by omega
 by_cases h0:c=0
 ·simp[h0]
 ·have hlen:(b.take c).length=c:=by rw[List.length_take];omega
  grind
theorem IS{cut:Int}(hi:(i:Int)≠dS):Ab.kept stay dS cut i b=if pZ stay i=true then some b else none:=by
 unfold Ab.kept pZ
 grind
def mark(S:List Nat)(fs:KA):KA:=fs.map fun x=>if x.1∈S then(x.1,x.2.2,x.2.2)else x
def LW(fs:KA):mark [] fs=fs:=by simp[mark]
theorem LY{S S':List Nat}(fs:KA)(h:∀x,x∈S↔x∈S'):mark S fs=mark S' fs:=by
 grind [mark]
def LX(S:List Nat)(fs:KA):(mark S fs).map (·.1)=fs.map (·.1):=by
 unfold mark;rw[List.map_map];apply List.map_congr_left;intro x _;simp only[Function.comp];split <;> rfl
theorem LV{S:List Nat}{fs:KA}(hn:(fs.map (·.1)).Nodup)(hj:(mark S fs)[j]?=some (f,n,s)):(mark S fs).set j (f,s,s)=mark (f::S) fs:=by
 have h1:=GS (fun y=>(y.1,y.2.2,y.2.2)) (by rw[LX];exact hn) hj
 rw[← h1]
 unfold mark
 rw[List.map_map]
 apply List.map_congr_left
 grind
def Rel.crashed{D:Dk}(h:Rel D A){last cut:Int}{q b1 b0:Nat}{nm:List (ByteArray × Nat)}{MT:List (Nat × Value × Value)}{w p:Value}(hw:w = .slice none 0 0)(hp:p = .slice none 0 0)(hq:max 0 (min last ((A.aI.length:Int)-1))=q)(nR:A.aI[q]?=some nm)(hb:(b1,dT nm)∈D.maps)(hF:i' D.dg arrs' MT (mark (Ab.reach (A.aI++[nm])) (Ab.kG stay dS cut 0 A.writes A.fs)) (A.fs.map (·.1))) :
    Rel ⟨D.room,b1,.slice (some ⟨b0,0,none⟩) 1 1,w,p,false,D.maps,arrs',MT,[b1],[]⟩ (A.rp last stay dS cut):=by
  subst hw hp
  have dE:nm∈A.aI:=List.mem_of_getElem? nR
  have e:A.rp last stay dS cut={ A with names:=nm,aI:=[nm],writes:=[],cu:=[],off:=false,fs:=mark (Ab.reach (A.aI++[nm])) (Ab.kG stay dS cut 0 A.writes A.fs) }:=by
    have e1:(max 0 (min last ((A.aI.length:Int)-1))).toNat=q:=by omega
    have e2:A.aI.getD (max 0 (min last ((A.aI.length:Int)-1))).toNat []=nm:=by rw[e1,List.getD_eq_getElem?_getD,nR];rfl
    simp only[Ab.rp,e2];rfl
  rw[e]
  have cH:∀st∈nm::[nm],st∈A.names::A.aI:=fun st hs=>by
    simp only[List.mem_cons,List.not_mem_nil,or_false]at hs
    rcases hs with rfl|rfl <;> exact List.mem_cons_of_mem _ dE
  exact
  { room:=h.room,off:=rfl,names:=hb,aI:=eM.one hb,fs:=hF.all,writes:=eM.nil,cu:=jx.nil _ _ _
    ids:=by simp only;rw[hF.ids];exact h.ids
    known:=fun st hs x hx=>by simp only;rw[hF.ids];exact h.known st (cH st hs) x hx
    fC:=by simp
    nodup:=fun st hs=>h.nodup st (cH st hs)
    e8:=hF.small
    fN:=by simp
    ek:=fun st hs=>h.ek st (cH st hs)
    fO:=h.fO,iN:=by simp,full:=by simp }
set_option maxRecDepth 20000 in
theorem Kf(bd:Nat)(D:Dk)(A:Ab)(hR:Rel D A)(last dS cut:Int)(X:HP)(bv:Value)(stay:List UInt8)(hv:Vw X bv stay.length (bV stay))(eR:stay.length≤9223372036854775807)(dE:A.aI.length≤1000000000)(k4:A.writes.length≤1000000000)(h1 : -9223372036854775808≤last∧last≤9223372036854775807)(h2 : -9223372036854775808≤dS∧dS≤9223372036854775807)(h3 : -9223372036854775808≤cut∧cut≤9223372036854775807) :
  aw Tryz.prog 54 [ptr bd,.int .i64 last,bv,.int .i64 dS,.int .i64 cut] [fG bd D,X] (fun v H=>∃D',Rel D' (A.rp last stay dS cut)∧H=[fG bd D',X]):=by
 obtain⟨a0,c0,rfl⟩:=hv.shape
 obtain⟨room,bm,k5,mJ,l5,off,maps,dg,files,fg,wl⟩:=D
 have hlen:=hR.aI.1
 have acU:=hR.writes.1
 have tL:=hR.full
 have nv:0<A.aI.length:=List.length_pos_iff.2 tL
 simp only at hlen acU
 refine aw.ao Tryz.func54 Tryz.ntmps54 fun G F R hE=>?_
 refine ai (gD _ _ _ _ _ _ _ _ _ _ _ _ _) ?_
 refine cU 4 rfl ?_
 rintro sa cs rfl
 refine aO (fun w=>Sat G w ([ag bd (cl [.int .i64 room,.map (some bm),.slice sa fg.length cs,mJ,l5,.bool off] 98),aH 94 1 (.slice sa fg.length cs) fg.length (fg.map fun b => .map (some b))])) (cM 0 18 (.act 18 .nil)) rfl ae ae ae (fun w hw=>hw.cp (ak.bu ([0,4]) rfl)) ?_
 refine go ?_
 refine HE 4 rfl aj ?_
 rintro bs os wH hs Oc
 simp only[Value.slice.injEq,true_and]at hs
 obtain⟨rfl,rfl⟩:=hs
 obtain⟨q,hq⟩:∃q:Nat,max 0 (min last ((fg.length:Int)-1))=q:=Int.eq_ofNat_of_zero_le aj
 have hqs:q<fg.length:=by omega
 refine bD q zr zr zr zr zr zr zr hq hqs ?_
 obtain⟨b1,pH⟩:∃b1,fg[q]?=some b1:=⟨fg[q],by simp⟩
 refine cV 1 q zr zr zr Oc rfl (c := .map (some b1)) (by simp[pH]) zr zr (go ?_)
 refine aR (ak.pick [5] rfl) ?_
 refine aM 0 rfl ?_
 rintro wa wc rfl
 refine go ?_
 refine bj (fun s:Nat × eG × List (Nat × Value × Value) × List (Nat × List UInt8 × List UInt8)=>s.1≤wl.length∧i' dg s.2.1 s.2.2.1 s.2.2.2 (A.fs.map (·.1))∧Ab.kG stay dS cut s.1 (A.writes.drop s.1) s.2.2.2=Ab.kG stay dS cut 0 A.writes A.fs) (fun s=>wl.length-s.1)
  (fun s=>[(0,ptr bd),(2,.slice a0 stay.length c0),(3,.int .i64 dS),(4,.int .i64 cut),(38,.slice wa wl.length wc),(39,.int .i64 wl.length),(40,.int .i64 s.1)])
  (fun s=>aH 195 3 (.slice wa wl.length wc) wl.length (ei wl)::ag bd (cl [.int .i64 room,.map (some b1),.slice (some ⟨bs,os,none⟩) fg.length cs,.slice wa wl.length wc,l5,.bool off] 98)::aJ jB maps::a6 5 s.2.1::aJ eh s.2.2.1::aH 94 1 (.slice (some ⟨bs,os,none⟩) fg.length cs) fg.length (fg.map fun b => .map (some b))::X::F)
  (0,dg,files,A.fs) ⟨by simp,⟨hR.fs,fun x h=>h,rfl,hR.e8⟩,rfl⟩ rfl bO (ak.refl _) ?_
 rintro⟨i,kP,Ft,Q2⟩⟨hi,hF,hL⟩ ih
 simp only at hi hF hL
 refine go ?_
 refine aD zr zr ?_ ?_
 ·intro cB
  simp only at cB
  have dP:i<wl.length:=by omega
  obtain⟨⟨fx,ax,bx⟩,hx⟩:∃x,wl[i]?=some x:=⟨wl[i],by simp[dP]⟩
  obtain⟨⟨fy,ay,ju⟩,hy,acR,acQ,Z8⟩:=hR.writes.left hx
  simp only at acR acQ Z8
  subst acR acQ
  have Oi:=Z8.mono hF.sub
  obtain⟨ba,bc,rfl,hbc⟩:=Z8.shape
  refine go ?_
  refine eL 0 rfl ?_
  intro dt
  obtain⟨bw,ow,cw,hsw⟩:=dt.some (by rw[← List.length_pos_iff,fj,bt dK];omega)
  simp only[Value.slice.injEq,true_and]at hsw
  obtain⟨rfl,rfl⟩:=hsw
  refine bM i 3 zr zr zr zr zr zr zr zr dP ?_
  refine bZ (U:=aY) (es:=vJ (fx,ax,.slice ba ju.length bc)) 0 (i*3) zr zr zr dt rfl (fun q v hq=>?_) zr zr zr ?_
  ·have y3:q<3:=by
    grind [dK]
   rw[fj,cd dK hx q y3];exact hq
  refine aB zr zr zr bq ?_
  intro bw1
  refine go ?_
  refine fL zr zr zr aj ?_
  refine aC 46 (.int .i64 ((i/8:Nat):Int)) rfl (congrArg (Value.int .i64) (by show(i:Int)/8=((i/8:Nat):Int);omega)) ?_
  refine go ?_
  refine ew zr zr zr zr ?_ ?_
  case' refine_2 =>
   intro pF
   refine go ?_
   refine aQ 12 (.bool (pZ stay i)) rfl (congrArg Value.bool (by
    unfold pZ
    exact(decide_eq_false aj).symm)) ?_
  case' refine_1 =>
   intro pF
   obtain⟨bst,ost,cst,ac0⟩:=hv.some (by rw[← List.length_pos_iff,bK];omega)
   simp only[Value.slice.injEq,true_and]at ac0
   obtain⟨rfl,rfl⟩:=ac0
   refine go ?_
   refine fL zr zr zr aj ?_
   refine aC 53 (.int .i64 ((i/8:Nat):Int)) rfl (congrArg (Value.int .i64) (by show(i:Int)/8=((i/8:Nat):Int);omega)) ?_
   have hi8:i/8<stay.length:=by omega
   refine go ?_
   refine bD (i/8) zr zr zr zr zr zr zr zr hi8 (go ?_)
   obtain⟨sx,Qw⟩:∃x,stay[i/8]?=some x:=⟨stay[i/8]'hi8,by simp⟩
   refine rH (U:=aY) 7 zr zr zr (hv.cell (sQ Qw)) zr zr (go ?_)
   refine aC 57 (.int .i64 ((i%2 ^ 3:Nat):Int)) rfl (congrArg (Value.int .i64) (ru i 3 aj aj)) (go ?_)
   refine fL zr zr zr aj ?_
   have hsh:(sx.toNat:Int)/2 ^ (min (((i%2 ^ 3:Nat):Int).toNat) IntKind.u8.bits)=((sx.toNat/2 ^ (i%8):Nat):Int):=by
    have e1:min (((i%2 ^ 3:Nat):Int).toNat) IntKind.u8.bits=i%8:=by show min (i%8) 8=i%8;omega
    grind
   refine aC 58 (.int .u8 ((sx.toNat/2 ^ (i%8):Nat):Int)) rfl (congrArg (Value.int .u8) hsh) ?_
   have hsb:sx.toNat/2 ^ (i%8)<256:=Nat.lt_of_le_of_lt (Nat.div_le_self _ _) sx.toNat_lt
   refine go ?_
   refine aQ 12 (.bool (pZ stay i)) rfl (congrArg Value.bool (by
    have:=FR _ hsb
    unfold pZ
    rw[decide_eq_decide,List.getD_eq_getElem?_getD,Qw]
    show IntKind.u8.wrap _=1↔_
    rw[this]
    simp only[Option.getD_some]
    omega)) ?_
  all_goals(
   generalize O7:pZ stay i=told
   clear pF
   refine go ?_
   refine aD zr zr ?_ ?_
   ·intro G3
    refine go ?_
    obtain⟨c,hc⟩:∃c:Nat,max 0 (min cut (ju.length:Int))=c:=Int.eq_ofNat_of_zero_le aj
    have hcb:c≤ju.length:=by omega
    refine bo (p:=0) (q:=max 0 (min cut (ju.length:Int))) zr zr zr zr zr zr zr (Int.le_refl _) aj (.inr aj) ?_
    refine aC 73 (.slice (sliceAt ba bc 0 1) c bc) rfl (by simp only[hc];rfl) ?_
    refine go ?_
    refine aD zr zr ?_ ?_
    ·intro sF
     have aaE:c≠0:=by intro e;subst e;simp at sF
     have hk:Ab.kept stay dS cut i ju=some (ju.take c):=by rw[yR G3 hc,if_neg aaE]
     have Jh:jx kP (.slice (sliceAt ba bc 0 1) c bc) (ju.take c):=Oi.cut 0 c aj
     have uj:(ju.take c).length=c:=by rw[List.length_take];omega
     (obtain⟨j,v1,v2,n,s,hj,QQ,PA,Fk,G9,O8,Hd⟩:=hF.get hR.ids (hR.fC _ (List.mem_of_getElem? hy));have hwb:=hR.fN _ (List.mem_of_getElem? hy);simp only at hwb;have aai:(Q2.map (·.1)).Nodup:=(by rw[hF.ids];exact hR.ids);have aez:=pW s ax (ju.take c);refine ai (ak.pick [5] rfl) ?_;refine ai (dF eh hj _) ?_;refine aO (fun w=>Sat G w ([ag bw1 (cl [ptr fx,.int .i64 ax,(.slice (sliceAt ba bc 0 1) c bc)] 195),ag fx (cl [v1,v2] 199)])) (cM 0 11 (.act 11 (.st 12 (.st 13 (.act 14 .nil))))) rfl ae ae ae (fun w hw=>hw.cp (ak.bu ([2,0]) rfl)) ?_;refine go ?_;refine bS [6] rfl rfl rfl rfl (rX (a6 5 kP) v2 _ s (ju.take c) ax (Fk.view _) (Jh.view _) aj) rfl (fun _ _ w hp hw=>by obtain⟨_,_,_,_,rfl⟩:=hp;exact hw.cp (ak.bu [4,2] rfl)) ?_;rintro _ _⟨bl,qj,rfl,CO,rfl⟩;refine go ?_;refine ai (ak.pick [2,3] rfl) ?_;refine ai (ke eh (y:=(fx,v1,.slice (some ⟨bl,0,none⟩) (cX s ax (ju.take c)).length qj)) hj _) ?_;refine ai (ak.pick [1,2] rfl) ?_;refine ai (wX 5 bl _ kP _) ?_;have QZ:=hF.put (arrs':=(bl,bV (cX s ax (ju.take c)))::kP) (v1:=v1) (v2 := .slice (some ⟨bl,0,none⟩) (cX s ax (ju.take c)).length qj) (n:=n) (s:=cX s ax (ju.take c)) (fun x h=>List.mem_cons_of_mem _ h) QQ (PA.mono fun x h=>List.mem_cons_of_mem _ h) (jx.row CO) ⟨G9,aj⟩;refine aK ih (i+1,_,_,_) rfl ⟨dP,QZ,by rw[← hL];exact(vK hy aai QQ hk).symm⟩ (by show _-(_+1)<_;omega) bO (ak.to [3,4,5,0,1,6,7] 1 zr zr zr))
    ·intro sF
     have aaE:c=0:=by rcases Nat.eq_zero_or_pos c with h|h;exact h;exact absurd (by simp;exact h) sF
     have hk:Ab.kept stay dS cut i ju=none:=by rw[yR G3 hc,if_pos aaE]
     refine go ?_
     (refine aK ih (i+1,kP,Ft,Q2) rfl ⟨dP,hF,by rw[← hL];exact(vL hy hk).symm⟩ (by show _-(_+1)<_;omega) bO (ak.drop _ _))
   ·intro G3
    refine go ?_
    have hkk:=IS (stay:=stay) (cut:=cut) (b:=ju) G3
    cases told with
    | false => 
     have hk:Ab.kept stay dS cut i ju=none:=by rw[hkk,O7];rfl
     refine go ?_
     (refine aK ih (i+1,kP,Ft,Q2) rfl ⟨dP,hF,by rw[← hL];exact(vL hy hk).symm⟩ (by show _-(_+1)<_;omega) bO (ak.drop _ _))
    | true =>
     have hk:Ab.kept stay dS cut i ju=some ju:=by rw[hkk,O7];rfl
     have Jh:jx kP (.slice ba ju.length bc) ju:=Oi
     have uj:ju.length=ju.length:=rfl
     have hcb:ju.length≤ju.length:=Nat.le_refl _
     refine go ?_
     (obtain⟨j,v1,v2,n,s,hj,QQ,PA,Fk,G9,O8,Hd⟩:=hF.get hR.ids (hR.fC _ (List.mem_of_getElem? hy));have hwb:=hR.fN _ (List.mem_of_getElem? hy);simp only at hwb;have aai:(Q2.map (·.1)).Nodup:=(by rw[hF.ids];exact hR.ids);have aez:=pW s ax ju;refine ai (ak.pick [5] rfl) ?_;refine ai (dF eh hj _) ?_;refine aO (fun w=>Sat G w ([ag bw1 (cl [ptr fx,.int .i64 ax,(.slice ba ju.length bc)] 195),ag fx (cl [v1,v2] 199)])) (cM 0 11 (.act 11 (.st 12 (.st 13 (.act 14 .nil))))) rfl ae ae ae (fun w hw=>hw.cp (ak.bu ([2,0]) rfl)) ?_;refine go ?_;refine bS [6] rfl rfl rfl rfl (rX (a6 5 kP) v2 _ s ju ax (Fk.view _) (Jh.view _) aj) rfl (fun _ _ w hp hw=>by obtain⟨_,_,_,_,rfl⟩:=hp;exact hw.cp (ak.bu [4,2] rfl)) ?_;rintro _ _⟨bl,qj,rfl,CO,rfl⟩;refine go ?_;refine ai (ak.pick [2,3] rfl) ?_;refine ai (ke eh (y:=(fx,v1,.slice (some ⟨bl,0,none⟩) (cX s ax ju).length qj)) hj _) ?_;refine ai (ak.pick [1,2] rfl) ?_;refine ai (wX 5 bl _ kP _) ?_;have QZ:=hF.put (arrs':=(bl,bV (cX s ax ju))::kP) (v1:=v1) (v2 := .slice (some ⟨bl,0,none⟩) (cX s ax ju).length qj) (n:=n) (s:=cX s ax ju) (fun x h=>List.mem_cons_of_mem _ h) QQ (PA.mono fun x h=>List.mem_cons_of_mem _ h) (jx.row CO) ⟨G9,aj⟩;refine aK ih (i+1,_,_,_) rfl ⟨dP,QZ,by rw[← hL];exact(vK hy aai QQ hk).symm⟩ (by show _-(_+1)<_;omega) bO (ak.to [3,4,5,0,1,6,7] 1 zr zr zr)))
 ·intro eN
  simp only at eN
  have hiw:i=wl.length:=by omega
  subst hiw
  have afk:Q2=Ab.kG stay dS cut 0 A.writes A.fs:=by rw[← hL,List.drop_of_length_le aj];rfl
  obtain⟨nm,nR,hbm⟩:=hR.aI.left pH
  have eY:eM (fun b es=>(b,dT es)∈maps) (fg++[b1]) (A.aI++[nm]):=eM.snoc hR.aI hbm
  refine aO (fun w=>Sat G w ([ag bd (cl [.int .i64 room,.map (some b1),.slice (some ⟨bs,os,none⟩) fg.length cs,.slice wa wl.length wc,l5,.bool off] 98)])) (cM 0 8 (.st 11 (.act 8 (.act 9 (.st 10 .nil))))) rfl ae ae ae (fun w hw=>hw.cp (ak.bu ([1]) rfl)) ?_
  refine go ?_
  refine aq zr zr zr zr zr zr zr zr zr (fun _ w hw=>hw.cp (ak.bu ([2]) rfl)) ?_
  intro b0
  refine aU (mm:=1) (news:=[.map (some b1)]) 6 0 zr zr zr zr zr zr zr zr zr zr zr zr (Vw.ag rfl) rfl (by simp[Value.oneCell']) aj (by show _*8≤_;omega) (fun _=>rfl) (fun _ w hw=>hw.cp (ak.bu ([2]) rfl)) ?_
  intro v'
  have e1:(fg.map fun b=>Value.map (some b))++[.map (some b1)]=(fg++[b1]).map fun b=>Value.map (some b):=by simp
  have e2:fg.length+1=(fg++[b1]).length:=by simp
  have e3:(fg++[b1]).length≤1000000001:=by rw[← e2];omega
  rw[e1,e2]
  refine aM 6 rfl ?_
  rintro av cv rfl
  refine go ?_
  refine bj (fun s:Nat × List (Nat × Value × Value) × List Nat=>s.1≤(fg++[b1]).length∧i' dg kP s.2.1 (mark s.2.2 Q2) (A.fs.map (·.1))∧∀x,x∈s.2.2↔x∈Ab.reach ((A.aI++[nm]).take s.1)) (fun s=>(fg++[b1]).length-s.1)
   (fun s=>[(0,ptr bd),(104,.slice av (fg++[b1]).length cv),(105,.int .i64 (fg++[b1]).length),(106,.int .i64 s.1)])
   (fun s=>aH 94 1 (.slice av (fg++[b1]).length cv) (fg++[b1]).length ((fg++[b1]).map fun b => .map (some b))::ag bd (cl [.int .i64 room,.map (some b1),.slice (some ⟨bs,os,none⟩) fg.length cs,.slice wa wl.length wc,l5,.bool off] 98)::aJ jB maps::a6 5 kP::aJ eh s.2.1::X::F)
   (0,Ft,[]) ⟨Nat.zero_le _,by rw[LW];exact hF,by simp[Ab.reach]⟩ rfl bO (ak.to [6,2,3,4,5,7] 2 zr zr zr) ?_
  rintro⟨i,MS,S⟩⟨Kw,QZ,hS2⟩ O2
  simp only at Kw QZ hS2
  refine go ?_
  refine aD zr zr ?_ ?_
  ·intro cB
   simp only at cB
   have ui:i<(fg++[b1]).length:=by omega
   obtain⟨bi,hbi⟩:∃x,(fg++[b1])[i]?=some x:=⟨(fg++[b1])[i],by rw[List.getElem?_eq_getElem]⟩
   obtain⟨es,lC,hm⟩:=eY.left hbi
   have adF:es∈A.names::A.aI:=by
    grind
   refine go ?_
   refine HE 0 rfl aj ?_
   rintro bn on cn Cy G1
   simp only[Value.slice.injEq,true_and]at Cy
   obtain⟨rfl,rfl⟩:=Cy
   refine bD i zr zr zr zr zr zr zr zr ui ?_
   refine aP 0 i zr zr zr G1 rfl (c := .map (some bi)) (by simp only[List.getElem?_map,hbi,Option.map_some]) zr zr ?_
   refine go ?_
   obtain⟨jm,hjm⟩:=List.getElem?_of_mem hm
   refine aR (ak.pick [2] rfl) ?_
   refine aR (dF jB hjm _) ?_
   refine j0 (kv:=Value.string) (es:=dT es) (U:=aY) 0 zr zr zr zr zr (fun _=>rfl) bq ?_
   intro it
   refine go ?_
   have adi:=hR.nodup _ adF
   have CF:(dT es).map (·.1)=es.map (·.1):=by simp[dT,Function.comp_def]
   refine bj (fun s:List ByteArray × List (Nat × Value × Value) × List Nat=>(s.1.Nodup∧∀x∈s.1,x∈es.map (·.1))∧i' dg kP s.2.1 (mark s.2.2 Q2) (A.fs.map (·.1))∧∀x,x∈s.2.2↔x∈S∨∃k∈s.1,(k,x)∈es) (fun s=>es.length-s.1.length)
    (fun s=>[(111,.pointer (some ⟨it,0,none⟩)),(0,ptr bd),(104,.slice (some ⟨bn,on,none⟩) (fg++[b1]).length cv),(105,.int .i64 (fg++[b1]).length),(106,.int .i64 i)])
    (fun s=>bE Value.string bi it (dT es) s.1::aJ jB (maps.eraseIdx jm)::aH 94 1 (.slice (some ⟨bn,on,none⟩) (fg++[b1]).length cv) (fg++[b1]).length ((fg++[b1]).map fun b => .map (some b))::ag bd (cl [.int .i64 room,.map (some b1),.slice (some ⟨bs,os,none⟩) fg.length cs,.slice wa wl.length wc,l5,.bool off] 98)::a6 5 kP::aJ eh s.2.1::X::F)
    ([],MS,S) ⟨⟨List.nodup_nil,by simp⟩,QZ,by simp⟩ rfl bO (ak.refl _) ?_
   rintro⟨dn,aaK,S3⟩⟨⟨nx,acZ⟩,hF3,hS3⟩ ih3
   simp only at nx acZ hF3 hS3
   refine go ?_
   refine nI (kv:=Value.string) (es:=dT es) 0 rfl tY.inj zr zr (fun _=>rfl) fE bq ?_ ?_
   ·intro afU
    refine go ?_
    refine ai ((ak.head (B:=[jB (bi,dT es)]) (fun h hs=>by obtain⟨h',s,hm⟩:=gM h hs;exact⟨h',s,di hm⟩)).trans (gp jB hjm _)) ?_
    have hS4:∀x,x∈S3↔x∈Ab.reach ((A.aI++[nm]).take (i+1)):=by
     intro x
     rw[hS3 x,hS2 x,List.take_add_one,lC]
     simp only[Ab.reach,Option.toList_some,List.flatMap_append,List.flatMap_cons,List.flatMap_nil,List.append_nil,List.mem_append]
     grind
    refine go ?_
    have ih:=O2
    refine aK ih (i+1,aaK,S3) rfl ⟨ui,hF3,hS4⟩ (by show _-(_+1)<_;omega) bO (ak.to [1,2,0,3,4,5] 0 zr zr zr)
   ·intro key v dU k8
    obtain⟨⟨k',f⟩,hx,Kr⟩:=List.mem_map.1 dU
    simp only[Prod.mk.injEq]at Kr
    obtain⟨rfl,rfl⟩:=Kr
    refine go ?_
    refine lN (kv:=Value.string) (es:=dT es) 0 rfl tY.inj zr zr dU (go ?_)
    obtain⟨j,v1,v2,n,s,hj,QQ,PA,Fk,G9,O8,Hd⟩:=hF3.get hR.ids (hR.known _ adF _ hx)
    obtain⟨a2,c2,rfl,_⟩:=Fk.shape
    refine aR (ak.pick [5] rfl) ?_
    refine aR (dF eh hj _) (go ?_)
    refine ai (ke eh (y:=(f,.slice a2 s.length c2,.slice a2 s.length c2)) hj _) ?_
    have hF4:=hF3.put (v1 := .slice a2 s.length c2) (v2 := .slice a2 s.length c2) (n:=s) (s:=s) (fun _ h=>h) QQ Fk Fk ⟨O8,O8⟩
    rw[LV (by rw[hF.ids];exact hR.ids) QQ]at hF4
    have hmk:k'∈es.map (·.1):=List.mem_map.2 ⟨_,hx,rfl⟩
    have CL:(k'::dn).Nodup:=List.nodup_cons.2 ⟨k8,nx⟩
    have vT:∀x∈k'::dn,x∈es.map (·.1):=fun x hx=>by
     grind
    have qY:=sy CL vT
    rw[List.length_map,List.length_cons]at qY
    have hS4:∀x,x∈f::S3↔x∈S∨∃k∈k'::dn,(k,x)∈es:=by
     intro x
     rw[List.mem_cons,hS3 x]
     constructor
     ·grind
     ·rintro(h|⟨k,hk,hkx⟩)
      ·grind
      ·rcases List.mem_cons.1 hk with rfl|hk
       ·left
        have h1:=nj adi hx
        rw[nj adi hkx]at h1
        grind
       grind
    have ih:=ih3
    refine aK ih (k'::dn,_,f::S3) rfl ⟨⟨CL,vT⟩,hF4,hS4⟩ (by simp only[List.length_cons];omega) bO (ak.to [1,2,3,4,5,0,6] 0 zr zr zr)
  ·intro afi
   simp only at afi
   have tK:i=(fg++[b1]).length:=by omega
   subst tK
   rw[eY.1,List.take_length]at hS2
   rw[LY Q2 hS2,afk]at QZ
   refine go ?_
   refine aq zr zr zr zr zr zr zr zr zr bq ?_
   intro b2
   refine go ?_
   refine ai (eW 94 1 b2 1 1 [.map (some b1)] [] _ rfl (Nat.le_refl _) (by simp)) ?_
   refine ai (bp 195 3 none _) ?_
   refine ai (ak.pick [3,4,5,6,1,0,7] rfl) ?_
   refine ai (dy bd room b1 (.slice (some ⟨b2,0,none⟩) 1 1) (.slice none 0 0) (.slice none 0 0) false maps kP MS [b1] [] _) ?_
   have MP:=hR.crashed (b0:=b2) zr zr (by rw[← hlen];exact hq) nR hbm QZ
   refine bB hE Tryz.func54 rfl _ rfl ⟨_,MP,rfl⟩ (ak.fin [0,1] 1 zr zr)
end Go.Proofs.YtjpboghdolfekaaGreatDoor
