/- Texts of one claim, joined: Fa, Fb, Fc, Fd, Fe, Ff, Fg, Fj, Fp, Fq, Fs0, Fs, Fr, Tl0, Ja. -/
import Derived.Test.YthjbidjmgbjkiaaGreatDoorQPH2
import Derived.Test.YthjbidjmgbjkiaaGreatDoorQPH3
set_option linter.unusedSimpArgs false
set_option linter.unusedVariables false
namespace Go.Proofs.YthjbidjmgbjkiaaGreatDoor
open Go Go.SL
attribute [local irreducible] J K aD Ends ag az aL bK aZ
theorem uE(A X:HP)(v:Value)(bs:List UInt8)(hv:Vw A v bs.length (bV bs))(hlen:bs.length≤9223372036854775807)(g:FuncId)(cap:List Value)(p:UInt8→Bool)(hf:∀x∈bs,aD Tryz.prog g (u8 x::cap) [X] (fun v H=>v = .bool (p x)∧H=[X])) :
  aD Tryz.prog 212 [v,.func (.func g) #[] cap.toArray] [A,X] (fun r H=>r = .int .i64 (jy p bs)∧H=[A,X]):=by
 obtain⟨a,c0,rfl⟩:=hv.shape
 refine aD.enter Tryz.func212 ak rfl Tryz.ntmps212 zr zr ?_
 intro G F R hR
 refine go ?_
 refine bo (fun i:Nat=>i≤bs.length∧∀y∈bs.take i,p y=false) (fun i=>bs.length-i) (fun i=>[(0,.slice a bs.length c0),(1,.func (.func g) #[] cap.toArray),(7,.int .i64 bs.length),(8,.int .i64 i)]) (fun _=>[A,X]++F) 0 ⟨by simp,by simp⟩ rfl bY (aq.refl _) ?_
 rintro i⟨hi,hb⟩ ih
 refine go ?_
 refine aw zr zr ?_ ?_
 ·intro cO
  refine go ?_
  have fU:i<bs.length:=by omega
  obtain⟨b,o,fQ,fA⟩:=hv.some (by rw[← List.length_pos_iff,bt];omega)
  simp only[Value.slice.injEq]at fA
  obtain⟨rfl,_,rfl⟩:=fA
  refine cK (U:=ao) i zr zr zr zr zr zr zr zr fU ?_
  have hx:bs[i]?=some bs[i]:=by simp[fU]
  refine uY (U:=ao) 0 zr zr zr (hv.cell (oP hx)) zr zr ?_
  refine ck [1] zr zr zr zr (hf bs[i] (List.getElem_mem fU)) rfl bE ?_
  rintro _ _⟨rfl,rfl⟩
  refine go ?_
  refine eO zr zr ?_ ?_
  ·intro hp
   refine go ?_
   refine ae hR Tryz.func212 rfl _ rfl ⟨by rw[mD hx hp hb];rfl,rfl⟩ (aq.fin [1,0] 0 zr zr)
  ·intro hp
   refine go ?_
   refine aO ih (i+1) rfl ⟨ai,se hb hx hp⟩ ai bY (aq.pick [1,0] rfl)
 ·intro eQ
  refine go ?_
  have:i=bs.length:=by omega
  subst this
  refine ae hR Tryz.func212 rfl _ rfl ⟨by rw[pE (fun x hx=>hb x (by simpa using hx))];rfl,rfl⟩ (aq.fin [0,1] 0 zr zr)
def SC(x:UInt8):Bool:=decide (97≤x.toNat∧x.toNat≤122∨48≤x.toNat∧x.toNat≤57∨x.toNat=45∨x.toNat=46)
theorem G8(X:HP)(x:UInt8):aD Tryz.prog 191 [u8 x] [X] (fun v H=>v = .bool (!SC x)∧H=[X]):=by
 refine aD.enter Tryz.func191 ak rfl Tryz.ntmps191 zr zr ?_
 intro G F R hR
 have hx:=UL x
 repeat'(first|(with_reducible intro nT)|refine fk ?_|refine gN zr zr zr zr ?_ ?_|fail)
 all_goals refine ae hR Tryz.func191 rfl _ rfl ⟨congrArg Value.bool (by rw[Bool.eq_iff_iff];simp[SC];omega),rfl⟩ (aq.fin [0] 0 zr zr)
theorem qM(A X:HP)(v:Value)(bs:List UInt8)(hv:Vw A v bs.length (bV bs))(hlen:bs.length≤9223372036854775807)(g:FuncId)(cap:List Value)(p:UInt8→Bool)(hf:∀x∈bs,aD Tryz.prog g (u8 x::cap) [X] (fun v H=>v = .bool (p x)∧H=[X])) :
  aD Tryz.prog 192 [v,.func (.func g) #[] cap.toArray] [A,X] (fun r H=>r = .bool (bs.any p)∧H=[A,X]):=by
 refine aD.enter Tryz.func192 ak rfl Tryz.ntmps192 zr zr ?_
 intro G F R hR
 refine go ?_
 refine ck [0,1] zr zr zr zr (uE A X v bs hv hlen g cap p hf) rfl bE ?_
 rintro _ _⟨rfl,rfl⟩
 refine go ?_
 have hb:decide (0≤jy p bs)=bs.any p:=by
  have := @mE _ p bs
  cases h:bs.any p with
  | false=>rw[h]at this;exact decide_eq_false (by have:=this.2 rfl;omega)
  | true =>
   rw[h]at this
   have h2:¬jy p bs<0:=fun h3=>by cases this.1 h3
   exact decide_eq_true ai
 refine ae hR Tryz.func192 rfl _ rfl ⟨congrArg Value.bool hb,rfl⟩ (aq.fin [0,1] 0 zr zr)
def isName(s:ByteArray):Bool:=decide (1≤s.size∧s.size≤80) && s.data.toList.all SC
theorem HH{s:ByteArray}(h1:1≤s.size)(h2:s.size≤80):isName s = !(s.data.toList.any fun x => !SC x):=by
 simp[isName,h1,h2,List.all_eq_not_any_not]
theorem zP{s:ByteArray}(h1:s.size<1):isName s=false:=by simp[isName];omega
theorem BU{s:ByteArray}(h1:80<s.size):isName s=false:=by simp[isName];omega
theorem iD(A:HP)(v:Value)(l:List ByteArray)(hv:Vw A v l.length (l.map Value.string))(hlen:l.length≤1000000) :
  aD Tryz.prog 134 [v] [A] (fun r H=>r = .bool (l.all isName)∧H=[A]):=by
 obtain⟨a,c0,rfl⟩:=hv.shape
 refine aD.enter Tryz.func134 ak rfl Tryz.ntmps134 zr zr ?_
 intro G F R hR
 refine aj (aq.oQ _) ?_
 refine go ?_
 refine bo (fun i:Nat=>i≤l.length∧∀y∈l.take i,isName y=true) (fun i=>l.length-i) (fun i=>[(3,.func (.func 191) #[] #[]),(6,.slice a l.length c0),(7,.int .i64 l.length),(8,.int .i64 i)]) (fun _=>emp::([A]++F)) 0 ⟨by simp,by simp⟩ rfl bY (aq.refl _) ?_
 rintro i⟨hi,hb⟩ ih
 refine go ?_
 refine aw zr zr ?_ ?_
 ·intro cO
  refine go ?_
  have fU:i<l.length:=by omega
  obtain⟨b,o,fQ,fA⟩:=hv.some (by rw[← List.length_pos_iff,List.length_map];omega)
  simp only[Value.slice.injEq]at fA
  obtain⟨rfl,_,rfl⟩:=fA
  refine cK (U:=ao) i zr zr zr zr zr zr zr zr fU ?_
  obtain⟨s,hs⟩:∃s,l[i]?=some s:=⟨l[i],by simp[fU]⟩
  refine uY (U:=ao) 1 zr zr zr (hv.cell (c := .string s) (by simp[hs])) zr zr ?_
  have g9:s∈l:=List.mem_of_getElem? hs
  repeat'(first|(with_reducible intro nT)|refine fk ?_|refine gN zr zr zr zr ?_ ?_|fail)
  ·have hn:l.all isName=false:=by
    rw[← Bool.not_eq_true,List.all_eq_true];intro h
    have h1:=h s g9;rw[zP ai]at h1;cases h1
   refine ae hR Tryz.func134 rfl _ rfl ⟨congrArg Value.bool hn.symm,rfl⟩ (aq.fin [1] 1 zr zr)
  ·have hn:l.all isName=false:=by
    rw[← Bool.not_eq_true,List.all_eq_true];intro h
    have h1:=h s g9;rw[BU ai]at h1;cases h1
   refine ae hR Tryz.func134 rfl _ rfl ⟨congrArg Value.bool hn.symm,rfl⟩ (aq.fin [1] 1 zr zr)
  ·have qB:=HH (s:=s) ai ai
   refine IW (U:=ao) zr zr zr zr zr zr zr zr (fun _ _ _ _=>trivial) ?_
   intro bb cc
   refine go ?_
   refine ck [0,1] zr zr zr zr (qM (aZ bb s _ cc) emp _ s.data.toList (by simpa using DQ bb s _ cc cc) (by simp;omega) _ [] _ (fun x _=>G8 emp x)) rfl bE ?_
   rintro _ _⟨rfl,rfl⟩
   refine go ?_
   refine eO zr zr ?_ ?_
   ·intro ht
    refine go ?_
    have hn:l.all isName=false:=by
     rw[← Bool.not_eq_true,List.all_eq_true];intro h
     have h1:=h s g9;rw[qB,ht]at h1;cases h1
    refine ae hR Tryz.func134 rfl _ rfl ⟨congrArg Value.bool hn.symm,rfl⟩ (aq.fin [2] 2 zr zr)
   ·intro hf
    refine go ?_
    refine aO ih (i+1) rfl ⟨ai,se hb hs (by rw[qB,hf];rfl)⟩ ai bY (aq.to [1,2] 1 zr zr zr)
 ·intro eQ
  refine go ?_
  have:i=l.length:=by omega
  subst this
  refine ae hR Tryz.func134 rfl _ rfl ⟨congrArg Value.bool (by rw[eq_comm,List.all_eq_true];intro x hx;exact hb x (by simpa using hx)),rfl⟩ (aq.fin [1] 1 rfl rfl)
theorem GH(A:HP)(v1 v2:Value)(old b:List UInt8)(at_:Nat)(h1:Vw A v1 old.length (bV old))(h2:Vw A v2 b.length (bV b))(hb:old.length+at_+b.length≤1000000000) :
  aD Tryz.prog 152 [v1,.int .i64 at_,v2] [A] (fun r H=>∃bl cap,r = .slice (some ⟨bl,0,none⟩) (dJ old at_ b).length cap∧(dJ old at_ b).length≤cap∧H=[ag bl (cl (bV (dJ old at_ b)) 5),A]):=by
 obtain⟨a1,c1,rfl⟩:=h1.shape
 obtain⟨a2,c2,rfl⟩:=h2.shape
 refine aD.enter Tryz.func152 ak rfl Tryz.ntmps152 zr zr ?_
 intro G F R hR
 refine go ?_
 have hN:(max old.length (at_+b.length):Nat)=max old.length (at_+b.length):=rfl
 generalize hM:max old.length (at_+b.length)=M at *
 refine aB 14 (.int .i64 (M:Int)) rfl (congrArg (Value.int .i64) ai) ?_
 refine lW (U:=ao) (p:=M) (q:=M) zr zr zr zr zr zr zr zr zr (Nat.le_refl _) ai (by show 1*M≤_;omega) bp ?_
 intro bl
 refine go ?_
 refine Mp (U:=ao) (src:=bV old) (mm:=old.length) (l':=bV (old++List.replicate (M-old.length) 0)) 0 1 zr zr zr zr zr zr zr zr h1 (by show _=_*1;rw[bt];omega) (cC old) (by show 0+_*1≤_;simp;omega) ?_ rfl fR ?_
 ·show bV (old++List.replicate (M-old.length) 0)=List.take 0 (List.replicate M (Value.int .u8 0))++List.take (min old.length M*1) (bV old)++List.drop (0+min old.length M*1) (List.replicate M (Value.int .u8 0))
  have e:min old.length M*1=old.length:=by omega
  rw[e,List.take_of_length_le (l:=bV old) (by rw[bt];omega)]
  simp[bV,u8]
 refine go ?_
 refine pQ (U:=ao) zr zr zr zr zr zr zr ai ai (.inl rfl) ?_
 intro o' K3 Us
 have hA:at_≠M→o'=at_:=fun h=>by have:=K3 (by simpa using h);rw[this];show 0+(at_:Int).toNat*1=at_;simp
 have hB:at_=M→o'=0:=fun h=>Us (by simpa using h)
 clear K3 Us
 have HY:(min b.length ((M:Int).toNat-(at_:Int).toNat))*1=b.length:=by simp;omega
 refine go ?_
 refine Mp (U:=ao) (src:=bV b) (mm:=b.length) (l':=bV (dJ old at_ b)) 0 1 zr zr zr zr zr zr zr zr h2 (by show _=_*1;rw[bt];omega) (cC b) ?_ ?_ rfl fR ?_
 ·show o'+(min b.length ((M:Int).toNat-(at_:Int).toNat))*1≤_
  rw[HY];simp only[bt,List.length_append,List.length_replicate]
  by_cases h:at_=M
  ·have:=hB h;omega
  ·have:=hA h;omega
 ·show bV (dJ old at_ b)=List.take o' _++List.take (min b.length ((M:Int).toNat-(at_:Int).toNat)*1) (bV b)++List.drop (o'+min b.length ((M:Int).toNat-(at_:Int).toNat)*1) _
  rw[HY,List.take_of_length_le (l:=bV b) (by rw[bt];omega)]
  have SS:at_+b.length-old.length=M-old.length:=by omega
  unfold dJ
  rw[SS]
  by_cases h:at_=M
  ·have h3:=hB h
   have h4:b=[]:=List.eq_nil_of_length_eq_zero ai
   subst h4;subst h3
   simp[bV,h]
  ·rw[hA h]
   simp[bV]
 ·have hl:(dJ old at_ b).length=M:=by unfold dJ;simp;omega
  rw[← hl]
  refine go ?_
  refine ae hR Tryz.func152 rfl _ rfl ⟨bl,_,rfl,Nat.le_refl _,rfl⟩ (aq.fin [0,1] 0 zr zr)
attribute [local irreducible] aQ aV
def fg(l:List (ByteArray × Nat)):List (ByteArray × Value):=l.map fun x=>(x.1,ptr x.2)
structure Dk where
 room:Nat
 bm:Nat
 kE:Value
 lK:Value
 oe:Value
 off:Bool
 maps:List (Nat × List (ByteArray × Value))
 fp:fH
 files:List (Nat × Value × Value)
 lB:List Nat
 wl:List (Nat × Nat × Value)
def mB(x:Nat × List (ByteArray × Value)):HP:=aL Value.string x.1 x.2
def gq(x:Nat × Value × Value):HP:=ag x.1 (cl [x.2.1,x.2.2] 183)
def eF(l:List (Nat × Nat × Value)):List Value:=l.flatMap fun x=>[ptr x.1,.int .i64 x.2.1,x.2.2]
def O'(bd:Nat)(D:Dk):List HP :=
  [ag bd (cl [.int .i64 D.room,.map (some D.bm),D.kE,D.lK,D.oe,.bool D.off] 65),aQ mB D.maps,aV 5 D.fp,aQ gq D.files,
   az 61 1 D.kE D.lB.length (D.lB.map fun b => .map (some b)),az 199 3 D.lK D.wl.length (eF D.wl)]
def gx(bd:Nat)(D:Dk):HP:=Sep (O' bd D)
theorem iz(bd room bm:Nat)(kE lK oe:Value)(off:Bool)(maps:List (Nat × List (ByteArray × Value)))(fp:fH)(files:List (Nat × Value × Value))(lB:List Nat)(wl:List (Nat × Nat × Value))(H:List HP) :
  aq (gx bd ⟨room,bm,kE,lK,oe,off,maps,fp,files,lB,wl⟩::H)
   (ag bd (cl [.int .i64 room,.map (some bm),kE,lK,oe,.bool off] 65)::aQ mB maps::aV 5 fp::aQ gq files::az 61 1 kE lB.length (lB.map fun b => .map (some b))::az 199 3 lK wl.length (eF wl)::H):=aq.cg _ _
theorem dL(bd room bm:Nat)(kE lK oe:Value)(off:Bool)(maps:List (Nat × List (ByteArray × Value)))(fp:fH)(files:List (Nat × Value × Value))(lB:List Nat)(wl:List (Nat × Nat × Value))(H:List HP) :
  aq (ag bd (cl [.int .i64 room,.map (some bm),kE,lK,oe,.bool off] 65)::aQ mB maps::aV 5 fp::aQ gq files::az 61 1 kE lB.length (lB.map fun b => .map (some b))::az 199 3 lK wl.length (eF wl)::H)
   (gx bd ⟨room,bm,kE,lK,oe,off,maps,fp,files,lB,wl⟩::H):=aq.bL (O' bd ⟨room,bm,kE,lK,oe,off,maps,fp,files,lB,wl⟩) H
structure Rel(D:Dk)(A:Ab):Prop where
 room:D.room=A.room
 off:D.off=A.off
 names:(D.bm,fg A.names)∈D.maps
 aH:fJ (fun b es=>(b,fg es)∈D.maps) D.lB A.aH
 fs:fJ (fun x y=>x.1=y.1∧lY D.fp x.2.1 y.2.1∧lY D.fp x.2.2 y.2.2) D.files A.fs
 writes:fJ (fun x y=>x.1=y.1∧x.2.1=y.2.1∧lY D.fp x.2.2 y.2.2) D.wl A.writes
 dY:lY D.fp D.oe A.dY
 ids:(A.fs.map (·.1)).Nodup
 known:∀st∈A.names::A.aH,∀x∈st,x.2∈A.fs.map (·.1)
 gZ:∀x∈A.writes,x.1∈A.fs.map (·.1)
 nodup:∀st∈A.names::A.aH,(st.map (·.1)).Nodup
 gl:∀x∈A.fs,x.2.1.length≤1048576∧x.2.2.length≤1048576
 iv:∀x∈A.writes,x.2.1+x.2.2.length≤1048576
 ff:∀st∈A.names::A.aH,st.length≤200
 gY:A.room≤1073741824
 j5:A.dY.length≤1000000000
 full:A.aH≠[]
theorem Rel.M1{D:Dk}{A:Ab}(h:Rel D A){v:Value}{p:List UInt8}(o:Bool)(hp:lY D.fp v p)(hl:p.length≤1000000000):Rel { D with oe:=v,off:=o } { A with dY:=p,off:=o } :=
 ⟨h.room,rfl,h.names,h.aH,h.fs,h.writes,hp,h.ids,h.known,h.gZ,h.nodup,h.gl,h.iv,h.ff,h.gY,hl,h.full⟩
theorem Rel.JR{D:Dk}{A:Ab}(h:Rel D A){v:Value}{p:List UInt8}(hp:lY D.fp v p)(hl:p.length≤1000000000):Rel { D with oe:=v } { A with dY:=p } :=
 ⟨h.room,h.off,h.names,h.aH,h.fs,h.writes,hp,h.ids,h.known,h.gZ,h.nodup,h.gl,h.iv,h.ff,h.gY,hl,h.full⟩
theorem vG(bd:Nat)(D:Dk)(A:Ab)(hR:Rel D A)(may:Bool) :
  aD Tryz.prog 117 [ptr bd,.bool may] [gx bd D] (fun v H=>∃D',Rel D' (A.meet may).2∧H=[gx bd D']∧v = .int .i64 (A.meet may).1):=by
 obtain⟨room,bm,kE,lK,oe,off,maps,fp,files,lB,wl⟩:=D
 obtain⟨a,cap,sI,iy⟩:=hR.dY.shape
 simp only at sI
 subst sI
 have ie:=hR.off
 simp only at ie
 refine aD.enter Tryz.func117 ak rfl Tryz.ntmps117 zr zr ?_
 intro G F R hE
 refine aj (iz _ _ _ _ _ _ _ _ _ _ _ _ _) ?_
 cases may with
 | false =>
  refine go ?_
  refine ae hE Tryz.func117 rfl _ rfl ⟨_,hR,rfl,rfl⟩ ((aq.pick [0,1,2,3,4,5] rfl).trans (dL _ _ _ _ _ _ _ _ _ _ _ _ _))
 | true =>
  cases off with
  | true =>
   have hm:A.meet true=(7,A):=by simp[Ab.meet,← ie]
   rw[hm]at hE
   refine go ?_
   refine ae hE Tryz.func117 rfl _ rfl ⟨_,hR,rfl,rfl⟩ ((aq.pick [0,1,2,3,4,5] rfl).trans (dL _ _ _ _ _ _ _ _ _ _ _ _ _))
  | false =>
   refine go ?_
   refine eO zr zr ?_ ?_
   ·intro h0
    have mI:A.dY=[]:=List.eq_nil_of_length_eq_zero (by have:=of_decide_eq_true h0;omega)
    have hm:A.meet true=(0,A):=by simp[Ab.meet,← ie,mI]
    rw[hm]at hE
    refine go ?_
    refine ae hE Tryz.func117 rfl _ rfl ⟨_,hR,rfl,rfl⟩ ((aq.pick [0,1,2,3,4,5] rfl).trans (dL _ _ _ _ _ _ _ _ _ _ _ _ _))
   ·intro h0
    obtain⟨x,p,ME⟩:∃x p,A.dY=x::p:=by
     cases h:A.dY with
     | nil=>rw[h]at h0;simp at h0
     | cons x p=>exact⟨x,p,rfl⟩
    have hm:A.meet true=if x=1 then(6,{ A with dY:=p })else if x=2 then(7,{ A with dY:=p,off:=true })else(0,{ A with dY:=p }):=by simp[Ab.meet,← ie,ME]
    have Tv:lY fp (.slice a A.dY.length cap) (x::p):=by have:=hR.dY;rw[ME]at this;rw[ME];exact this
    have hlen:A.dY.length=p.length+1:=by rw[ME];rfl
    have rF:=hR.j5
    obtain⟨b,o,fQ,fA⟩:=(Tv.view 5).some (by simp[bV])
    simp only[Value.slice.injEq]at fA
    obtain⟨rfl,_,rfl⟩:=fA
    refine go ?_
    refine cK (U:=ao) 0 zr zr zr zr zr zr zr zr ai ?_
    refine uY (U:=ao) 2 zr zr zr (Vw.cell (cap:=cap) (n:=(x::p).length) (cs:=bV (x::p)) (by rw[← ME];exact hR.dY.view _) (c:=u8 x) (by simp[bV])) zr zr ?_
    refine go ?_
    refine pQ (U:=ao) zr zr zr zr zr zr zr ai ai (.inl rfl) ?_
    intro o' K3 _
    have hn:(A.dY.length:Int).toNat-(1:Int).toNat=p.length:=by omega
    rw[hn]
    have hp:lY fp (.slice (some ⟨b,o',none⟩) p.length (cap-(1:Int).toNat)) p:=Tv.tail o' _ (fun ct=>K3 (by
     have:0<p.length:=List.length_pos_iff.2 ct
     omega)) ai
    have hoA:A.off=false:=ie.symm
    have hR1:=hR.JR hp ai
    have NR:=hR.M1 true hp ai
    clear Tv hp K3
    refine go ?_
    refine aw zr zr ?_ ?_
    ·intro hx
     have Jg:x=1:=JD hx
     rw[hm,if_pos Jg]at hE
     refine go ?_
     refine ae hE Tryz.func117 rfl _ rfl ⟨_,hR1,rfl,rfl⟩ ((aq.pick [0,1,2,3,4,5] rfl).trans (dL _ _ _ _ _ _ _ _ _ _ _ _ _))
    ·intro hx
     have Jg:x≠1:=fun h=>hx (by rw[h];rfl)
     refine go ?_
     refine aw zr zr ?_ ?_
     ·intro hy
      have pT:x=2:=JD hy
      rw[hm,if_neg Jg,if_pos pT]at hE
      refine go ?_
      refine ae hE Tryz.func117 rfl _ rfl ⟨_,NR,rfl,rfl⟩ ((aq.pick [0,1,2,3,4,5] rfl).trans (dL _ _ _ _ _ _ _ _ _ _ _ _ _))
     ·intro hy
      have pT:x≠2:=fun h=>hy (by rw[h];rfl)
      rw[hm,if_neg Jg,if_neg pT]at hE
      refine go ?_
      refine ae hE Tryz.func117 rfl _ rfl ⟨_,hR1,rfl,rfl⟩ ((aq.pick [0,1,2,3,4,5] rfl).trans (dL _ _ _ _ _ _ _ _ _ _ _ _ _))
theorem nA(l:List (ByteArray × Nat))(name:ByteArray):dI (fg l) name=(Ab.du l name).map ptr:=by
 unfold dI Ab.du fg
 induction l with
 | nil=>rfl
 | cons x l ih =>
  simp only[List.map_cons,List.find?_cons]
  by_cases h:x.1=name
  ·simp[h]
  ·simp only[h,decide_false];exact ih
theorem iQ{G:cm}{w:World}{H:List HP}{maps:List (Nat × List (ByteArray × Value))}{b:Nat}{es:List (ByteArray × Value)}{i:Nat}(hs:Sat G w H)(hi:cf H i=some (aQ mB maps))(hm:(b,es)∈maps) :
  ∃o,oq Value.string o es∧w.heap[b]?=some o:=by
 obtain⟨h,hh,hA⟩:=hs.j7 hi
 obtain⟨h',s,hb⟩:=yj hm hA
 unfold mB aL at hb
 obtain⟨o,ho,hp⟩:=hb
 unfold ag at hp
 exact⟨o,ho,hh b o (s b o (by rw[hp b];simp))⟩
theorem xE:lq Tryz.prog 9 Value.string:=KI Tryz.underlying9
def SB:Option Nat→Value
 | none => .pointer none
 | some f=>ptr f
theorem iT(bd:Nat)(D:Dk)(A:Ab)(hR:Rel D A)(name:ByteArray)(may:Bool) :
  aD Tryz.prog 150 [ptr bd,.string name,.bool may] [gx bd D] (fun v H=>∃D',Rel D' (A.find name may).2.2∧H=[gx bd D']∧v = .tuple #[SB (A.find name may).2.1,.int .i64 (A.find name may).1]):=by
 refine aD.enter Tryz.func150 ak rfl Tryz.ntmps150 zr zr ?_
 intro G F R hE
 refine go ?_
 refine ck [0] zr zr zr zr (vG bd D A hR may) rfl bE ?_
 rintro _ _⟨D',fh,rfl,rfl⟩
 refine go ?_
 refine eO zr zr ?_ ?_
 ·intro h0
  have mI:¬(A.meet may).1=0:=by have:=of_decide_eq_true h0;omega
  have hf:A.find name may=((A.meet may).1,none,(A.meet may).2):=by simp[Ab.find,mI]
  rw[hf]at hE
  refine go ?_
  refine ae hE Tryz.func150 rfl _ rfl ⟨D',fh,rfl,rfl⟩ (aq.pick [0] rfl)
 ·intro h0
  have mI:(A.meet may).1=0:=by have:=of_decide_eq_false h0;omega
  obtain⟨room,bm,kE,lK,oe,off,maps,fp,files,lB,wl⟩:=D'
  refine aj (iz _ _ _ _ _ _ _ _ _ _ _ _ _) ?_
  refine go ?_
  refine o4 (U:=ao) rfl xE zr zr zr zr zr zr zr (fun w hw=>iQ (i:=1) hw rfl fh.names) ?_
  rw[nA]
  cases hl:Ab.du (A.meet may).2.names name with
  | none =>
   have hf:A.find name may=(4,none,(A.meet may).2):=by simp[Ab.find,mI,Ab.look,hl]
   rw[hf]at hE
   refine go ?_
   refine ae hE Tryz.func150 rfl _ rfl ⟨_,fh,rfl,rfl⟩ ((aq.pick [0,1,2,3,4,5] rfl).trans (dL _ _ _ _ _ _ _ _ _ _ _ _ _))
  | some fl =>
   have hf:A.find name may=(0,some fl,(A.meet may).2):=by simp[Ab.find,mI,Ab.look,hl]
   rw[hf]at hE
   refine go ?_
   refine ae hE Tryz.func150 rfl _ rfl ⟨_,fh,rfl,rfl⟩ ((aq.pick [0,1,2,3,4,5] rfl).trans (dL _ _ _ _ _ _ _ _ _ _ _ _ _))
theorem ED{α:Type}{l:List (Nat × α)}(hn:(l.map (·.1)).Nodup){i f:Nat}{x:α}(hi:l[i]?=some (f,x)):(l.find? fun x=>decide (x.1=f))=some (f,x):=by
 induction l generalizing i with
 | nil=>simp at hi
 | cons y l ih =>
  simp only[List.map_cons,List.nodup_cons]at hn
  cases i with
  | zero=>simp at hi;subst hi;simp
  | succ i =>
   simp at hi
   have ct:y.1≠f:=fun e=>hn.1 (List.mem_map.2 ⟨_,List.mem_of_getElem? hi,e.symm⟩)
   simp only[List.find?_cons,ct,decide_false]
   exact ih hn.2 hi
theorem Rel.file{D:Dk}{A:Ab}(h:Rel D A){f:Nat}(hf:f∈A.fs.map (·.1)):∃(i:Nat) (v1 v2:Value),D.files[i]?=some (f,v1,v2)∧A.fs[i]?=some (f,A.now f,A.sure f)∧lY D.fp v1 (A.now f)∧lY D.fp v2 (A.sure f):=by
 obtain⟨⟨f',n,s⟩,hm,rfl⟩:=List.mem_map.1 hf
 obtain⟨i,hi⟩:=List.getElem?_of_mem hm
 obtain⟨⟨f2,v1,v2⟩,hx,h1,h2,h3⟩:=h.fs.right hi
 simp only at h1 h2 h3
 subst h1
 have yM:A.file f2=(n,s):=by unfold Ab.file;rw[ED h.ids hi];rfl
 refine⟨i,v1,v2,hx,?_,?_,?_⟩
 ·rw[hi];simp[Ab.now,Ab.sure,yM]
 ·simpa[Ab.now,yM]using h2
 ·simpa[Ab.sure,yM]using h3
theorem Rel.small{D:Dk}{A:Ab}(h:Rel D A)(f:Nat):(A.now f).length≤1048576∧(A.sure f).length≤1048576:=by
 unfold Ab.now Ab.sure Ab.file
 cases hf:A.fs.find? fun x=>decide (x.1=f)with
 | none=>simp
 | some x=>simpa using h.gl x (List.mem_of_find?_eq_some hf)
theorem wh{G:cm}{w:World}{H:List HP}{files:List (Nat × Value × Value)}{f:Nat}{v1 v2:Value}{i j:Nat}(hs:Sat G w H)(hi:cf H i=some (aQ gq files))(hm:files[j]?=some (f,v1,v2)) :
  w.heap[f]?=some (cl [v1,v2] 183):=by
 obtain⟨h,hh,hA⟩:=hs.j7 hi
 obtain⟨h',s,hb⟩:=yj (List.mem_of_getElem? hm) hA
 unfold gq ag at hb
 exact hh f _ (s f _ (by rw[hb f];simp))
theorem rS{G:cm}{w:World}{H:List HP}{files:List (Nat × Value × Value)}{f:Nat}{v1 v2:Value}{i j:Nat}(hs:Sat G w H)(hi:cf H i=some (aQ gq files))(hm:files[j]?=some (f,v1,v2)) :
  w.cell? ⟨f,0,none⟩=some v1:=by rw[de (wh hs hi hm)];rfl
theorem vI{l:List (ByteArray × Nat)}{k:ByteArray}{f:Nat}(hn:(l.map (·.1)).Nodup)(h:(k,f)∈l):Ab.du l k=some f:=by
  obtain⟨i,hi⟩:=List.getElem?_of_mem h
  have:dI (l.map fun x=>(x.1,Value.int .i64 x.2)) k=some (.int .i64 f):=y3 (i:=i) (by simp[hi]) (fun j hj he=>by
    rw[List.map_map]at he
    have h1:(l.map (·.1))[j]?=(l.map (·.1))[i]? := by
      have e:(List.map ((fun x=>x.1) ∘ fun x=>(x.1,Value.int IntKind.i64 (x.2:Nat))) l)=l.map (·.1):=rfl
      rw[e]at he
      rw[he];simp[hi]
    have:=(List.getElem?_inj (by
      rcases Nat.lt_or_ge j (l.map (·.1)).length with h|h
      · exact h
      · rw[List.getElem?_eq_none h]at h1;simp[hi]at h1) hn).1 h1
    omega)
  unfold dI at this
  unfold Ab.du
  rw[List.find?_map]at this
  simp only[Option.map_map]at this
  cases hx:l.find? fun x=>decide (x.1=k)with
  | none => have e : (l.find? ((fun x => decide (x.1 = k)) ∘ fun x => (x.1, Value.int IntKind.i64 (x.2 : Nat)))) = none := hx
            rw[e]at this;cases this
  | some y => 
    have e:(l.find? ((fun x=>decide (x.1=k)) ∘ fun x=>(x.1,Value.int IntKind.i64 (x.2:Nat))))=some y:=hx
    rw[e]at this
    have h2:((y.2:Nat):Int)=f:=by simpa using this
    rw[Option.map_some,show y.2=f by omega]
theorem ow{l:List (ByteArray × Nat)}{k:ByteArray}{f:Nat}(h:Ab.du l k=some f):(k,f)∈l:=by
 unfold Ab.du at h
 cases hx:l.find? fun x=>decide (x.1=k)with
 | none=>rw[hx]at h;cases h
 | some y =>
  rw[hx]at h
  have h1:=List.find?_some hx
  simp only[decide_eq_true_eq]at h1
  simp only[Option.map_some,Option.some.injEq]at h
  have:=List.mem_of_find?_eq_some hx
  rwa[← h1,← h]
def lenOf(A:Ab)(k:ByteArray):Nat:=(A.look k).elim 0 fun f=>(A.now f).length
def sumOf(A:Ab)(l:List ByteArray):Nat:=(l.map (lenOf A)).sum
theorem AY{A:Ab}(h:∀f,(A.now f).length≤1048576)(l:List ByteArray):sumOf A l≤l.length*1048576:=by
 induction l with
 | nil=>simp[sumOf]
 | cons k l ih =>
  have h1:lenOf A k≤1048576:=by unfold lenOf;cases A.look k with|none=>simp|some f=>exact h f
  simp only[sumOf,List.map_cons,List.sum_cons,List.length_cons]at ih ⊢
  omega
theorem Ec{α:Type}[DecidableEq α]{l r:List α}(h1:l.Nodup)(h2:r.Nodup)(h:∀x,x∈l↔x∈r):l.Perm r:=(List.perm_ext_iff_of_nodup h1 h2).2 h
theorem yA{α:Type}[DecidableEq α]{l r:List α}(h1:l.Nodup)(h:∀x∈l,x∈r):l.length≤r.length:=by
 induction l generalizing r with
 | nil=>simp
 | cons x l ih =>
  simp only[List.nodup_cons]at h1
  have:=ih (r:=r.erase x) h1.2 (fun y hy=>(List.mem_erase_of_ne (by rintro rfl;exact h1.1 hy)).2 (h y (by simp[hy])))
  rw[List.length_erase_of_mem (h x (by simp))]at this
  have h3:0<r.length:=List.length_pos_of_mem (h x (by simp))
  simp only[List.length_cons]
  omega
theorem vf{A:Ab}(hn:(A.names.map (·.1)).Nodup):sumOf A (A.names.map (·.1))=A.used:=by
 unfold sumOf Ab.used
 rw[List.map_map]
 congr 1
 apply List.map_congr_left
 rintro⟨k,f⟩ hx
 have:A.look k=some f:=vI hn hx
 simp[lenOf,this]
theorem L1(bd:Nat)(D:Dk)(A:Ab)(hR:Rel D A) :
  aD Tryz.prog 151 [ptr bd] [gx bd D] (fun v H=>H=[gx bd D]∧v = .int .i64 A.used):=by
 obtain⟨room,bm,kE,lK,oe,off,maps,fp,files,lB,wl⟩:=D
 refine aD.enter Tryz.func151 ak rfl Tryz.ntmps151 zr zr ?_
 intro G F R hE
 refine aj (iz _ _ _ _ _ _ _ _ _ _ _ _ _) ?_
 refine go ?_
 obtain⟨j,hj⟩:=List.getElem?_of_mem hR.names
 simp only at hj
 refine aG (aq.pick [1] rfl) ?_
 refine aG (kF mB hj _) ?_
 refine Az (kv:=Value.string) (es:=fg A.names) (U:=ao) 0 zr zr zr zr zr (fun _=>rfl) bp ?_
 intro it
 refine go ?_
 have kf:=hR.nodup _ (List.mem_cons_self ..)
 have B7:(fg A.names).map (·.1)=A.names.map (·.1):=by simp[fg,Function.comp_def]
 refine bo (fun dn:List ByteArray=>dn.Nodup∧∀x∈dn,x∈A.names.map (·.1)) (fun dn=>A.names.length-dn.length)
  (fun dn=>[(3,.int .i64 (sumOf A dn)),(10,.pointer (some ⟨it,0,none⟩))])
  (fun dn=>bK Value.string bm it (fg A.names) dn::aQ mB (maps.eraseIdx j)::ag bd (cl [.int .i64 room,.map (some bm),kE,lK,oe,.bool off] 65)::aV 5 fp::aQ gq files::az 61 1 kE lB.length (lB.map fun b => .map (some b))::az 199 3 lK wl.length (eF wl)::F)
  [] ⟨List.nodup_nil,by simp⟩ rfl bY (aq.refl _) ?_
 rintro dn⟨yN,dH⟩ ih
 have hlen:=yA yN dH
 have hb:=AY (fun f=>(hR.small f).1) dn
 have hN:=hR.ff _ (List.mem_cons_self ..)
 rw[List.length_map]at hlen
 refine go ?_
 refine Fb (kv:=Value.string) (es:=fg A.names) 0 rfl xE.inj zr zr (fun _=>rfl) fR bp ?_ ?_
 ·intro fO
  refine go ?_
  have hp:sumOf A dn=A.used:=by
   rw[← vf kf]
   refine List.Perm.sum_nat ((Ec yN kf fun x=>⟨dH x,fun hx=>?_⟩).map _)
   rw[← B7]at hx
   obtain⟨y,hy,rfl⟩:=List.mem_map.1 hx
   exact fO y hy
  refine aj ((aq.head (B:=[mB (bm,fg A.names)]) (fun h hs=>by obtain⟨h',s,hm⟩:=sZ h hs;exact⟨h',s,fE hm⟩)).trans (q7 mB hj _)) ?_
  rw[hp]
  refine ae hE Tryz.func151 rfl _ rfl ⟨rfl,rfl⟩ ((aq.pick [1,0] rfl).trans ((aq.pick [0,1,2,3,4,5] rfl).trans (dL _ _ _ _ _ _ _ _ _ _ _ _ _)))
 ·intro key v g9 xH
  obtain⟨⟨k',f⟩,hx,OF⟩:=List.mem_map.1 g9
  simp only[Prod.mk.injEq]at OF
  obtain⟨rfl,rfl⟩:=OF
  refine go ?_
  refine AD (kv:=Value.string) (es:=fg A.names) 0 rfl xE.inj zr zr g9 ?_
  refine go ?_
  obtain⟨i,v1,v2,hi,yL,lC,tm⟩:=hR.file (hR.known _ (List.mem_cons_self ..) _ hx)
  obtain⟨a,cap,rfl,iy⟩:=lC.shape
  refine uZ (U:=ao) zr zr (fun w hw=>rS (i:=4) hw rfl hi) zr zr ?_
  have yI:A.look k'=some f:=vI kf hx
  have hl:lenOf A k'=(A.now f).length:=by simp[lenOf,yI]
  have rF:=(hR.small f).1
  have S7:k'∈A.names.map (·.1):=List.mem_map.2 ⟨_,hx,rfl⟩
  have O4:(k'::dn).Nodup:=List.nodup_cons.2 ⟨xH,yN⟩
  have uu:∀x∈k'::dn,x∈A.names.map (·.1):=fun x hx=>by
   rcases List.mem_cons.1 hx with rfl|h
   ·exact S7
   ·exact dH x h
  have B6:=yA O4 uu
  rw[List.length_map,List.length_cons]at B6
  refine go ?_
  refine bj 3 (.int .i64 (sumOf A (k'::dn))) rfl (congrArg (Value.int .i64) (by simp only[sumOf,List.map_cons,List.sum_cons,hl];omega)) ?_
  refine aO ih (k'::dn) rfl ⟨O4,uu⟩ (by show _-(_+1)<_;omega) bY (aq.refl _)
theorem xB(b:Nat)(es:List (ByteArray × Value)) :
  aD Tryz.prog 193 [.map (some b)] [aL Value.string b es] (fun v H=>∃b',v = .map (some b')∧H=[aL Value.string b' es,aL Value.string b es]):=by
 refine aD.enter Tryz.func193 ak rfl Tryz.ntmps193 zr zr ?_
 intro G F R hR
 refine go ?_
 refine IZ (U:=ao) zr zr zr zr ?_
 refine CX (kv:=Value.string) (es:=es) 0 rfl Tryz.func213 ak ak ak ak zr zr bp ?_
 intro b'
 refine Mq (U:=ao) zr zr zr zr ?_
 refine go ?_
 refine ae hR Tryz.func193 rfl _ rfl ⟨b',rfl,rfl⟩ (aq.fin [0,1] 0 zr zr)
theorem lh{α:Type}(bd:Nat)(D:Dk)(nm:List (ByteArray × Nat))(hm:(D.bm,fg nm)∈D.maps)(g:FuncId)(cap:Array Value)(E:HP)(Zm:α→List (ByteArray × Nat))(E':α→HP)(q:α→Prop)(hc:∀b',aD Tryz.prog g (.map (some b')::cap.toList) [aL Value.string b' (fg nm),E] (fun _ H=>∃x,q x∧H=[aL Value.string b' (fg (Zm x)),E' x]))(hlen:D.lB.length≤1000000000) :
  aD Tryz.prog 135 [ptr bd,.func (.func g) #[] cap] [gx bd D,E]
   (fun _ H=>∃x b' v,q x∧H=[gx bd { D with bm:=b',maps:=(b',fg (Zm x))::D.maps,kE:=v,lB:=D.lB++[b'] },E' x]):=by
 obtain⟨room,bm,kE,lK,oe,off,maps,fp,files,lB,wl⟩:=D
 simp only at hm hlen ⊢
 refine aD.enter Tryz.func135 ak rfl Tryz.ntmps135 zr zr ?_
 intro G F R hE
 refine aj (iz _ _ _ _ _ _ _ _ _ _ _ _ _) ?_
 refine go ?_
 obtain⟨j,hj⟩:=List.getElem?_of_mem hm
 refine aG (aq.pick [1] rfl) ?_
 refine aG (kF mB hj _) ?_
 refine ck [0] zr zr zr zr (xB bm (fg nm)) rfl bE ?_
 rintro _ _⟨b',rfl,rfl⟩
 refine aG (aq.pick [1,2] rfl) ?_
 refine aG (q7 mB hj _) ?_
 refine go ?_
 refine ck [1,7] zr zr zr zr (hc b') rfl bE ?_
 rintro _ _⟨x,hq,rfl⟩
 refine aG (aq.pick [0,2] rfl) ?_
 refine aG (pj mB (b',fg (Zm x)) maps _) ?_
 refine go ?_
 refine aF (fun w=>Sat G w ([ag bd (cl [.int .i64 room,.map (some b'),kE,lK,oe,.bool off] 65)])) (.st 0 (.st 1 (.st 2 (.st 3 (.st 4 (.st 5 (.st 6 (.st 7 (.st 8 (.act 9 (.act 10 (.st 11 (.st 12 (.act 13 .nil)))))))))))))) rfl ak ak ak (fun w hw=>hw.aX (aq.bF ([2]) rfl)) ?_
 refine go ?_
 refine au (U:=ao) zr zr zr zr zr zr zr zr zr (fun _ w hw=>hw.aX (aq.bF ([3]) rfl)) ?_
 intro b0
 refine bh (U:=ao) (mm:=1) (news:=[.map (some b')]) 6 0 zr zr zr zr zr zr zr zr zr zr zr zr (Vw.ag rfl) rfl (by simp[Value.oneCell']) ai (by show _*8≤_;omega) (fun _=>rfl) (fun _ w hw=>hw.aX (aq.bF ([3]) rfl)) ?_
 intro v'
 have e1:(lB.map fun b=>Value.map (some b))++[.map (some b')]=(lB++[b']).map fun b=>Value.map (some b):=by simp
 have e2:lB.length+1=(lB++[b']).length:=by simp
 rw[e1,e2]
 refine aM 6 rfl ?_
 rintro av cv rfl
 refine go ?_
 refine aj (aq.pick [3,1,4,5,6,7,2] rfl) ?_
 refine aj (dL bd room b' _ lK oe off _ fp files (lB++[b']) wl _) ?_
 refine bO hE Tryz.func135 rfl _ rfl ⟨x,b',_,hq,rfl⟩ (aq.fin [0,1] 1 zr zr)
theorem Rel.new(room bm N':Nat)(v:Value)(h:room≤1073741824):Rel ⟨room,bm,v,.slice none 0 0,.slice none 0 0,false,[(N',[]),(bm,[])],[],[],[N'],[]⟩ (Ab.new room) where
 room:=rfl
 off:=rfl
 names:=by simp[Ab.new,fg]
 aH:=fJ.one (by simp[fg])
 fs:=fJ.nil
 writes:=fJ.nil
 dY:=lY.nil _ _ _
 ids:=by simp[Ab.new]
 known:=by simp[Ab.new]
 gZ:=by simp[Ab.new]
 nodup:=by simp[Ab.new]
 gl:=by simp[Ab.new]
 iv:=by simp[Ab.new]
 ff:=by simp[Ab.new]
 gY:=h
 j5:=by simp[Ab.new]
 full:=by simp[Ab.new]
theorem Mf(room:Nat)(h1:1≤room)(h2:room≤1073741824) :
  aD Tryz.prog 6 [.int .i64 room] [] (fun v H=>∃bd D,Rel D (Ab.new room)∧v = .tuple #[ptr bd,.int .i64 0]∧H=[gx bd D]):=by
 refine aD.enter Tryz.func6 ak rfl Tryz.ntmps6 zr zr ?_
 intro G F R hE
 repeat'(first|(with_reducible intro nT)|refine fk ?_|refine gN zr zr zr zr ?_ ?_|refine aw zr zr ?_ ?_)
 ·omega
 ·omega
 refine mS rfl bp ?_
 intro bm
 refine aG (aq.head (B:=[mB (bm,[])]) (fun h hs=>⟨h,sub.refl h,fE (ot _ _ h hs)⟩)) ?_
 refine mS rfl bp ?_
 intro N'
 refine aG (aq.head (B:=[mB (N',[])]) (fun h hs=>⟨h,sub.refl h,fE (ot _ _ h hs)⟩)) ?_
 refine au (U:=ao) zr zr zr zr zr zr zr zr zr bp ?_
 intro b0
 refine go ?_
 refine bq zr zr bp ?_
 intro bd
 refine go ?_
 refine aj (yi mB _) ?_
 refine aj (aq.pick [4,0] rfl) ?_
 refine aj (pj mB (bm,[]) [] _) ?_
 refine aj (aq.pick [3,0] rfl) ?_
 refine aj (pj mB (N',[]) [(bm,[])] _) ?_
 refine aj (aq.pick [2] rfl) ?_
 refine aj (dZ 61 1 b0 1 1 [.map (some N')] [] _ rfl (Nat.le_refl _) (by simp)) ?_
 refine aj (bw 199 3 none _) ?_
 refine aj (wK 5 _) ?_
 refine aj (yi gq _) ?_
 refine aj (aq.pick [5,4,1,0,3,2] rfl) ?_
 refine aj (dL bd room bm (.slice (some ⟨b0,0,none⟩) 1 1) (.slice none 0 0) (.slice none 0 0) false [(N',[]),(bm,[])] [] [] [N'] [] _) ?_
 refine ae hE Tryz.func6 rfl _ rfl ⟨bd,_,Rel.new room bm N' _ h2,rfl,rfl⟩ (aq.fin [0] 0 zr zr)
theorem nj{l:List (ByteArray × Nat)}{k:ByteArray}:(Ab.du l k).isSome=true↔k∈l.map (·.1):=by
 unfold Ab.du
 rw[Option.isSome_map,List.find?_isSome]
 simp only[decide_eq_true_eq,List.mem_map]
theorem y4(l:List (ByteArray × Nat))(k:ByteArray):pY (fg l) k=fg (Ab.dD l k):=by
 unfold pY fg Ab.dD
 rw[List.filter_map]
 rfl
theorem yZ(l:List (ByteArray × Nat))(k:ByteArray)(f:Nat):mh (fg l) k (ptr f)=fg (Ab.jt l k f):=by
 have hk:(fg l).map (·.1)=l.map (·.1):=by simp[fg,Function.comp_def]
 unfold mh Ab.jt
 rw[hk]
 by_cases h:(Ab.du l k).isSome=true
 ·rw[if_pos (nj.1 h),if_pos h]
  simp only[fg,List.map_map]
  apply List.map_congr_left
  intro x _
  simp only[Function.comp]
  split <;> rfl
 ·rw[if_neg (fun h'=>h (nj.2 h')),if_neg h]
  simp[fg]
theorem CN(b box:Nat)(l:List (ByteArray × Nat))(k:ByteArray) :
  aD Tryz.prog 162 [.map (some b),ptr box] [aL Value.string b (fg l),ag box (cl [.string k] 9)] (fun _ H=>H=[aL Value.string b (fg (Ab.dD l k)),ag box (cl [.string k] 9)]):=by
 refine aD.enter Tryz.func162 ak rfl Tryz.ntmps162 zr zr ?_
 intro G F R hE
 refine go ?_
 refine o6 (U:=ao) 0 xE fR zr zr zr zr zr zr zr ?_
 rw[y4]
 refine go ?_
 refine bO hE Tryz.func162 rfl _ zr zr (aq.fin [0,1] 0 zr zr)
theorem oR(b wI wH XX f:Nat)(l:List (ByteArray × Nat))(k k2:ByteArray) :
  aD Tryz.prog 200 [.map (some b),ptr wI,ptr wH,ptr XX] [aL Value.string b (fg l),Sep [ag wI (cl [.string k] 9),ag wH (cl [ptr f] 151),ag XX (cl [.string k2] 9)]]
   (fun _ H=>H=[aL Value.string b (fg (Ab.jt (Ab.dD l k) k2 f)),emp]):=by
 refine aD.enter Tryz.func200 ak rfl Tryz.ntmps200 zr zr ?_
 intro G F R hE
 refine aj (aq.pick [1] rfl) ?_
 refine aj (aq.cg _ _) ?_
 refine go ?_
 refine o6 (U:=ao) 3 xE fR zr zr zr zr zr zr zr ?_
 rw[y4]
 refine go ?_
 refine jX (U:=ao) 3 xE fR zr zr zr zr zr zr zr zr ?_
 rw[yZ]
 refine go ?_
 refine aj (aq.oQ _) ?_
 refine bO hE Tryz.func200 rfl _ zr zr (aq.fin [4,0] 3 zr zr)
theorem C6(b box:Nat)(l:List (ByteArray × Nat))(k:ByteArray) :
  aD Tryz.prog 136 [.map (some b),ptr box] [aL Value.string b (fg l),ag box (cl [.string k] 9)]
   (fun _ H=>∃f,True∧H=[aL Value.string b (fg (Ab.jt l k f)),gq (f,.slice none 0 0,.slice none 0 0)]):=by
 refine aD.enter Tryz.func136 ak rfl Tryz.ntmps136 zr zr ?_
 intro G F R hE
 refine go ?_
 refine bq zr zr bp ?_
 intro f
 refine go ?_
 refine jX (U:=ao) (v:=ptr f) 1 xE fR zr zr zr zr zr zr zr zr ?_
 rw[yZ]
 refine go ?_
 refine bO hE Tryz.func136 rfl _ rfl ⟨f,trivial,rfl⟩ (aq.fin [1,0] 1 zr zr)
theorem fresh(l:List Nat):∃n,n ∉ l:=by
  suffices h:∃n,∀x∈l,x<n from let ⟨n,hn⟩:=h;⟨n,fun hx=>Nat.lt_irrefl _ (hn n hx)⟩
  induction l with
  | nil=>exact⟨0,by simp⟩
  | cons a l ih =>
    obtain⟨n,hn⟩:=ih
    exact⟨max n (a+1),fun x hx=>by
      rcases List.mem_cons.1 hx with rfl|h
      · omega
      · have:=hn x h;omega⟩
theorem EG{G:cm}{w:World}{H:List HP}{files:List (Nat × Value × Value)}{x:Nat × Value × Value}(hs:Sat G w (gq x::aQ gq files::H)):x.1 ∉ files.map (·.1):=by
 intro hx
 obtain⟨y,hy,he⟩:=List.mem_map.1 hx
 obtain⟨i,hi⟩:=List.getElem?_of_mem hy
 have h1:=hs.aX ((aq.perm (List.Perm.swap _ _ _)).trans ((kF gq hi _).trans (aq.pick [2,0] rfl)))
 unfold gq at h1
 exact h1.ne he.symm
theorem FP(A:Ab)(may:Bool):(A.meet may).2.fs=A.fs∧(A.meet may).2.names=A.names∧(A.meet may).2.aH=A.aH∧(A.meet may).2.writes=A.writes∧(A.meet may).2.room=A.room:=by
 unfold Ab.meet
 split
 ·simp
 split
 ·simp
 split
 ·simp
 split
 ·simp
 split <;> simp
theorem Rel.nH{D:Dk}{A:Ab}(h:Rel D A){b':Nat}{v:Value}{nm:List (ByteArray × Nat)}(hk:∀x∈nm,x.2∈A.fs.map (·.1))(hn:(nm.map (·.1)).Nodup)(hl:nm.length≤200) :
  Rel { D with bm:=b',maps:=(b',fg nm)::D.maps,kE:=v,lB:=D.lB++[b'] } (A.nH nm) where
 room:=h.room
 off:=h.off
 names:=by simp[Ab.nH]
 aH:=fJ.snoc (h.aH.mono fun b es hb=>List.mem_cons_of_mem _ hb) (by simp)
 fs:=h.fs
 writes:=h.writes
 dY:=h.dY
 ids:=h.ids
 known:=by
  intro st cE
  simp only[Ab.nH,List.mem_cons,List.mem_append,List.not_mem_nil,or_false]at cE
  rcases cE with rfl|cE|rfl
  ·exact hk
  ·exact h.known _ (List.mem_cons_of_mem _ cE)
  ·exact hk
 gZ:=h.gZ
 nodup:=by
  intro st cE
  simp only[Ab.nH,List.mem_cons,List.mem_append,List.not_mem_nil,or_false]at cE
  rcases cE with rfl|cE|rfl
  ·exact hn
  ·exact h.nodup _ (List.mem_cons_of_mem _ cE)
  ·exact hn
 gl:=h.gl
 iv:=h.iv
 ff:=by
  intro st cE
  simp only[Ab.nH,List.mem_cons,List.mem_append,List.not_mem_nil,or_false]at cE
  rcases cE with rfl|cE|rfl
  ·exact hl
  ·exact h.ff _ (List.mem_cons_of_mem _ cE)
  ·exact hl
 gY:=h.gY
 j5:=h.j5
 full:=by simp[Ab.nH]
theorem Rel.Oe{D:Dk}{A:Ab}(h:Rel D A){f:Nat}(hf:f ∉ A.fs.map (·.1)):Rel { D with files:=(f,.slice none 0 0,.slice none 0 0)::D.files } { A with fs:=(f,[],[])::A.fs } where
 room:=h.room
 off:=h.off
 names:=h.names
 aH:=h.aH
 fs:=h.fs.cons ⟨rfl,lY.nil _ _ _,lY.nil _ _ _⟩
 writes:=h.writes
 dY:=h.dY
 ids:=by simp only[List.map_cons,List.nodup_cons];exact⟨hf,h.ids⟩
 known:=fun st cE x hx=>List.mem_cons_of_mem _ (h.known st cE x hx)
 gZ:=fun x hx=>List.mem_cons_of_mem _ (h.gZ x hx)
 nodup:=h.nodup
 gl:=fun x hx=>by
  rcases List.mem_cons.1 hx with rfl|hx
  ·simp
  ·exact h.gl x hx
 iv:=h.iv
 ff:=h.ff
 gY:=h.gY
 j5:=h.j5
 full:=h.full
theorem fJ.ids{q:Nat × Value × Value→Nat × List UInt8 × List UInt8→Prop}{l:List (Nat × Value × Value)}{r:List (Nat × List UInt8 × List UInt8)}(h:fJ q l r)(hq:∀x y,q x y→x.1=y.1):l.map (·.1)=r.map (·.1):=by
 apply List.ext_getElem?
 intro i
 simp only[List.getElem?_map]
 cases hx:l[i]? with
 | none =>
  have:r[i]?=none:=by rw[List.getElem?_eq_none_iff]at hx ⊢;rw[← h.1];exact hx
  rw[this];rfl
 | some x =>
  obtain⟨y,hy,Em⟩:=h.left hx
  rw[hy]
  simp[hq x y Em]
theorem Rel.XP{D:Dk}{A:Ab}(h:Rel D A):D.files.map (·.1)=A.fs.map (·.1):=fJ.ids h.fs fun x y Em=>Em.1
theorem JS{l:List (ByteArray × Nat)}{k:ByteArray}{f:Nat}(h:Ab.du l k=none):Ab.jt l k f=l++[(k,f)]:=by simp[Ab.jt,h]
theorem Fh(bd:Nat)(D:Dk)(A:Ab)(hR:Rel D A)(name:ByteArray)(cE:A.aH.length≤1000000000) :
  aD Tryz.prog 79 [ptr bd,.string name] [gx bd D]
   (fun v H=>∃f D',f ∉ A.fs.map (·.1)∧Rel D' (A.create (isName name) name f).2∧H=[gx bd D']∧v = .int .i64 (A.create (isName name) name f).1):=by
 refine aD.enter Tryz.func79 ak rfl Tryz.ntmps79 zr zr ?_
 intro G F R hE
 refine go ?_
 refine bq zr zr bp ?_
 intro box
 refine go ?_
 refine au (U:=ao) zr zr zr zr zr zr zr zr zr bp ?_
 intro b0
 refine go ?_
 refine ck [0] zr zr zr zr (iD _ _ [name] (Vw.ag rfl) (by simp)) rfl bE ?_
 rintro _ _⟨rfl,rfl⟩
 have e1:[name].all isName=isName name:=by simp
 rw[e1]
 refine go ?_
 refine ck [2] zr zr zr zr (vG bd D A hR (isName name)) rfl bE ?_
 rintro _ _⟨D',fh,rfl,rfl⟩
 obtain⟨f0,Xq⟩:=fresh (A.fs.map (·.1))
 have hmf:=FP A (isName name)
 refine go ?_
 refine eO zr zr ?_ ?_
 ·intro h0
  have mI:¬(A.meet (isName name)).1=0:=by have:=of_decide_eq_true h0;omega
  have hf:A.create (isName name) name f0=((A.meet (isName name)).1,(A.meet (isName name)).2):=by simp[Ab.create,mI]
  refine go ?_
  refine ae hE Tryz.func79 rfl _ rfl ⟨f0,D',Xq,by rw[hf];exact fh,rfl,by rw[hf];rfl⟩ (aq.fin [0] 2 zr zr)
 ·intro h0
  have mI:(A.meet (isName name)).1=0:=by have:=of_decide_eq_false h0;omega
  obtain⟨room,bm,kE,lK,oe,off,maps,fp,files,lB,wl⟩:=D'
  have KS:lB.length≤1000000000:=by have:=fh.aH.1;simp only at this;rw[this,hmf.2.2.1];exact cE
  refine aj (iz _ _ _ _ _ _ _ _ _ _ _ _ _) ?_
  refine aF (fun w=>Sat G w ([ag bd (cl [.int .i64 room,.map (some bm),kE,lK,oe,.bool off] 65),aQ mB maps,ag box (cl [.string name] 9)])) (.st 0 (.st 1 (.st 2 (.st 3 (.st 4 (.st 5 (.st 6 (.st 7 (.st 8 (.st 9 (.st 10 .nil))))))))))) rfl ak ak ak (fun w hw=>hw.aX (aq.bF ([0,1,7]) rfl)) ?_
  refine go ?_
  refine oZ (U:=ao) rfl xE zr zr zr zr zr zr zr (fun w hw=>iQ (i:=1) hw rfl fh.names) ?_
  rw[nA]
  cases hl:Ab.du (A.meet (isName name)).2.names name with
  | some fl =>
   have hf:A.create (isName name) name f0=(5,(A.meet (isName name)).2):=by simp[Ab.create,mI,Ab.look,hl]
   refine go ?_
   refine aj ((aq.pick [0,1,2,3,4,5] rfl).trans (dL _ _ _ _ _ _ _ _ _ _ _ _ _)) ?_
   refine ae hE Tryz.func79 rfl _ rfl ⟨f0,_,Xq,by rw[hf];exact fh,rfl,by rw[hf];rfl⟩ (aq.fin [0] 2 zr zr)
  | none =>
   refine go ?_
   refine I0 (kv:=Value.string) (U:=ao) zr zr zr zr (fun w hw=>iQ (i:=1) hw rfl fh.names) ?_
   have sI:(fg (A.meet (isName name)).2.names).length=(A.meet (isName name)).2.names.length:=by simp[fg]
   rw[sI]
   refine go ?_
   refine aw zr zr ?_ ?_
   ·intro Lj
    have hf:A.create (isName name) name f0=(3,(A.meet (isName name)).2):=by simp[Ab.create,mI,Ab.look,hl];omega
    refine go ?_
    refine aj ((aq.pick [0,1,2,3,4,5] rfl).trans (dL _ _ _ _ _ _ _ _ _ _ _ _ _)) ?_
    refine ae hE Tryz.func79 rfl _ rfl ⟨f0,_,Xq,by rw[hf];exact fh,rfl,by rw[hf];rfl⟩ (aq.fin [0] 2 zr zr)
   ·intro Lj
    refine go ?_
    refine aG ((aq.pick [0,1,2,3,4,5] rfl).trans (dL _ _ _ _ _ _ _ _ _ _ _ _ _)) ?_
    refine ck [0,2] zr zr zr zr (lh (α:=Nat) bd _ _ fh.names 136 #[ptr box] (ag box (cl [.string name] 9)) (fun f=>Ab.jt (A.meet (isName name)).2.names name f) (fun f=>gq (f,.slice none 0 0,.slice none 0 0)) (fun _=>True) (fun b'=>C6 b' box _ name) KS) rfl bE ?_
    rintro _ _⟨f,b',v,_,rfl⟩
    refine go ?_
    refine aj (iz _ _ _ _ _ _ _ _ _ _ _ _ _) ?_
    refine aj (aq.pick [6,3] rfl) ?_
    refine qj fun⟨w,hw⟩=>?_
    have hff:f ∉ A.fs.map (·.1):=by have:=EG hw;have h2:=fh.XP;simp only at h2;rw[h2,hmf.1]at this;exact this
    clear hw
    refine aj (pj gq (f,.slice none 0 0,.slice none 0 0) files _) ?_
    have yI:(A.meet (isName name)).2.look name=none:=hl
    have hf:A.create (isName name) name f=(0,{ (A.meet (isName name)).2.nH ((A.meet (isName name)).2.names++[(name,f)])with fs:=(f,[],[])::(A.meet (isName name)).2.fs }):=by
     simp only[Ab.create,mI,if_true,yI,Option.isSome_none,Bool.false_eq_true,if_false]
     rw[if_neg ai]
    have fM:Ab.jt (A.meet (isName name)).2.names name f=(A.meet (isName name)).2.names++[(name,f)]:=JS hl
    have NA:name ∉ (A.meet (isName name)).2.names.map (·.1):=fun h=>by have:=nj.2 h;rw[hl]at this;cases this
    have NR:=(fh.Oe (f:=f) (by rw[hmf.1];exact hff)).nH (b':=b') (v:=v) (nm:=(A.meet (isName name)).2.names++[(name,f)])
     (fun x hx=>by
      rcases List.mem_append.1 hx with hx|hx
      ·exact List.mem_cons_of_mem _ (fh.known _ (List.mem_cons_self ..) x hx)
      ·simp only[List.mem_singleton]at hx;subst hx;exact List.mem_cons_self ..)
     (by
      rw[List.map_append,List.nodup_append]
      exact⟨fh.nodup _ (List.mem_cons_self ..),by simp,fun a ha b hb=>by simp at hb;subst hb;rintro rfl;exact NA ha⟩)
     (by rw[List.length_append];simp only[List.length_singleton];omega)
    rw[fM]
    refine aj (aq.pick [1,2,3,0,4,5] rfl) ?_
    refine aj (dL bd room b' _ lK oe off _ fp _ (lB++[b']) wl _) ?_
    refine ae hE Tryz.func79 rfl _ rfl ⟨f,_,hff,by rw[hf];exact NR,rfl,by rw[hf];rfl⟩ (aq.fin [0] 1 zr zr)
theorem L5(bd:Nat)(D:Dk)(A:Ab)(hR:Rel D A)(name:ByteArray) :
  aD Tryz.prog 119 [ptr bd,.string name] [gx bd D] (fun v H=>H=[gx bd D]∧v = .tuple #[.int .i64 (A.size name).1,.int .i64 (A.size name).2]):=by
 obtain⟨room,bm,kE,lK,oe,off,maps,fp,files,lB,wl⟩:=D
 refine aD.enter Tryz.func119 ak rfl Tryz.ntmps119 zr zr ?_
 intro G F R hE
 refine aj (iz _ _ _ _ _ _ _ _ _ _ _ _ _) ?_
 refine go ?_
 refine o4 (U:=ao) rfl xE zr zr zr zr zr zr zr (fun w hw=>iQ (i:=1) hw rfl hR.names) ?_
 rw[nA]
 cases hl:Ab.du A.names name with
 | none =>
  have hs:A.size name=(0,4):=by simp[Ab.size,Ab.look,hl]
  rw[hs]at hE
  refine go ?_
  refine aj ((aq.pick [0,1,2,3,4,5] rfl).trans (dL _ _ _ _ _ _ _ _ _ _ _ _ _)) ?_
  refine ae hE Tryz.func119 rfl _ rfl ⟨rfl,rfl⟩ (aq.fin [0] 0 zr zr)
 | some fl =>
  have hs:A.size name=((A.now fl).length,0):=by simp[Ab.size,Ab.look,hl]
  rw[hs]at hE
  obtain⟨i,v1,v2,hi,yL,lC,tm⟩:=hR.file (f:=fl) (hR.known _ (List.mem_cons_self ..) _ (ow hl))
  obtain⟨a,cap,rfl,iy⟩:=lC.shape
  refine go ?_
  refine uZ (U:=ao) zr zr (fun w hw=>rS (i:=3) hw rfl hi) zr zr ?_
  refine go ?_
  refine aj ((aq.pick [0,1,2,3,4,5] rfl).trans (dL _ _ _ _ _ _ _ _ _ _ _ _ _)) ?_
  refine ae hE Tryz.func119 rfl _ rfl ⟨rfl,rfl⟩ (aq.fin [0] 0 zr zr)
theorem L8(bd:Nat)(D:Dk)(A:Ab)(hR:Rel D A)(name:ByteArray)(at_ n:Int) :
  aD Tryz.prog 106 [ptr bd,.string name,.int .i64 at_,.int .i64 n] [gx bd D]
   (fun v H=>∃r,H=[az 5 1 r (A.read name at_ n).1.length (bV (A.read name at_ n).1),gx bd D]∧v = .tuple #[r,.int .i64 (A.read name at_ n).2]):=by
 obtain⟨room,bm,kE,lK,oe,off,maps,fp,files,lB,wl⟩:=D
 have ie:=hR.off
 simp only at ie
 refine aD.enter Tryz.func106 ak rfl Tryz.ntmps106 zr zr ?_
 intro G F R hE
 refine aj (iz _ _ _ _ _ _ _ _ _ _ _ _ _) ?_
 cases off with
 | true =>
  have hs:A.read name at_ n=([],7):=by simp[Ab.read,← ie]
  rw[hs]at hE
  refine go ?_
  refine aj ((aq.pick [0,1,2,3,4,5] rfl).trans (dL _ _ _ _ _ _ _ _ _ _ _ _ _)) ?_
  refine aj (bw 5 1 none _) ?_
  refine ae hE Tryz.func106 rfl _ rfl ⟨_,rfl,rfl⟩ (aq.fin [0,1] 0 zr zr)
 | false =>
  refine go ?_
  refine o4 (U:=ao) rfl xE zr zr zr zr zr zr zr (fun w hw=>iQ (i:=1) hw rfl hR.names) ?_
  rw[nA]
  cases hl:Ab.du A.names name with
  | none =>
   have hs:A.read name at_ n=([],4):=by simp[Ab.read,Ab.look,hl,← ie]
   rw[hs]at hE
   refine go ?_
   refine aj ((aq.pick [0,1,2,3,4,5] rfl).trans (dL _ _ _ _ _ _ _ _ _ _ _ _ _)) ?_
   refine aj (bw 5 1 none _) ?_
   refine ae hE Tryz.func106 rfl _ rfl ⟨_,rfl,rfl⟩ (aq.fin [0,1] 0 zr zr)
  | some fl =>
   have hs:A.read name at_ n=if at_<0∨n<0∨((A.now fl).length:Int)<at_∨((A.now fl).length:Int)-at_<n then([],1)else(((A.now fl).drop at_.toNat).take n.toNat,0):=by simp[Ab.read,Ab.look,hl,← ie]
   obtain⟨i,v1,v2,hi,yL,lC,tm⟩:=hR.file (f:=fl) (hR.known _ (List.mem_cons_self ..) _ (ow hl))
   obtain⟨a,cap,rfl,iy⟩:=lC.shape
   have rF:=(hR.small fl).1
   have kr:∀(h:at_<0∨n<0∨((A.now fl).length:Int)<at_∨((A.now fl).length:Int)-at_<n),A.read name at_ n=([],1):=fun h=>by rw[hs,if_pos h]
   repeat'(first|(with_reducible intro nT)|refine fk ?_|refine gN zr zr zr zr ?_ ?_|refine aw zr zr ?_ ?_|refine uZ (U:=ao) zr zr (fun w hw=>rS (i:=3) hw rfl hi) zr zr ?_)
   any_goals (
    have uu:=kr ai
    rw[uu]at hE
    refine aj ((aq.pick [0,1,2,3,4,5] rfl).trans (dL _ _ _ _ _ _ _ _ _ _ _ _ _)) ?_
    refine aj (bw 5 1 none _) ?_
    refine ae hE Tryz.func106 rfl _ rfl ⟨_,rfl,rfl⟩ (aq.fin [0,1] 0 zr zr))
   refine bG (U:=ao) zr zr zr zr zr zr zr ai ai (.inr ai) ?_
   have hr:A.read name at_ n=(((A.now fl).drop at_.toNat).take n.toNat,0):=by rw[hs,if_neg ai]
   have kq:=lC.cut at_.toNat n.toNat ai
   have hlen:(((A.now fl).drop at_.toNat).take n.toNat).length=n.toNat:=by rw[List.length_take,List.length_drop];omega
   refine aB 61 (.slice (sliceAt a cap at_.toNat 1) (((A.now fl).drop at_.toNat).take n.toNat).length (cap-at_.toNat)) rfl (by rw[hlen];congr 1;omega) ?_
   have O5:lY fp (.slice (sliceAt a cap at_.toNat 1) (((A.now fl).drop at_.toNat).take n.toNat).length (cap-at_.toNat)) (((A.now fl).drop at_.toNat).take n.toNat):=by rw[hlen];exact kq
   rw[hr]at hE
   clear kq hr hs kr
   generalize Tu:((A.now fl).drop at_.toNat).take n.toNat=bs at hE O5 hlen ⊢
   refine go ?_
   refine ck [2] zr zr zr zr (jY _ _ bs (O5.view _) ai) rfl bE ?_
   rintro r _ rfl
   refine go ?_
   refine aj (aq.pick [2,3,1,4,5,6] rfl) ?_
   refine aj (dL bd room bm kE lK oe false maps fp files lB wl _) ?_
   refine ae hE Tryz.func106 rfl _ rfl ⟨r,rfl,rfl⟩ (aq.fin [1,0] 0 zr zr)
def fL(name:ByteArray)(at_:Int)(b:List UInt8):Bool:=isName name && decide (0≤at_) && decide (at_≤1048576) && decide ((b.length:Int)≤1048576-at_)
theorem wg(A:Ab)(name:ByteArray):A.find name false=(1,none,A):=by simp[Ab.find,Ab.meet]
theorem xV(A:Ab)(name:ByteArray)(at_:Nat)(b:List UInt8):A.write false name at_ b=(1,A):=by simp[Ab.write,wg]
theorem MU{fs:List (Nat × List UInt8 × List UInt8)}(hn:(fs.map (·.1)).Nodup){i f:Nat}{x:List UInt8 × List UInt8}(hi:fs[i]?=some (f,x))(n:List UInt8):Ab.Dm fs f n=fs.set i (f,n,x.2):=by
 induction fs generalizing i with
 | nil=>simp at hi
 | cons y l ih =>
  simp only[List.map_cons,List.nodup_cons]at hn
  cases i with
  | zero =>
   simp at hi
   subst hi
   simp only[Ab.Dm,List.map_cons,if_true,List.set_cons_zero,List.cons.injEq,true_and]
   rw[List.map_congr_left (g:=id) (fun z hz=>?_),List.map_id]
   have:z.1≠f:=fun e=>hn.1 (List.mem_map.2 ⟨z,hz,e⟩)
   simp[this]
  | succ i =>
   simp at hi
   have ct:y.1≠f:=fun e=>hn.1 (List.mem_map.2 ⟨_,List.mem_of_getElem? hi,e.symm⟩)
   have:=ih hn.2 hi
   simp only[Ab.Dm]at this
   simp only[Ab.Dm,List.map_cons,ct,if_false,List.set_cons_succ,this]
theorem qY(fs:List (Nat × List UInt8 × List UInt8))(f:Nat)(n:List UInt8):(Ab.Dm fs f n).map (·.1)=fs.map (·.1):=by
 simp only[Ab.Dm,List.map_map]
 apply List.map_congr_left
 intro x _
 simp only[Function.comp]
 split <;> rfl
theorem Rel.wrote{D:Dk}{A:Ab}(h:Rel D A){i f at_:Nat}{v1 v2 v3 v4:Value}{n b:List UInt8}{y1:fH}{w:Value}(hi:D.files[i]?=some (f,v1,v2))(ha:A.fs[i]?=some (f,A.now f,A.sure f))(dH:∀x∈D.fp,x∈y1)(hn:lY y1 v3 n)(hb:lY y1 v4 b)(F5:n.length≤1048576)(jV:at_+b.length≤1048576) :
  Rel { D with files:=D.files.set i (f,v3,v2),fp:=y1,lK:=w,wl:=D.wl++[(f,at_,v4)] } { A with fs:=Ab.Dm A.fs f n,writes:=A.writes++[(f,at_,b)] } where
 room:=h.room
 off:=h.off
 names:=h.names
 aH:=h.aH
 fs:=by
  rw[MU h.ids ha]
  have h2:=h.fs.2 i _ _ hi ha
  exact fJ.set (h.fs.mono fun x y Em=>⟨Em.1,Em.2.1.mono dH,Em.2.2.mono dH⟩) i ⟨rfl,hn,h2.2.2.mono dH⟩
 writes:=fJ.snoc (h.writes.mono fun x y Em=>⟨Em.1,Em.2.1,Em.2.2.mono dH⟩) ⟨rfl,rfl,hb⟩
 dY:=h.dY.mono dH
 ids:=by simp only[qY];exact h.ids
 known:=by simp only[qY];exact h.known
 gZ:=by
  simp only[qY]
  intro x hx
  rcases List.mem_append.1 hx with hx|hx
  ·exact h.gZ x hx
  ·simp only[List.mem_singleton]at hx;subst hx;exact List.mem_map.2 ⟨_,List.mem_of_getElem? ha,rfl⟩
 nodup:=h.nodup
 gl:=by
  intro x hx
  simp only[Ab.Dm,List.mem_map]at hx
  obtain⟨y,hy,rfl⟩:=hx
  have:=h.gl y hy
  split
  ·exact⟨F5,this.2⟩
  ·exact this
 iv:=by
  intro x hx
  rcases List.mem_append.1 hx with hx|hx
  ·exact h.iv x hx
  ·simp only[List.mem_singleton]at hx;subst hx;exact jV
 ff:=h.ff
 gY:=h.gY
 j5:=h.j5
 full:=h.full
theorem fb(old:List UInt8)(at_:Nat)(b:List UInt8):(dJ old at_ b).length=max old.length (at_+b.length):=by
 unfold dJ;simp;omega
theorem mK(A:Ab)(name:ByteArray)(ok:Bool):(A.find name ok).2.2.fs=A.fs∧(A.find name ok).2.2.names=A.names∧(A.find name ok).2.2.aH=A.aH∧(A.find name ok).2.2.writes=A.writes∧(A.find name ok).2.2.room=A.room:=by
 have:=FP A ok
 unfold Ab.find
 split
 ·cases (A.meet ok).2.look name <;> exact this
 ·exact this
theorem Rel.uH{D:Dk}{A:Ab}(h:Rel D A):A.used≤209715200:=by
 rw[← vf (h.nodup _ (List.mem_cons_self ..))]
 have:=AY (fun f=>(h.small f).1) (A.names.map (·.1))
 have h2:=h.ff _ (List.mem_cons_self ..)
 rw[List.length_map]at this
 omega
theorem Iy(e:TypeId)(v:Value)(bs:List UInt8)(M:fH):∀h,star (az e 1 v bs.length (bV bs)) (aV e M) h→∃M',(lY M' v bs∧∀x∈M,x∈M')∧Sep [aV e M'] h:=fun h hs=>by
 obtain⟨M',h1,h2,h3⟩:=LU e v bs M h hs
 exact⟨M',⟨h1,h2⟩,fE h3⟩
theorem lf{A:Ab}{name:ByteArray}{ok:Bool}(h:(A.find name ok).1=0):ok=true∧∃fl,(A.find name ok).2.1=some fl∧(name,fl)∈(A.find name ok).2.2.names:=by
 unfold Ab.find at h ⊢
 split
 ·rename_i h0
  rw[if_pos h0]at h
  cases hl:(A.meet ok).2.look name with
  | none=>rw[hl]at h;cases h
  | some f =>
   refine⟨?_,f,rfl,ow hl⟩
   cases ok with
   | true=>rfl
   | false=>simp[Ab.meet]at h0
 ·rename_i h0
  rw[if_neg h0]at h
  exact absurd h h0
theorem IF(bd:Nat)(D:Dk)(A:Ab)(hR:Rel D A)(name:ByteArray)(at_:Int)(X:HP)(bv:Value)(b:List UInt8)(hv:Vw X bv b.length (bV b))(eA:A.writes.length≤1000000000)(jV:b.length≤1000000000)(MP : -9223372036854775808≤at_∧at_≤9223372036854775807) :
  aD Tryz.prog 92 [ptr bd,.string name,.int .i64 at_,bv] [gx bd D,X]
   (fun v H=>∃D',Rel D' (A.write (fL name at_ b) name at_.toNat b).2∧H=[gx bd D',X]∧v = .int .i64 (A.write (fL name at_ b) name at_.toNat b).1):=by
 obtain⟨a0,c0,rfl⟩:=hv.shape
 refine aD.enter Tryz.func92 ak rfl Tryz.ntmps92 zr zr ?_
 intro G F R hE
 refine go ?_
 refine au (U:=ao) zr zr zr zr zr zr zr zr zr bp ?_
 intro b0
 refine go ?_
 refine ck [0] zr zr zr zr (iD _ _ [name] (Vw.ag rfl) (by simp)) rfl bE ?_
 rintro _ _⟨rfl,rfl⟩
 have e1:[name].all isName=isName name:=by simp
 rw[e1]
 cases qB:isName name with
 | false =>
  have hm:fL name at_ b=false:=by simp[fL,qB]
  rw[hm,xV]at hE
  refine go ?_
  refine ck [1] zr zr zr zr (iT bd D A hR name false) rfl bE ?_
  rw[wg]
  rintro _ _⟨D',fh,rfl,rfl⟩
  refine go ?_
  refine ae hE Tryz.func92 rfl _ rfl ⟨D',fh,rfl,rfl⟩ (aq.fin [0,2] 1 zr zr)
 | true =>
  repeat'(first|(with_reducible intro nT)|refine fk ?_|refine gN zr zr zr zr ?_ ?_|fail)
  any_goals (
   have hm:fL name at_ b=false:=by simp[fL,qB, *]
   rw[hm,xV]at hE
   refine ck [1] zr zr zr zr (iT bd D A hR name false) rfl bE ?_
   rw[wg]
   rintro _ _⟨D',fh,rfl,rfl⟩
   refine go ?_
   refine ae hE Tryz.func92 rfl _ rfl ⟨D',fh,rfl,rfl⟩ (aq.fin [0,2] 1 zr zr))
  rename_i h2
  obtain⟨at_,rfl⟩:=Int.eq_ofNat_of_zero_le h2
  simp only[Int.toNat_natCast]at hE
  have hm:fL name at_ b=decide ((b.length:Int)≤1048576-at_):=by simp[fL,qB, *]
  refine aB 31 (.bool (fL name at_ b)) rfl (congrArg Value.bool hm.symm) ?_
  refine ck [1] zr zr zr zr (iT bd D A hR name (fL name at_ b)) rfl bE ?_
  generalize lF:fL name at_ b=ok at hE hm ⊢
  rintro _ _⟨D',fh,rfl,rfl⟩
  refine go ?_
  refine eO zr zr ?_ ?_
  ·intro h0
   have mI:¬(A.find name ok).1=0:=by have:=of_decide_eq_true h0;omega
   have hw:A.write ok name at_ b=((A.find name ok).1,(A.find name ok).2.2):=by simp[Ab.write,mI]
   rw[hw]at hE
   refine go ?_
   refine ae hE Tryz.func92 rfl _ rfl ⟨D',fh,rfl,rfl⟩ (aq.fin [0,2] 1 zr zr)
  ·intro h0
   have mI:(A.find name ok).1=0:=by have:=of_decide_eq_false h0;omega
   obtain⟨S0,fl,qS,g9⟩:=lf mI
   rw[S0]at hm
   have hlen:=of_decide_eq_true hm.symm
   have hw:A.write ok name at_ b=if(A.find name ok).2.2.room<(A.find name ok).2.2.used+(at_+b.length-((A.find name ok).2.2.now fl).length)then(3,(A.find name ok).2.2)
    else(0,{ (A.find name ok).2.2 with fs:=Ab.Dm (A.find name ok).2.2.fs fl (dJ ((A.find name ok).2.2.now fl) at_ b),writes:=(A.find name ok).2.2.writes++[(fl,at_,b)] }):=by simp[Ab.write,mI,qS]
   rw[qS]
   have ZJ:(A.find name ok).2.2.writes.length≤1000000000:=by rw[(mK A name ok).2.2.2.1];exact eA
   generalize (A.find name ok).2.2=A1 at *
   obtain⟨room,bm,kE,lK,oe,off,maps,fp,files,lB,wl⟩:=D'
   obtain⟨i,v1,v2,hi,yL,lC,tm⟩:=fh.file (f:=fl) (fh.known _ (List.mem_cons_self ..) _ g9)
   obtain⟨a,cap,rfl,iy⟩:=lC.shape
   have rF:=(fh.small fl).1
   have oA:=fh.room
   have F0:=fh.gY
   simp only at oA
   refine aj (iz _ _ _ _ _ _ _ _ _ _ _ _ _) ?_
   refine aF (fun w=>Sat G w ([ag bd (cl [.int .i64 room,.map (some bm),kE,lK,oe,.bool off] 65),aQ gq files])) (.st 0 (.st 2 (.st 3 (.st 4 (.st 5 (.st 6 (.st 7 (.st 8 (.st 9 (.st 10 (.st 11 (.st 12 (.st 14 (.st 15 (.st 16 (.st 17 (.act 1 (.st 13 (.st 18 .nil))))))))))))))))))) rfl ak ak ak (fun w hw=>hw.aX (aq.bF ([0,3]) rfl)) ?_
   refine go ?_
   refine lX (U:=ao) zr zr (fun w hw=>rS (i:=1) hw rfl hi) zr zr ?_
   refine go ?_
   refine aG ((aq.pick [0,1,2,3,4,5] rfl).trans (dL _ _ _ _ _ _ _ _ _ _ _ _ _)) ?_
   have hul:=fh.uH
   refine ck [0] rfl rfl rfl rfl (L1 bd _ A1 fh) rfl (fun _ _ w hp hw=>by obtain⟨rfl,_⟩:=hp;exact hw.aX ((iz _ _ _ _ _ _ _ _ _ _ _ _ _).trans (aq.bF [0,3] rfl))) ?_
   rintro _ _⟨rfl,rfl⟩
   refine go ?_
   refine aw zr zr ?_ ?_
   ·intro Lj
    rw[if_pos ai]at hw
    rw[hw]at hE
    refine go ?_
    refine ae hE Tryz.func92 rfl _ rfl ⟨_,fh,rfl,rfl⟩ (aq.fin [0,2] 1 zr zr)
   ·intro Lj
    rw[if_neg ai]at hw
    rw[hw]at hE
    refine go ?_
    refine aG (iz _ _ _ _ _ _ _ _ _ _ _ _ _) ?_
    refine go ?_
    refine aG (aq.pick [3] rfl) ?_
    refine aG (kF gq hi _) ?_
    refine go ?_
    refine aG (aq.pick [4,8] rfl) ?_
    refine aG (aq.join _ _ _) ?_
    refine ck [0] zr zr zr zr (GH (star (aV 5 fp) X) _ _ (A1.now fl) b at_ (lC.view _).left hv.right ai) rfl bE ?_
    rintro _ _⟨bl,tB,rfl,XC,rfl⟩
    refine aG (aq.pick [1] rfl) ?_
    refine aG (aq.part _ _ _) ?_
    refine aG (aq.pick [2,0] rfl) ?_
    refine aG (LV 5 bl _ fp _) ?_
    refine go ?_
    refine aj (aq.pick [2,3] rfl) ?_
    refine aj (yh gq (y:=(fl,.slice (some ⟨bl,0,none⟩) (dJ (A1.now fl) at_ b).length tB,v2)) hi _) ?_
    refine aF (fun w=>Sat G w ([ag bd (cl [.int .i64 room,.map (some bm),kE,lK,oe,.bool off] 65)])) (.st 0 (.st 1 (.st 2 (.st 3 (.st 4 (.st 5 (.st 6 (.st 7 (.act 8 (.st 9 (.act 10 (.act 11 (.st 12 (.st 13 (.act 14 .nil))))))))))))))) rfl ak ak ak (fun w hw=>hw.aX (aq.bF ([3]) rfl)) ?_
    refine go ?_
    refine ck [2] rfl rfl rfl rfl (jY X _ b hv jV) rfl (fun _ _ w hp hw=>by subst hp;exact hw.aX (aq.bF [4] rfl)) ?_
    rintro r _ rfl
    refine aM 0 rfl ?_
    rintro ar cr rfl
    refine go ?_
    refine au (U:=ao) zr zr zr zr zr zr zr zr zr (fun _ w hw=>hw.aX (aq.bF ([5]) rfl)) ?_
    intro b1
    refine bh (U:=ao) (mm:=1) (news:=[ptr fl,.int .i64 at_,.slice ar b.length cr]) 8 0 zr zr zr zr zr zr zr zr zr zr zr zr (Vw.ag rfl) rfl (by simp[Value.oneCell',ptr]) (by have:=fh.writes.1;simp only at this;omega) (by have:=fh.writes.1;simp only at this;show _*40≤_;omega) (fun _=>rfl) (fun _ w hw=>hw.aX (aq.bF ([5]) rfl)) ?_
    intro v'
    have e2:eF wl++[ptr fl,.int .i64 at_,.slice ar b.length cr]=eF (wl++[(fl,at_,.slice ar b.length cr)]):=by simp[eF]
    have e3:wl.length+1=(wl++[(fl,at_,Value.slice ar b.length cr)]).length:=by simp
    rw[e2,e3]
    refine aM 8 rfl ?_
    rintro av cv rfl
    refine go ?_
    refine aS ?_;refine bI (U:=ao) 5 fR zr zr zr zr zr zr zr zr zr ?_
    refine go ?_
    refine aj (aq.pick [1,4] rfl) ?_
    refine aj (aq.join _ _ _) ?_
    refine dM (Iy 5 _ b _) ?_
    rintro y1⟨NO,dH⟩
    have NR:=fh.wrote (w := .slice av (wl++[(fl,at_,Value.slice ar b.length cr)]).length cv) hi yL (fun x hx=>dH x (List.mem_cons_of_mem _ hx)) ((lY.row (cap:=tB) XC).mono dH) NO (by rw[fb];omega) (by omega:at_+b.length≤1048576)
    refine aj (aq.pick [4,5,0,3,6,7] rfl) ?_
    refine aj (dL bd room bm kE _ oe off maps y1 _ lB _ _) ?_
    refine ae hE Tryz.func92 rfl _ rfl ⟨_,NR,rfl,rfl⟩ (aq.fin [0,2] 2 zr zr)
theorem Cv{l:List (ByteArray × Nat)}{k:ByteArray}{x:ByteArray × Nat}(h:x∈Ab.dD l k):x∈l∧x.1≠k:=by
 simpa[Ab.dD]using h
theorem LD(l:List (ByteArray × Nat))(k:ByteArray):(Ab.dD l k).length≤l.length:=List.length_filter_le _ _
theorem wo{l:List (ByteArray × Nat)}(h:(l.map (·.1)).Nodup)(k:ByteArray):((Ab.dD l k).map (·.1)).Nodup:=(List.filter_sublist.map _).nodup h
theorem N8{l:List (ByteArray × Nat)}{k:ByteArray}{f:Nat}(h:(k,f)∈l):(Ab.dD l k).length+1≤l.length:=by
 have:(Ab.dD l k).length<l.length:=by
  unfold Ab.dD
  rw[List.length_filter_lt_length_iff_exists]
  exact⟨_,h,by simp⟩
 omega
theorem JU(l:List (ByteArray × Nat))(k:ByteArray)(f:Nat):(Ab.jt l k f).length≤l.length+1:=by
 unfold Ab.jt
 split <;> simp
theorem JT{l:List (ByteArray × Nat)}{k:ByteArray}{f:Nat}{x:ByteArray × Nat}(h:x∈Ab.jt l k f):x=(k,f)∨x∈l:=by
 unfold Ab.jt at h
 split at h
 ·obtain⟨y,hy,rfl⟩:=List.mem_map.1 h
  split
  ·exact .inl rfl
  ·exact .inr hy
 ·rcases List.mem_append.1 h with h|h
  ·exact .inr h
  ·exact .inl (by simpa using h)
theorem DO{l:List (ByteArray × Nat)}(h:(l.map (·.1)).Nodup)(k:ByteArray)(f:Nat):((Ab.jt l k f).map (·.1)).Nodup:=by
 unfold Ab.jt
 split
 ·have:(l.map fun x=>if x.1=k then(k,f)else x).map (·.1)=l.map (·.1):=by
   rw[List.map_map]
   apply List.map_congr_left
   intro x _
   simp only[Function.comp]
   split
   ·rename_i e;exact e.symm
   ·rfl
  rw[this];exact h
 ·rename_i hk
  rw[List.map_append,List.nodup_append]
  exact⟨h,by simp,fun a ha b hb=>by simp at hb;subst hb;rintro rfl;exact hk (nj.2 ha)⟩
theorem E3(bd:Nat)(D:Dk)(A:Ab)(hR:Rel D A)(name:ByteArray)(cE:A.aH.length≤1000000000) :
  aD Tryz.prog 102 [ptr bd,.string name] [gx bd D]
   (fun v H=>∃D',Rel D' (A.remove (isName name) name).2∧H=[gx bd D']∧v = .int .i64 (A.remove (isName name) name).1):=by
 refine aD.enter Tryz.func102 ak rfl Tryz.ntmps102 zr zr ?_
 intro G F R hE
 refine go ?_
 refine bq zr zr bp ?_
 intro box
 refine go ?_
 refine aF (fun w=>Sat G w ([ag box (cl [.string name] 9)])) (.st 0 (.st 1 (.st 2 (.act 3 (.act 4 (.act 5 (.st 6 (.st 7 (.st 8 (.st 9 (.st 10 .nil))))))))))) rfl ak ak ak (fun w hw=>hw.aX (aq.bF ([0]) rfl)) ?_
 refine go ?_
 refine au (U:=ao) zr zr zr zr zr zr zr zr zr (fun _ w hw=>hw.aX (aq.bF ([1]) rfl)) ?_
 intro b0
 refine ck [0] rfl rfl rfl rfl (iD _ _ [name] (Vw.ag rfl) (by simp)) rfl (fun _ _ w hp hw=>by obtain⟨_,rfl⟩:=hp;exact hw.aX (aq.bF [1] rfl)) ?_
 rintro _ _⟨rfl,rfl⟩
 have e1:[name].all isName=isName name:=by simp
 rw[e1]
 refine ck [2] rfl rfl rfl rfl (iT bd D A hR name (isName name)) rfl (fun _ _ w hp hw=>by obtain⟨_,_,rfl,_⟩:=hp;exact hw.aX (aq.bF [2] rfl)) ?_
 generalize lF:isName name=ok at hE ⊢
 rintro _ _⟨D',fh,rfl,rfl⟩
 refine go ?_
 refine eO zr zr ?_ ?_
 ·intro h0
  have mI:¬(A.find name ok).1=0:=by have:=of_decide_eq_true h0;omega
  have hw:A.remove ok name=((A.find name ok).1,(A.find name ok).2.2):=by
   unfold Ab.remove
   generalize A.find name ok=z at mI ⊢
   obtain⟨e,fo,A1⟩:=z
   cases fo with
   | none=>cases e <;> rfl
   | some fl=>cases e with
    | zero=>exact absurd rfl mI
    | succ e=>rfl
  rw[hw]at hE
  refine go ?_
  refine ae hE Tryz.func102 rfl _ rfl ⟨D',fh,rfl,rfl⟩ (aq.fin [0] 2 zr zr)
 ·intro h0
  have mI:(A.find name ok).1=0:=by have:=of_decide_eq_false h0;omega
  obtain⟨S0,fl,qS,g9⟩:=lf mI
  have hw:A.remove ok name=(0,(A.find name ok).2.2.nH (Ab.dD (A.find name ok).2.2.names name)):=by
   unfold Ab.remove
   generalize A.find name ok=z at mI qS ⊢
   obtain⟨e,fo,A1⟩:=z
   simp only at mI qS
   subst mI qS
   rfl
  have KS:(A.find name ok).2.2.aH.length≤1000000000:=by rw[(mK A name ok).2.2.1];exact cE
  rw[hw]at hE
  generalize (A.find name ok).2.2=A1 at *
  have KR:D'.lB.length≤1000000000:=by rw[fh.aH.1];exact KS
  refine go ?_
  refine ck [0,2] zr zr zr zr (lh (α:=Unit) bd D' A1.names fh.names 162 #[ptr box] (ag box (cl [.string name] 9)) (fun _=>Ab.dD A1.names name) (fun _=>ag box (cl [.string name] 9)) (fun _=>True) (fun b'=>aD.post (CN b' box A1.names name) (fun v H h=>⟨(),trivial,h⟩)) KR) rfl bE ?_
  rintro _ _⟨_,b',v,_,rfl⟩
  have NR:=fh.nH (b':=b') (v:=v) (nm:=Ab.dD A1.names name) (fun x hx=>fh.known _ (List.mem_cons_self ..) x (Cv hx).1) (wo (fh.nodup _ (List.mem_cons_self ..)) name) (Nat.le_trans (LD _ _) (fh.ff _ (List.mem_cons_self ..)))
  refine go ?_
  refine ae hE Tryz.func102 rfl _ rfl ⟨_,NR,rfl,rfl⟩ (aq.fin [0] 2 zr zr)
abbrev CT:=Nat × Nat × Value
def yC(x:CT):List Value:=[ptr x.1,.int .i64 x.2.1,x.2.2]
theorem gO(l:List CT):eF l=l.flatMap yC:=rfl
theorem eV(x:CT):(yC x).length=3:=rfl
theorem xh(A X:HP)(v:Value)(l:List CT)(hv:Vw A v l.length (eF l))(hlen:l.length≤1000000000)(g:FuncId)(cap:List Value)(p:CT→Bool)(hf:∀x∈l,aD Tryz.prog g (.agg #[ptr x.1,.int .i64 x.2.1,x.2.2]::cap) [X] (fun v H=>v = .bool (p x)∧H=[X])) :
  aD Tryz.prog 197 [v,.func (.func g) #[] cap.toArray] [A,X] (fun r H=>r = .int .i64 (jy p l)∧H=[A,X]):=by
 obtain⟨a,c0,rfl⟩:=hv.shape
 refine aD.enter Tryz.func197 ak rfl Tryz.ntmps197 zr zr ?_
 intro G F R hR
 refine go ?_
 refine bo (fun i:Nat=>i≤l.length∧∀y∈l.take i,p y=false) (fun i=>l.length-i) (fun i=>[(0,.slice a l.length c0),(1,.func (.func g) #[] cap.toArray),(7,.int .i64 l.length),(8,.int .i64 i)]) (fun _=>[A,X]++F) 0 ⟨by simp,by simp⟩ rfl bY (aq.refl _) ?_
 rintro i⟨hi,hb⟩ ih
 refine go ?_
 refine aw zr zr ?_ ?_
 ·intro cO
  refine go ?_
  have fU:i<l.length:=by omega
  have hx:l[i]?=some l[i]:=by simp[fU]
  generalize Yt:l[i]=x at hx
  obtain⟨b,o,fQ,fA⟩:=hv.some (by rw[← List.length_pos_iff,gO,bZ eV];omega)
  simp only[Value.slice.injEq]at fA
  obtain⟨rfl,_,rfl⟩:=fA
  refine eE (U:=ao) i 3 zr zr zr zr zr zr zr zr fU ?_
  refine cQ (U:=ao) (es:=yC x) 0 (i*3) zr zr zr hv rfl (fun j v hj=>?_) zr zr zr ?_
  ·have xq:j<3:=by
    rcases Nat.lt_or_ge j 3 with h|h
    ·exact h
    ·rw[List.getElem?_eq_none (by rw[eV];exact h)]at hj;cases hj
   rw[gO,cF eV hx j xq];exact hj
  refine ck [1] zr zr zr zr (hf x (List.mem_of_getElem? hx)) rfl bE ?_
  rintro _ _⟨rfl,rfl⟩
  refine go ?_
  refine eO zr zr ?_ ?_
  ·intro hp
   refine go ?_
   refine ae hR Tryz.func197 rfl _ rfl ⟨by rw[mD hx hp hb];rfl,rfl⟩ (aq.fin [1,0] 0 zr zr)
  ·intro hp
   refine go ?_
   refine aO ih (i+1) rfl ⟨ai,se hb hx hp⟩ ai bY (aq.pick [1,0] rfl)
 ·intro eQ
  refine go ?_
  have:i=l.length:=by omega
  subst this
  refine ae hR Tryz.func197 rfl _ rfl ⟨by rw[pE (fun x hx=>hb x (by simpa using hx))];rfl,rfl⟩ (aq.fin [0,1] 0 zr zr)
theorem IH(c5 f g at_:Nat)(bv:Value)(files:List (Nat × Value × Value))(hf:f∈files.map (·.1))(hg:g∈files.map (·.1))(fC:bv.oneCell'=true) :
  aD Tryz.prog 154 [.agg #[ptr g,.int .i64 at_,bv],ptr c5] [star (ag c5 (cl [ptr f] 151)) (aQ gq files)] (fun v H=>v = .bool (decide (g=f))∧H=[star (ag c5 (cl [ptr f] 151)) (aQ gq files)]):=by
 have row:∀ {G:cm} {w:World} {H:List HP} {i y:Nat},Sat G w H→cf H i=some (aQ gq files)→y∈files.map (·.1)→Row w y:=by
  intro G w H i y hs hi hy
  obtain⟨⟨y',v1,v2⟩,hm,rfl⟩:=List.mem_map.1 hy
  obtain⟨j,hj⟩:=List.getElem?_of_mem hm
  exact⟨_,_,wh hs hi hj⟩
 refine aD.enter Tryz.func154 ak rfl Tryz.ntmps154 zr zr ?_
 intro G F R hE
 refine aj (aq.part _ _ _) ?_
 refine go ?_
 refine bq zr zr bp ?_
 intro bx
 refine go ?_
 refine Oq (U:=ao) zr zr zr zr zr zr zr (fun w hw=>row (i:=2) hw rfl hg) (fun w hw=>row (i:=2) hw rfl hf) ?_
 refine go ?_
 refine aj (aq.pick [1,2] rfl) ?_
 refine aj (aq.join _ _ _) ?_
 refine ae hE Tryz.func154 rfl _ rfl ⟨congrArg Value.bool (by simp),rfl⟩ (aq.fin [0] 1 zr zr)
theorem uF(v:Value)(l:List CT)(X:HP)(g:FuncId)(cap:List Value)(p:CT→Bool)(hlen:l.length≤1000000000)(fA:∀x∈l,∃a n c,x.2.2 = .slice a n c)(hf:∀x∈l,aD Tryz.prog g (.agg #[ptr x.1,.int .i64 x.2.1,x.2.2]::cap) [X] (fun v H=>v = .bool (p x)∧H=[X])) :
  aD Tryz.prog 153 [v,.func (.func g) #[] cap.toArray] [az 199 3 v l.length (eF l),X]
   (fun r H=>H=[az 199 3 r (l.filter fun x => !p x).length (eF (l.filter fun x => !p x)),X]):=by
 refine aD.enter Tryz.func153 ak rfl Tryz.ntmps153 zr zr ?_
 intro G F R hE
 refine db 0 rfl ?_
 rintro a0 c rfl
 refine go ?_
 refine iu 0 rfl ?_
 intro hv
 refine ck [0,1] zr zr zr zr (xh _ X _ l hv hlen g cap p hf) rfl bE ?_
 rintro _ _⟨rfl,rfl⟩
 refine go ?_
 refine aw zr zr ?_ ?_
 ·intro h0
  have ku:l.any p=false:=mE.1 ai
  have qS:(l.filter fun x => !p x)=l:=List.filter_eq_self.2 fun x hx=>by
   have:=List.any_eq_false.1 ku x hx
   simpa using this
  rw[qS]at hE
  refine go ?_
  refine ae hE Tryz.func153 rfl _ zr zr (aq.fin [0,1] 0 zr zr)
 ·intro h0
  obtain⟨i0,x0,Jn,SF,Dr,qD⟩:=vQ h0
  have aaH:i0<l.length:=by
   rcases Nat.lt_or_ge i0 l.length with h|h
   ·exact h
   ·rw[List.getElem?_eq_none h]at SF;cases SF
  rw[Jn]
  refine go ?_
  refine qI (fun a lD hn _=>by omega) ?_
  rintro b o c' pre bM qP lE YG iy lz
  simp only[Value.slice.injEq,true_and]at qP
  obtain⟨rfl,rfl⟩:=qP
  have h1:l.take (i0+1)=l.take i0++[x0]:=by rw[List.take_add_one,SF];rfl
  have Ew:(l.take i0).filter (fun x => !p x)=l.take i0:=List.filter_eq_self.2 fun x hx=>by simp[qD x hx]
  refine bo (fun s:Nat × Nat × List CT=>s.1<s.2.1∧s.2.1≤l.length∧s.2.2.length=l.length∧s.2.2.take s.1=(l.take s.2.1).filter (fun x => !p x)∧s.2.2.drop s.2.1=l.drop s.2.1) (fun s=>l.length-s.2.1)
   (fun s=>[(0,.slice (some ⟨b,o,none⟩) l.length c),(1,.func (.func g) #[] cap.toArray),(5,.int .i64 s.1),(6,.int .i64 s.2.1)])
   (fun s=>ag b (cl (pre++eF s.2.2++bM) 199)::X::F) (i0,i0+1,l) ⟨by simp,by simp only;omega,rfl,by simp only[h1,List.filter_append,Ew];simp[Dr],rfl⟩ rfl bY (aq.refl _) ?_
  rintro⟨i,j,E⟩⟨B9,uy,MR,Co,NT⟩ ih
  simp only at B9 uy MR Co NT
  have eA:(eF E).length=l.length*3:=by rw[gO,bZ eV,MR]
  have ZO:Vw (ag b (cl (pre++eF E++bM) 199)) (.slice (some ⟨b,o,none⟩) l.length c) l.length (eF E):=Vw.ag (by rw[List.append_assoc,← lE,List.drop_left,List.take_left])
  refine go ?_
  refine aw zr zr ?_ ?_
  ·intro cO
   simp only at cO
   have nK:j<l.length:=by omega
   obtain⟨⟨fx,ax,bx⟩,hx⟩:∃x,l[j]?=some x:=⟨l[j],by simp[nK]⟩
   have hEx:E[j]?=some (fx,ax,bx):=by
    have:=congrArg (·[0]?) NT
    simp only[List.getElem?_drop,Nat.add_zero]at this
    rw[this];exact hx
   have g9:=List.mem_of_getElem? hx
   obtain⟨ab,nb,cb,uz⟩:=fA _ g9
   simp only at uz
   subst uz
   have MM:=hf _ g9
   refine go ?_
   refine eE (U:=ao) j 3 zr zr zr zr zr zr zr zr nK ?_
   refine cQ (U:=ao) (es:=yC (fx,ax,.slice ab nb cb)) 0 (j*3) zr zr zr ZO rfl (fun q v hq=>?_) zr zr zr ?_
   ·have xq:q<3:=by
     rcases Nat.lt_or_ge q 3 with h|h
     ·exact h
     ·rw[List.getElem?_eq_none (by rw[eV];exact h)]at hq;cases hq
    rw[gO,cF eV hEx q xq];exact hq
   refine aN (U:=ao) zr zr zr bp ?_
   intro bv
   refine go ?_
   refine ef (U:=ao) 0 zr zr zr zr zr zr ?_
   refine ck [2] zr zr zr zr (MM) rfl bE ?_
   rintro _ _⟨rfl,rfl⟩
   refine go ?_
   refine eO zr zr ?_ ?_
   ·intro hp
    have qQ:p (fx,ax,.slice ab nb cb)=false:=by simpa using hp
    refine go ?_
    refine ef (U:=ao) 1 zr zr zr zr zr zr ?_
    refine go ?_
    refine eE (U:=ao) i 3 zr zr zr zr zr zr zr zr ai ?_
    refine jC (U:=ao) (l':=pre++eF (E.set i (fx,ax,.slice ab nb cb))++bM) 2 fR zr zr zr zr zr zr zr ?_ ?_ rfl ?_
    ·show o+i*3+3≤_
     rw[List.length_append,List.length_append,eA];omega
    ·show _=List.take (o+i*3) (pre++eF E++bM)++yC (fx,ax,.slice ab nb cb)++List.drop (o+i*3+(yC (fx,ax,.slice ab nb cb)).length) (pre++eF E++bM)
     rw[← lE,m8 _ _ _ _ _ (by rw[eV,eA];omega),gO,tz eV ai]
     rfl
    refine go ?_
    refine aO ih (i+1,j+1,E.set i (fx,ax,.slice ab nb cb)) rfl ⟨by simp only;omega,by simp only;omega,by simp only[List.length_set];exact MR,?_,?_⟩ (by simp only;omega) bY (aq.to [2,0] 1 zr zr zr)
    ·simp only
     rw[List.take_add_one,List.take_set_of_le (Nat.le_refl i),Co,List.take_add_one (l:=l),hx,List.getElem?_set_self ai]
     simp[List.filter_append,qQ]
    ·simp only
     rw[List.drop_set_of_lt ai,← List.drop_drop,NT,List.drop_drop]
   ·intro hp
    have qQ:p (fx,ax,.slice ab nb cb)=true:=by simpa using hp
    refine go ?_
    refine aO ih (i,j+1,E) rfl ⟨by simp only;omega,by simp only;omega,MR,by simp only;rw[Co,List.take_add_one,hx];simp[List.filter_append,qQ],by simp only;rw[← List.drop_drop,NT,List.drop_drop]⟩ (by simp only;omega) bY (aq.to [2,0] 1 zr zr zr)
  ·intro eQ
   refine go ?_
   simp only at eQ
   have Jm:j=l.length:=by omega
   subst Jm
   rw[List.take_length]at Co
   have B6:(l.filter fun x => !p x).length=i:=by rw[← Co,List.length_take];omega
   refine pQ (U:=ao) zr zr zr zr zr zr zr ai ai (.inl rfl) ?_
   intro o1 K3 Us
   simp only[Int.toNat_natCast]at K3 Us
   have K2:i≠c→o1=o+i*3:=K3
   have hL:(pre++eF E++bM).length=o+l.length*3+bM.length:=by rw[List.length_append,List.length_append,eA,lE]
   obtain⟨p8,Ld,aaC⟩:∃p8,(pre++eF E++bM).take o1++(List.replicate (((l.length:Int).toNat-(i:Int).toNat)) [Value.pointer none,.int .i64 0,.slice none 0 0]).flatten++(pre++eF E++bM).drop (o1+((l.length:Int).toNat-(i:Int).toNat)*3)=pre++eF (E.take i)++p8∧c*3≤i*3+p8.length:=by
    have Te:i≠c:=by omega
    rw[K2 Te,← lE,List.append_assoc pre,List.take_length_add_append,List.take_append_of_le_length (by rw[eA];omega),gO,gO,EN eV E i ai]
    refine⟨_,by rw[List.append_assoc],?_⟩
    rw[List.length_append,List.length_drop,ld]
    simp only[List.length_append,List.length_cons,List.length_nil,bZ eV,MR,Int.toNat_natCast]
    have:=lz
    omega
   refine GA (U:=ao) (l':=pre++eF (E.take i)++p8) 0 fR zr zr zr zr zr zr zr zr ?_ ?_ rfl ?_
   ·have Te:i≠c:=by omega
    show o1+((l.length:Int).toNat-(i:Int).toNat)*3≤_
    rw[K2 Te,hL];omega
   ·rw[← Ld];rfl
   refine go ?_
   refine pQ (U:=ao) zr zr zr zr zr zr zr ai ai (.inr ai) ?_
   intro o2 ho3 ho4
   have S3:o2=o:=by
    by_cases Dw:(0:Int).toNat=c
    ·exact ho4 Dw
    ·have:=ho3 Dw;rw[this];simp
   subst S3
   refine go ?_
   refine aj (kU (sz:=3) (nn:=i) (c:=c) lE ai (by rw[gO,bZ eV,List.length_take];omega) (by rw[gO,bZ eV,List.length_take];omega) _) ?_
   rw[← Co,Co,B6,← Co]at hE
   refine ae hE Tryz.func153 rfl _ zr zr (aq.fin [0,1] 0 zr zr)
theorem xR(bd:Nat)(D:Dk)(A:Ab)(hR:Rel D A) :
    aD Tryz.prog 63 [ptr bd] [gx bd D] (fun v H=>∃D',Rel D' A.cp.2∧H=[gx bd D']∧v = .int .i64 A.cp.1):=by
  refine aD.enter Tryz.func63 ak rfl Tryz.ntmps63 zr zr ?_
  intro G F R hE
  refine go ?_
  refine ck [0] zr zr zr zr (vG bd D A hR true) rfl bE ?_
  rintro _ _⟨D',fh,rfl,rfl⟩
  refine go ?_
  refine eO zr zr ?_ ?_
  · intro h0
    have mI:¬(A.meet true).1=0:=by have:=of_decide_eq_true h0;omega
    have hf:A.cp=((A.meet true).1,(A.meet true).2):=by simp[Ab.cp,mI]
    rw[hf]at hE
    refine go ?_
    refine ae hE Tryz.func63 rfl _ rfl ⟨D',fh,rfl,rfl⟩ (aq.fin [0] 0 zr zr)
  · intro h0
    have mI:(A.meet true).1=0:=by have:=of_decide_eq_false h0;omega
    have hf:A.cp=(0,{ (A.meet true).2 with aH:=[(A.meet true).2.names] }):=by simp[Ab.cp,mI]
    rw[hf]at hE
    obtain⟨room,bm,kE,lK,oe,off,maps,fp,files,lB,wl⟩:=D'
    refine aj (iz _ _ _ _ _ _ _ _ _ _ _ _ _) ?_
    refine go ?_
    refine au (U:=ao) zr zr zr zr zr zr zr zr zr bp ?_
    intro b0
    refine go ?_
    refine aj (dZ 61 1 b0 1 1 [.map (some bm)] [] _ rfl (Nat.le_refl _) (by simp)) ?_
    refine aj (aq.pick [1,2,3,4,0,6] rfl) ?_
    refine aj (dL bd room bm _ lK oe off maps fp files [bm] wl _) ?_
    have NR:Rel ⟨room,bm,.slice (some ⟨b0,0,none⟩) 1 1,lK,oe,off,maps,fp,files,[bm],wl⟩ { (A.meet true).2 with aH:=[(A.meet true).2.names] } :=
      { room:=fh.room,off:=fh.off,names:=fh.names,aH:=fJ.one fh.names,fs:=fh.fs,writes:=fh.writes,dY:=fh.dY,ids:=fh.ids
        known:=fun st cE=>fh.known st (by simp only[List.mem_cons,List.not_mem_nil,or_false]at cE;rcases cE with rfl|rfl <;> exact List.mem_cons_self ..)
        gZ:=fh.gZ
        nodup:=fun st cE=>fh.nodup st (by simp only[List.mem_cons,List.not_mem_nil,or_false]at cE;rcases cE with rfl|rfl <;> exact List.mem_cons_self ..)
        gl:=fh.gl,iv:=fh.iv
        ff:=fun st cE=>fh.ff st (by simp only[List.mem_cons,List.not_mem_nil,or_false]at cE;rcases cE with rfl|rfl <;> exact List.mem_cons_self ..)
        gY:=fh.gY,j5:=fh.j5,full:=by simp }
    refine ae hE Tryz.func63 rfl _ rfl ⟨_,NR,rfl,rfl⟩ (aq.fin [0] 1 zr zr)
theorem fJ.filter{α β:Type}{q:α→β→Prop}{l:List α}{r:List β}(h:fJ q l r){p1:α→Bool}{p2:β→Bool}(hp:∀x y,q x y→p1 x=p2 y):fJ q (l.filter p1) (r.filter p2):=by
 induction l generalizing r with
 | nil =>
  have:r=[]:=List.eq_nil_of_length_eq_zero h.1.symm
  subst this;exact fJ.nil
 | cons x l ih =>
  cases r with
  | nil=>exact absurd h.1 (by simp)
  | cons y r =>
   have h0:=h.2 0 x y zr zr
   have ht:fJ q l r:=⟨by have:=h.1;simpa using this,fun i a b ha hb=>h.2 (i+1) a b (by simpa using ha) (by simpa using hb)⟩
   rw[List.filter_cons,List.filter_cons,hp x y h0]
   split
   ·exact(ih ht).cons h0
   ·exact ih ht
theorem JC{fs:List (Nat × List UInt8 × List UInt8)}(hn:(fs.map (·.1)).Nodup){i f:Nat}{x:List UInt8 × List UInt8}(hi:fs[i]?=some (f,x)):Ab.nV fs f=fs.set i (f,x.1,x.1):=by
 induction fs generalizing i with
 | nil=>simp at hi
 | cons y l ih =>
  simp only[List.map_cons,List.nodup_cons]at hn
  cases i with
  | zero =>
   simp at hi
   subst hi
   simp only[Ab.nV,List.map_cons,if_true,List.set_cons_zero,List.cons.injEq,true_and]
   rw[List.map_congr_left (g:=id) (fun z hz=>?_),List.map_id]
   have:z.1≠f:=fun e=>hn.1 (List.mem_map.2 ⟨z,hz,e⟩)
   simp[this]
  | succ i =>
   simp at hi
   have ct:y.1≠f:=fun e=>hn.1 (List.mem_map.2 ⟨_,List.mem_of_getElem? hi,e.symm⟩)
   have:=ih hn.2 hi
   simp only[Ab.nV]at this
   simp only[Ab.nV,List.map_cons,ct,if_false,List.set_cons_succ,this]
theorem u6(fs:List (Nat × List UInt8 × List UInt8))(f:Nat):(Ab.nV fs f).map (·.1)=fs.map (·.1):=by
 simp only[Ab.nV,List.map_map]
 apply List.map_congr_left
 intro x _
 simp only[Function.comp]
 split <;> rfl
theorem Rel.synced{D:Dk}{A:Ab}(h:Rel D A){i f:Nat}{v1 v2 w:Value}(hi:D.files[i]?=some (f,v1,v2))(ha:A.fs[i]?=some (f,A.now f,A.sure f)) :
  Rel { D with files:=D.files.set i (f,v1,v1),lK:=w,wl:=D.wl.filter fun x => !decide (x.1=f) } { A with fs:=Ab.nV A.fs f,writes:=A.writes.filter fun x => !decide (x.1=f) } where
 room:=h.room
 off:=h.off
 names:=h.names
 aH:=h.aH
 fs:=by
  rw[JC h.ids ha]
  have h2:=h.fs.2 i _ _ hi ha
  exact fJ.set h.fs i ⟨rfl,h2.2.1,h2.2.1⟩
 writes:=fJ.filter h.writes (fun x y Em=>by rw[Em.1])
 dY:=h.dY
 ids:=by simp only[u6];exact h.ids
 known:=by simp only[u6];exact h.known
 gZ:=by
  simp only[u6]
  exact fun x hx=>h.gZ x (List.mem_filter.1 hx).1
 nodup:=h.nodup
 gl:=by
  intro x hx
  simp only[Ab.nV,List.mem_map]at hx
  obtain⟨y,hy,rfl⟩:=hx
  have:=h.gl y hy
  split
  ·exact⟨this.1,this.1⟩
  ·exact this
 iv:=fun x hx=>h.iv x (List.mem_filter.1 hx).1
 ff:=h.ff
 gY:=h.gY
 j5:=h.j5
 full:=h.full
theorem L4(bd:Nat)(D:Dk)(A:Ab)(hR:Rel D A)(name:ByteArray)(eA:A.writes.length≤1000000000) :
  aD Tryz.prog 94 [ptr bd,.string name] [gx bd D]
   (fun v H=>∃D',Rel D' (A.sync (isName name) name).2∧H=[gx bd D']∧v = .int .i64 (A.sync (isName name) name).1):=by
 refine aD.enter Tryz.func94 ak rfl Tryz.ntmps94 zr zr ?_
 intro G F R hE
 refine go ?_
 refine au (U:=ao) zr zr zr zr zr zr zr zr zr bp ?_
 intro b0
 refine go ?_
 refine ck [0] zr zr zr zr (iD _ _ [name] (Vw.ag rfl) (by simp)) rfl bE ?_
 rintro _ _⟨rfl,rfl⟩
 have e1:[name].all isName=isName name:=by simp
 rw[e1]
 refine go ?_
 refine ck [1] zr zr zr zr (iT bd D A hR name (isName name)) rfl bE ?_
 generalize lF:isName name=ok at hE ⊢
 rintro _ _⟨D',fh,rfl,rfl⟩
 by_cases mI:(A.find name ok).1=0
 ·obtain⟨S0,fl,qS,g9⟩:=lf mI
  have hw:A.sync ok name=(0,{ (A.find name ok).2.2 with fs:=Ab.nV (A.find name ok).2.2.fs fl,writes:=(A.find name ok).2.2.writes.filter fun x => !decide (x.1=fl) }):=by simp[Ab.sync,mI,qS]
  rw[hw]at hE
  rw[qS,mI]
  have ZJ:(A.find name ok).2.2.writes.length≤1000000000:=by rw[(mK A name ok).2.2.2.1];exact eA
  generalize (A.find name ok).2.2=A1 at *
  obtain⟨room,bm,kE,lK,oe,off,maps,fp,files,lB,wl⟩:=D'
  obtain⟨i,v1,v2,hi,yL,lC,tm⟩:=fh.file (f:=fl) (fh.known _ (List.mem_cons_self ..) _ g9)
  obtain⟨a,cap,rfl,iy⟩:=lC.shape
  refine go ?_
  refine aN (U:=ao) zr zr zr bp ?_
  intro c5
  refine go ?_
  refine aj (aq.pick [1] rfl) ?_
  refine aj (iz _ _ _ _ _ _ _ _ _ _ _ _ _) ?_
  refine aj (aq.pick [3] rfl) ?_
  refine aj (kF gq hi _) ?_
  refine aF (fun w=>Sat G w ([ag c5 (cl [ptr fl] 151),ag fl (cl [.slice a (A1.now fl).length cap,v2] 183)])) (.st 0 (.st 1 (.st 2 (.st 3 (.st 4 (.st 5 (.st 6 (.act 7 .nil)))))))) rfl ak ak ak (fun w hw=>hw.aX (aq.bF ([7,0]) rfl)) ?_
  refine go ?_
  refine aG (yh gq (y:=(fl,.slice a (A1.now fl).length cap,.slice a (A1.now fl).length cap)) hi _) ?_
  refine aG (aq.pick [6,0] rfl) ?_
  refine aG (aq.join _ _ _) ?_
  have Xc:(files.set i (fl,.slice a (A1.now fl).length cap,.slice a (A1.now fl).length cap)).map (·.1)=files.map (·.1):=by
   rw[List.map_set]
   apply List.ext_getElem?
   intro j
   rw[List.getElem?_set]
   split
   ·rename_i B9
    subst B9
    simp only[List.getElem?_map,hi,Option.map_some,List.length_map]
    rw[if_pos (by
     rcases Nat.lt_or_ge i files.length with h|h
     ·exact h
     ·rw[List.getElem?_eq_none h]at hi;cases hi)]
   ·rfl
  have hfi:=fh.XP
  simp only at hfi
  have ZI:∀x∈wl,(∃a n c,x.2.2 = .slice a n c)∧x.1∈files.map (·.1):=fun x hx=>by
   obtain⟨j,hj⟩:=List.getElem?_of_mem hx
   obtain⟨y,hy,h1,_,h3⟩:=fh.writes.left hj
   obtain⟨a,c,h4,_⟩:=h3.shape
   refine⟨⟨_,_,_,h4⟩,?_⟩
   rw[hfi,h1]
   exact fh.gZ y (List.mem_of_getElem? hy)
  refine ck [5,0] zr zr zr zr (uF lK wl (star (ag c5 (cl [ptr fl] 151)) (aQ gq (files.set i (fl,.slice a (A1.now fl).length cap,.slice a (A1.now fl).length cap)))) 154 [ptr c5] (fun x=>decide (x.1=fl)) (by have:=fh.writes.1;simp only at this;omega) (fun x hx=>(ZI x hx).1)
   (fun x hx=>IH c5 fl x.1 x.2.1 x.2.2 _ (by rw[Xc,hfi];exact List.mem_map.2 ⟨_,List.mem_of_getElem? yL,rfl⟩) (by rw[Xc];exact(ZI x hx).2) (by obtain⟨⟨a,n,c,h⟩,_⟩:=ZI x hx;rw[h];rfl))) rfl bE ?_
  rintro r _ rfl
  refine aM 0 rfl ?_
  rintro ar cr rfl
  refine go ?_
  refine aj (aq.pick [1] rfl) ?_
  refine aj (aq.part _ _ _) ?_
  refine aj (aq.pick [3,4,5,1,6,2] rfl) ?_
  refine aj (dL bd room bm kE _ oe off maps fp _ lB _ _) ?_
  refine ae hE Tryz.func94 rfl _ rfl ⟨_,fh.synced hi yL,rfl,rfl⟩ (aq.fin [0] 2 zr zr)
 ·have hw:A.sync ok name=((A.find name ok).1,(A.find name ok).2.2):=by simp[Ab.sync,mI]
  rw[hw]at hE
  cases AL:(A.find name ok).2.1 with
  | none =>
   refine go ?_
   refine aN (U:=ao) zr zr zr bp ?_
   intro c5
   refine go ?_
   refine eO zr zr ?_ ?_
   ·intro _
    refine go ?_
    refine ae hE Tryz.func94 rfl _ rfl ⟨D',fh,rfl,rfl⟩ (aq.fin [1] 2 zr zr)
   ·intro h;exfalso;have:=of_decide_eq_false h;omega
  | some fl =>
   refine go ?_
   refine aN (U:=ao) zr zr zr bp ?_
   intro c5
   refine go ?_
   refine eO zr zr ?_ ?_
   ·intro _
    refine go ?_
    refine ae hE Tryz.func94 rfl _ rfl ⟨D',fh,rfl,rfl⟩ (aq.fin [1] 2 zr zr)
   ·intro h;exfalso;have:=of_decide_eq_false h;omega
abbrev Fss:=List (Nat × List UInt8 × List UInt8)
def mark(S:List Nat)(fs:Fss):Fss:=fs.map fun x=>if x.1∈S then(x.1,x.2.2,x.2.2)else x
theorem E2(bd:Nat)(D:Dk)(A:Ab)(hR:Rel D A)(old name:ByteArray)(cE:A.aH.length≤1000000000) :
  aD Tryz.prog 159 [ptr bd,.string old,.string name] [gx bd D]
   (fun v H=>∃D',Rel D' (A.rename ([old,name].all isName) old name).2∧H=[gx bd D']∧v = .int .i64 (A.rename ([old,name].all isName) old name).1):=by
 refine aD.enter Tryz.func159 ak rfl Tryz.ntmps159 zr zr ?_
 intro G F R hE
 refine go ?_
 refine bq zr zr bp ?_
 intro wI
 refine bq zr zr bp ?_
 intro wH
 refine go ?_
 cases AL:(A.find old ([old,name].all isName)).2.1 with
 | none =>
  refine aF (fun w=>Sat G w ([ag wH (cl [.string name] 9),ag wI (cl [.string old] 9)])) (.st 0 (.st 1 (.st 2 (.st 3 (.fork (.act 4 (.fork (.act 5 (.fork (.act 6 (.st 7 (.st 8 (.st 9 (.act 10 (.act 11 (.st 12 .nil))))))) (.act 10 (.act 6 (.st 7 (.st 8 (.st 9 (.act 11 (.st 12 .nil))))))))) (.act 10 (.act 5 (.act 6 (.st 7 (.st 8 (.st 9 (.act 11 (.st 12 .nil)))))))))) (.act 10 (.act 4 (.act 5 (.act 6 (.st 7 (.st 8 (.st 9 (.act 11 (.st 12 .nil)))))))))))))) rfl ak ak ak (fun w hw=>hw.aX (aq.bF ([0,1]) rfl)) ?_
  repeat'(first|(with_reducible intro nT)|refine fk ?_|refine o5 ?_ ?_|refine aw zr zr ?_ ?_|(refine au (U:=ao) zr zr zr zr zr zr zr zr zr (fun _ w hw=>hw.aX (by first|exact aq.bF [1,2] rfl|exact aq.bF [2,3] rfl)) ?_;intro _)|(refine aN (U:=ao) zr zr zr (fun _ w hw=>hw.aX (by first|exact aq.bF [1,2] rfl|exact aq.bF [2,3] rfl|exact aq.bF [3,4] rfl)) ?_;intro _)|(refine ck [0] rfl rfl rfl rfl (iD _ _ [old,name] (Vw.ag rfl) (by simp)) rfl (fun _ _ w hp hw=>by obtain⟨_,rfl⟩:=hp;exact(fun _ w hw=>hw.aX (by first|exact aq.bF [1,2] rfl|exact aq.bF [2,3] rfl)) 0 w hw) ?_;rintro _ _⟨rfl,rfl⟩)|(refine ck [1] rfl rfl rfl rfl (iD _ _ [old,name] (Vw.ag rfl) (by simp)) rfl (fun _ _ w hp hw=>by obtain⟨_,rfl⟩:=hp;exact(fun _ w hw=>hw.aX (by(exact aq.bF [2,3] rfl))) 0 w hw) ?_;rintro _ _⟨rfl,rfl⟩)|(refine ck [3] rfl rfl rfl rfl (iT bd D A hR old ([old,name].all isName)) rfl (fun _ _ w hp hw=>by obtain⟨_,_,rfl,_⟩:=hp;exact(fun _ w hw=>hw.aX (by(exact aq.bF [2,3] rfl))) 0 w hw) ?_;rintro _ _⟨D',fh,rfl,rfl⟩;rw[AL])|(refine ck [4] rfl rfl rfl rfl (iT bd D A hR old ([old,name].all isName)) rfl (fun _ _ w hp hw=>by obtain⟨_,_,rfl,_⟩:=hp;exact(fun _ w hw=>hw.aX (by(exact aq.bF [3,4] rfl))) 0 w hw) ?_;rintro _ _⟨D',fh,rfl,rfl⟩;rw[AL])|(refine aS ?_;first|refine bI (U:=ao) 0 (fun w hw=>(fun _ w hw=>hw.aX (by(exact aq.bF [3,4] rfl))) 0 w hw) zr zr zr zr zr zr zr zr zr ?_|refine bI (U:=ao) 1 (fun w hw=>(fun _ w hw=>hw.aX (by(exact aq.bF [3,4] rfl))) 0 w hw) zr zr zr zr zr zr zr zr zr ?_|refine bI (U:=ao) 2 (fun w hw=>(fun _ w hw=>hw.aX (by(exact aq.bF [3,4] rfl))) 0 w hw) zr zr zr zr zr zr zr zr zr ?_))
  all_goals(
   have mI:¬(A.find old ([old,name].all isName)).1=0:=fun h=>by obtain⟨_,fl,h1,_⟩:=lf h;rw[AL]at h1;cases h1
   have hw:A.rename ([old,name].all isName) old name=((A.find old ([old,name].all isName)).1,(A.find old ([old,name].all isName)).2.2):=by
    unfold Ab.rename
    generalize A.find old ([old,name].all isName)=z at mI AL ⊢
    obtain⟨e,fo,A1⟩:=z
    simp only at AL
    subst AL
    cases e <;> rfl
   rw[hw]at hE
   first|(exfalso;omega)|refine ae hE Tryz.func159 rfl _ rfl ⟨D',fh,rfl,rfl⟩ (aq.fin [0] 4 zr zr)|refine ae hE Tryz.func159 rfl _ rfl ⟨D',fh,rfl,rfl⟩ (aq.fin [1] 4 zr zr))
 | some fl =>
  refine aF (fun w=>Sat G w ([ag wH (cl [.string name] 9),ag wI (cl [.string old] 9)])) (.st 0 (.st 1 (.st 2 (.st 3 (.fork (.act 4 (.fork (.act 5 (.fork (.act 6 (.st 7 (.st 8 (.st 9 (.act 10 (.act 11 (.st 12 .nil))))))) (.act 10 (.act 6 (.st 7 (.st 8 (.st 9 (.act 11 (.st 12 .nil))))))))) (.act 10 (.act 5 (.act 6 (.st 7 (.st 8 (.st 9 (.act 11 (.st 12 .nil)))))))))) (.act 10 (.act 4 (.act 5 (.act 6 (.st 7 (.st 8 (.st 9 (.act 11 (.st 12 .nil)))))))))))))) rfl ak ak ak (fun w hw=>hw.aX (aq.bF ([0,1]) rfl)) ?_
  repeat'(first|(with_reducible intro nT)|refine fk ?_|refine o5 ?_ ?_|refine aw zr zr ?_ ?_|(refine au (U:=ao) zr zr zr zr zr zr zr zr zr (fun _ w hw=>hw.aX (by first|exact aq.bF [1,2] rfl|exact aq.bF [2,3] rfl)) ?_;intro _)|(refine aN (U:=ao) zr zr zr (fun _ w hw=>hw.aX (by first|exact aq.bF [1,2] rfl|exact aq.bF [2,3] rfl|exact aq.bF [3,4] rfl)) ?_;intro _)|(refine ck [0] rfl rfl rfl rfl (iD _ _ [old,name] (Vw.ag rfl) (by simp)) rfl (fun _ _ w hp hw=>by obtain⟨_,rfl⟩:=hp;exact(fun _ w hw=>hw.aX (by first|exact aq.bF [1,2] rfl|exact aq.bF [2,3] rfl)) 0 w hw) ?_;rintro _ _⟨rfl,rfl⟩)|(refine ck [1] rfl rfl rfl rfl (iD _ _ [old,name] (Vw.ag rfl) (by simp)) rfl (fun _ _ w hp hw=>by obtain⟨_,rfl⟩:=hp;exact(fun _ w hw=>hw.aX (by(exact aq.bF [2,3] rfl))) 0 w hw) ?_;rintro _ _⟨rfl,rfl⟩)|(refine ck [3] rfl rfl rfl rfl (iT bd D A hR old ([old,name].all isName)) rfl (fun _ _ w hp hw=>by obtain⟨_,_,rfl,_⟩:=hp;exact(fun _ w hw=>hw.aX (by(exact aq.bF [2,3] rfl))) 0 w hw) ?_;rintro _ _⟨D',fh,rfl,rfl⟩;rw[AL])|(refine ck [4] rfl rfl rfl rfl (iT bd D A hR old ([old,name].all isName)) rfl (fun _ _ w hp hw=>by obtain⟨_,_,rfl,_⟩:=hp;exact(fun _ w hw=>hw.aX (by(exact aq.bF [3,4] rfl))) 0 w hw) ?_;rintro _ _⟨D',fh,rfl,rfl⟩;rw[AL])|(refine aS ?_;first|refine bI (U:=ao) 0 (fun w hw=>(fun _ w hw=>hw.aX (by(exact aq.bF [3,4] rfl))) 0 w hw) zr zr zr zr zr zr zr zr zr ?_|refine bI (U:=ao) 1 (fun w hw=>(fun _ w hw=>hw.aX (by(exact aq.bF [3,4] rfl))) 0 w hw) zr zr zr zr zr zr zr zr zr ?_|refine bI (U:=ao) 2 (fun w hw=>(fun _ w hw=>hw.aX (by(exact aq.bF [3,4] rfl))) 0 w hw) zr zr zr zr zr zr zr zr zr ?_))
  all_goals(
   have mI:(A.find old ([old,name].all isName)).1=0:=by
    rcases Nat.eq_zero_or_pos (A.find old ([old,name].all isName)).1 with h|h
    ·exact h
    ·exfalso
     unfold Ab.find at AL h
     split at AL
     ·rename_i h1
      rw[if_pos h1]at h
      cases hl:(A.meet ([old,name].all isName)).2.look old with
      | none=>rw[hl]at AL;cases AL
      | some f=>rw[hl]at h;simp at h
     ·cases AL)
  any_goals (exfalso;omega)
  all_goals(
   obtain⟨_,fl',Xo,g9⟩:=lf mI
   rw[AL]at Xo
   cases Xo
   have hw:A.rename ([old,name].all isName) old name=(0,(A.find old ([old,name].all isName)).2.2.nH (Ab.jt (Ab.dD (A.find old ([old,name].all isName)).2.2.names old) name fl)):=by
    unfold Ab.rename
    generalize A.find old ([old,name].all isName)=z at mI AL ⊢
    obtain⟨e,fo,A1⟩:=z
    simp only at mI AL
    subst mI AL
    rfl
   rw[hw]at hE
   have KS:(A.find old ([old,name].all isName)).2.2.aH.length≤1000000000:=by rw[(mK A old _).2.2.1];exact cE
   generalize (A.find old ([old,name].all isName)).2.2=A1 at *
   have KR:D'.lB.length≤1000000000:=by rw[fh.aH.1];exact KS
   have hN:=fh.ff _ (List.mem_cons_self ..)
   have cO:=N8 g9
   have tq:=JU (Ab.dD A1.names old) name fl
   have Ts:∀b' v,Rel { D' with bm:=b',maps:=(b',fg (Ab.jt (Ab.dD A1.names old) name fl))::D'.maps,kE:=v,lB:=D'.lB++[b'] } (A1.nH (Ab.jt (Ab.dD A1.names old) name fl)):=fun b' v=>fh.nH
    (fun x hx=>by
     rcases JT hx with rfl|hx
     ·have:=fh.known _ (List.mem_cons_self ..) _ g9;exact this
     ·exact fh.known _ (List.mem_cons_self ..) _ (Cv hx).1)
    (DO (wo (fh.nodup _ (List.mem_cons_self ..)) old) name fl) ai
   first|(refine aG (aq.pick ([4,0,3,1]) rfl) ?_;refine aG (aq.bL [_,_,_] _) ?_;refine ck [1,0] zr zr zr zr (lh (α:=Unit) bd D' A1.names fh.names 200 #[ptr wI,ptr _,ptr wH] _ (fun _=>Ab.jt (Ab.dD A1.names old) name fl) (fun _=>emp) (fun _=>True) (fun b'=>aD.post (oR b' wI _ wH fl A1.names old name) (fun v H h=>⟨(),trivial,h⟩)) KR) rfl bE ?_;rintro _ _⟨_,b',v,_,rfl⟩;refine go ?_;refine ae hE Tryz.func159 rfl _ rfl ⟨_,Ts b' v,rfl,rfl⟩ (aq.fin [0] 2 zr zr))|(refine aG (aq.pick ([4,1,3,0]) rfl) ?_;refine aG (aq.bL [_,_,_] _) ?_;refine ck [1,0] zr zr zr zr (lh (α:=Unit) bd D' A1.names fh.names 200 #[ptr wI,ptr _,ptr wH] _ (fun _=>Ab.jt (Ab.dD A1.names old) name fl) (fun _=>emp) (fun _=>True) (fun b'=>aD.post (oR b' wI _ wH fl A1.names old name) (fun v H h=>⟨(),trivial,h⟩)) KR) rfl bE ?_;rintro _ _⟨_,b',v,_,rfl⟩;refine go ?_;refine ae hE Tryz.func159 rfl _ rfl ⟨_,Ts b' v,rfl,rfl⟩ (aq.fin [0] 2 zr zr))|(refine aG (aq.pick ([4,2,3,0]) rfl) ?_;refine aG (aq.bL [_,_,_] _) ?_;refine ck [1,0] zr zr zr zr (lh (α:=Unit) bd D' A1.names fh.names 200 #[ptr wI,ptr _,ptr wH] _ (fun _=>Ab.jt (Ab.dD A1.names old) name fl) (fun _=>emp) (fun _=>True) (fun b'=>aD.post (oR b' wI _ wH fl A1.names old name) (fun v H h=>⟨(),trivial,h⟩)) KR) rfl bE ?_;rintro _ _⟨_,b',v,_,rfl⟩;refine go ?_;refine ae hE Tryz.func159 rfl _ rfl ⟨_,Ts b' v,rfl,rfl⟩ (aq.fin [0] 2 zr zr)))
end Go.Proofs.YthjbidjmgbjkiaaGreatDoor
namespace Go.Proofs.YthjbidjmgbjkiaaGreatDoor
open Go Go.SL
theorem LR{A:HP}{v:Value}{bs:List UInt8}(hv:Vw A v bs.length (bV bs))(h:0<bs.length):∃b o c,v = .slice (some ⟨b,o,none⟩) bs.length c:=hv.some (by cases bs with
 | nil=>simp at h
 | cons x l=>simp[bV])
theorem uS{bs:List UInt8}{i:Nat}(h:i<bs.length):(bV bs)[i]?=some (u8 (bs.getD i 0)):=by
 rw[List.getD_eq_getElem?_getD]
 simp[bV,h]
theorem vm{x q:Nat}(y:Nat)(h:x*2 ^ (min q 64)=y)(hy:y<9223372036854775808):Value.int .i64 (IntKind.i64.wrap ((x:Int)*2 ^ (min ((q:Int).toNat) IntKind.i64.bits))) = .int .i64 (y:Int):=by
 have e:(x:Int)*2 ^ (min ((q:Int).toNat) IntKind.i64.bits)=(y:Int):=by
  show(x:Int)*2 ^ (min q 64)=_
  rw[← h];push_cast;rfl
 rw[e,cD (by simp only[fz];omega)]
attribute [local irreducible] J K aD Ends ag az aL bK aZ aQ aV bg
theorem vE(n:Nat)(h:n<9223372036854775808):aD Tryz.prog 195 [.int .i64 (n:Int)] [] (fun v H=>∃b,v = .slice (some ⟨b,0,none⟩) 4 4∧H=[ag b (cl (bV (BR n)) 5)]):=by
 refine aD.enter Tryz.func195 ak rfl Tryz.ntmps195 zr zr ?_
 intro G F R hE
 (repeat(first|refine fk ?_|refine jJ (U:=ao) zr zr zr zr zr zr ?_|refine jg zr zr zr ai ?_))
 refine aB 4 (u8 (UInt8.ofNat n)) rfl (kA n) ?_
 refine aB 7 (u8 (UInt8.ofNat (n/256))) rfl (by rw[show(n:Int)/2 ^ (min (Int.toNat 8) IntKind.i64.bits)=((n/256:Nat):Int)from by show(n:Int)/256=_;omega];exact kA _) ?_
 refine aB 10 (u8 (UInt8.ofNat (n/65536))) rfl (by rw[show(n:Int)/2 ^ (min (Int.toNat 16) IntKind.i64.bits)=((n/65536:Nat):Int)from by show(n:Int)/65536=_;omega];exact kA _) ?_
 refine aB 13 (u8 (UInt8.ofNat (n/16777216))) rfl (by rw[show(n:Int)/2 ^ (min (Int.toNat 24) IntKind.i64.bits)=((n/16777216:Nat):Int)from by show(n:Int)/16777216=_;omega];exact kA _) ?_
 refine au (U:=ao) (cs:=bV (BR n)) zr zr zr zr zr zr zr zr zr bp ?_
 intro b
 refine go ?_
 ((refine ae hE Tryz.func195 rfl _ rfl ⟨b,rfl,rfl⟩ ad))
set_option maxRecDepth 20000 in
theorem AR(A:HP)(v:Value)(bs:List UInt8)(hv:Vw A v bs.length (bV bs))(h:4≤bs.length):aD Tryz.prog 180 [v] [A] (fun r H=>r = .int .i64 (pB bs:Int)∧H=[A]):=by
 obtain⟨b,o,c,rfl⟩:=LR hv ai
 have hx:∀x:UInt8,x.toNat<256:=fun x=>x.toNat_lt
 have h0:=hx (bs.getD 0 0);have h1:=hx (bs.getD 1 0);have h2:=hx (bs.getD 2 0);have h3:=hx (bs.getD 3 0)
 refine aD.enter Tryz.func180 ak rfl Tryz.ntmps180 zr zr ?_
 intro G F R hE
 refine go ?_
 refine aF (fun w=>Sat G w ([A])) (kE 0 23 .nil) rfl ak ak ak (fun w hw=>hw.aX ad) ?_
 refine go ?_
 refine cK (U:=ao) 0 zr zr zr zr zr zr zr zr ai ?_
 refine cz (U:=ao) 0 0 zr zr zr hv rfl (uS ai) zr zr ?_
 refine go ?_
 refine cK (U:=ao) 1 zr zr zr zr zr zr zr zr ai ?_
 refine cz (U:=ao) 0 1 zr zr zr hv rfl (uS ai) zr zr ?_
 refine go ?_
 refine mi zr zr zr ai ?_
 refine aB 11 (.int .i64 (((bs.getD 1 0).toNat*2 ^ 8:Nat):Int)) rfl (vm (q:=8) _ rfl ai) ?_
 refine go ?_
 refine aB 12 (.int .i64 (((bs.getD 0 0).toNat+(bs.getD 1 0).toNat*2 ^ 8:Nat):Int)) rfl (congrArg (Value.int .i64) (D8 ai ai)) ?_
 refine cK (U:=ao) 2 zr zr zr zr zr zr zr zr ai ?_
 refine cz (U:=ao) 0 2 zr zr zr hv rfl (uS ai) zr zr ?_
 refine go ?_
 refine mi zr zr zr ai ?_
 refine aB 17 (.int .i64 (((bs.getD 2 0).toNat*2 ^ 16:Nat):Int)) rfl (vm (q:=16) _ rfl ai) ?_
 refine go ?_
 refine aB 18 (.int .i64 (((bs.getD 0 0).toNat+(bs.getD 1 0).toNat*2 ^ 8+(bs.getD 2 0).toNat*2 ^ 16:Nat):Int)) rfl (congrArg (Value.int .i64) (D8 ai ai)) ?_
 refine cK (U:=ao) 3 zr zr zr zr zr zr zr zr ai ?_
 refine cz (U:=ao) 0 3 zr zr zr hv rfl (uS ai) zr zr ?_
 refine go ?_
 refine mi zr zr zr ai ?_
 refine aB 23 (.int .i64 (((bs.getD 3 0).toNat*2 ^ 24:Nat):Int)) rfl (vm (q:=24) _ rfl ai) ?_
 refine go ?_
 refine bj 2 (.int .i64 (pB bs:Int)) rfl (congrArg (Value.int .i64) (D8 ai ai)) ?_
 ((refine ae hE Tryz.func180 rfl _ rfl ⟨rfl,rfl⟩ ad))
theorem I2(A B:HP)(v1 v2:Value)(b1 b2:List UInt8)(h1:Vw A v1 b1.length (bV b1))(h2:Vw B v2 b2.length (bV b2)):aD Tryz.prog 181 [v1,v2] [A,B] (fun r H=>r = .bool (decide (b1=b2))∧H=[A,B]):=by
 obtain⟨a1,c1,rfl⟩:=h1.shape
 obtain⟨a2,c2,rfl⟩:=h2.shape
 refine aD.enter Tryz.func181 ak rfl Tryz.ntmps181 zr zr ?_
 intro G F R hE
 refine go ?_
 refine Ax (U:=ao) 0 zr zr zr zr zr zr zr zr zr h1 ?_
 refine go ?_
 refine Ax (U:=ao) 1 zr zr zr zr zr zr zr zr zr h2 ?_
 refine go ?_
 rw[yS]
 ((refine ae hE Tryz.func181 rfl _ rfl ⟨rfl,rfl⟩ ad))
set_option maxRecDepth 20000 in
theorem IU(a b:Nat)(ha:a<4294967296)(hb:b<4294967296):aD Tryz.prog 234 [.int .u64 (a:Int),.int .u64 (b:Int)] [] (fun r H=>r = .tuple #[.int .u64 0,.int .u64 ((a*b:Nat):Int)]∧H=[]):=by
 have vZ:a*b<18446744073709551616:=Nat.lt_of_lt_of_le (Nat.mul_lt_mul'' ha hb) ai
 have hw:∀x:Nat,x<18446744073709551616→IntKind.u64.wrap (x:Int)=(x:Int):=fun x hx=>cD (by simp only[fz];omega)
 have hm:∀x:Nat,x<4294967296→IntKind.u64.wrap ((BitVec.ofInt IntKind.u64.bits (x:Int) &&& BitVec.ofInt IntKind.u64.bits 4294967295).toNat:Int)=(x:Int):=fun x hx=>by
  have:=Al x 32 ai ai
  rw[show((2 ^ 32-1:Nat):Int)=4294967295 from rfl,show x%2 ^ 32=x from by omega]at this
  exact this
 have hs:∀x:Nat,x<4294967296→(x:Int)/2 ^ (min (Int.toNat 32) IntKind.u64.bits)=0:=fun x hx=>by show(x:Int)/4294967296=0;omega
 refine aD.enter Tryz.func234 ak rfl Tryz.ntmps234 zr zr ?_
 intro G F R hE
 refine go ?_
 refine aB 6 (.int .u64 (a:Int)) rfl (congrArg (Value.int .u64) (hm a ha)) ?_
 refine jg zr zr zr ai ?_
 refine aB 17 (.int .u64 0) rfl (congrArg (Value.int .u64) (hs a ha)) ?_
 refine go ?_
 refine aB 8 (.int .u64 (b:Int)) rfl (congrArg (Value.int .u64) (hm b hb)) ?_
 refine jg zr zr zr ai ?_
 refine aB 21 (.int .u64 0) rfl (congrArg (Value.int .u64) (hs b hb)) ?_
 refine go ?_
 refine gi zr zr zr (by rw[← Int.natCast_mul];simp only[fz];omega) ?_
 refine aB 24 (.int .u64 ((a*b:Nat):Int)) rfl (by rw[Int.natCast_mul]) ?_
 refine go ?_
 refine gi zr zr zr (by simp[fz]) ?_
 refine aB 27 (.int .u64 0) rfl (by simp) ?_
 refine go ?_
 refine jg zr zr zr ai ?_
 refine aB 29 (.int .u64 ((a*b/4294967296:Nat):Int)) rfl (congrArg (Value.int .u64) (by show((a*b:Nat):Int)/4294967296=_;omega)) ?_
 refine go ?_
 refine aB 11 (.int .u64 ((a*b/4294967296:Nat):Int)) rfl (congrArg (Value.int .u64) ai) ?_
 refine go ?_
 have hq:a*b/4294967296<4294967296:=by omega
 refine aB 12 (.int .u64 ((a*b/4294967296:Nat):Int)) rfl (congrArg (Value.int .u64) (by rw[show(0:Int)+((a*b/4294967296:Nat):Int)=((a*b/4294967296:Nat):Int)from by omega];exact hm _ hq)) ?_
 refine jg zr zr zr ai ?_
 refine aB 34 (.int .u64 0) rfl (congrArg (Value.int .u64) (by simp only[Int.zero_add,Int.add_zero];exact hs _ hq)) ?_
 refine go ?_
 refine gi zr zr zr (by simp[fz]) ?_
 refine aB 38 (.int .u64 0) rfl (by simp) ?_
 refine go ?_
 refine gi zr zr zr (by simp[fz]) ?_
 refine aB 42 (.int .u64 0) rfl (by simp) ?_
 refine go ?_
 refine jg zr zr zr ai ?_
 refine aB 46 (.int .u64 0) rfl (congrArg (Value.int .u64) (by rw[show((a*b/4294967296:Nat):Int)+0=((a*b/4294967296:Nat):Int)from by omega];exact hs (a*b/4294967296) hq)) ?_
 refine go ?_
 refine gi zr zr zr (by rw[← Int.natCast_mul];simp only[fz];omega) ?_
 refine aB 50 (.int .u64 ((a*b:Nat):Int)) rfl (by rw[Int.natCast_mul]) ?_
 refine go ?_
 ((refine ae hE Tryz.func234 rfl _ rfl ⟨rfl,rfl⟩ ad))
theorem Ol(a b:Nat)(ha:a<4294967296)(hb:b<4294967296):aD Tryz.prog 214 [.int .u64 (a:Int),.int .u64 (b:Int)] [] (fun r H=>r = .tuple #[.int .u64 0,.int .u64 ((a*b:Nat):Int)]∧H=[]):=by
 refine aD.enter Tryz.func214 ak rfl Tryz.ntmps214 zr zr ?_
 intro G F R hE
 refine go ?_
 ((refine ah zr zr zr zr (IU a b ha hb) ad ?_ bE))
 rintro _ _⟨rfl,rfl⟩
 refine go ?_
 ((refine ae hE Tryz.func214 rfl _ rfl ⟨rfl,rfl⟩ ad))
set_option maxRecDepth 20000 in
theorem CM(v:Value)(bs:List UInt8)(h0:0<bs.length)(hl:bs.length≤1000) :
  aD Tryz.prog 194 [v,.int .i64 2] [az 5 1 v bs.length (bV bs)] (fun r H=>H=[az 5 1 r (bs++bs).length (bV (bs++bs))]):=by
 refine aD.enter Tryz.func194 ak rfl Tryz.ntmps194 zr zr ?_
 intro G F R hE
 refine T5 0 rfl h0 ?_
 rintro b o c rfl hc _ dj
 refine go ?_
 ((refine ah zr zr zr zr (Ol bs.length 2 ai ai) ad ?_ bE))
 rintro _ _⟨rfl,rfl⟩
 repeat'(first|(with_reducible intro nT)|refine fk ?_|refine aw zr zr ?_ ?_)
 any_goals (exfalso;omega)
 obtain⟨N,hN⟩:∃N,N=bs.length*2:=⟨_,rfl⟩
 rw[← hN]
 refine AB (U:=ao) (t:=39) (elem:=5) (q:=N) rfl Tryz.func215 zr zr ak zr zr zr zr ai (fun _ _ _ _=>trivial) ?_
 intro nb c2 l oD qC
 refine go ?_
 refine IX (U:=ao) (q:=(N:Int)) (r:=(N:Int)) zr zr zr zr zr zr zr ai ai ai ?_
 refine aB 57 (.slice (some ⟨nb,0,none⟩) N N) rfl (by rw[show((N:Int)).toNat=N from by omega];rw[gP]) ?_
 refine go ?_
 refine Gz (U:=ao) (src:=bV bs) (mm:=bs.length) (l':=bV bs++l.drop bs.length) 0 1 zr zr zr zr zr zr zr zr dj (by show _=_*1;rw[bt];omega) (fun u hu=>cC bs u (List.mem_of_mem_take hu)) (by show 0+_*1≤_;omega) ?_ rfl fR ?_
 ·show _=List.take 0 l++List.take (min bs.length N*1) (bV bs)++List.drop (0+min bs.length N*1) l
  rw[show min bs.length N*1=bs.length from by omega,List.take_of_length_le (l:=bV bs) (by rw[bt];omega)]
  simp
 rw[show((min bs.length N:Nat):Int)=(bs.length:Int)from by omega]
 refine go ?_
 refine bo (fun _:Bool=>True) (fun s=>bif s then 0 else 1)
  (fun s=>[(7,.int .i64 (N:Int)),(8,.int .i64 (N:Int)),(9,.slice (some ⟨nb,0,none⟩) N N),(10,.int .i64 ((bif s then N else bs.length:Nat):Int))])
  (fun s=>ag nb (cl (bif s then bV (bs++bs)++l.drop N else bV bs++l.drop bs.length) 5)::F) false trivial rfl bY ad ?_
 rintro s _ ih
 cases s with
 | true =>
  repeat'(first|(with_reducible intro nT)|refine fk ?_|refine aw zr zr ?_ ?_)
  any_goals (exfalso;simp only[cond_true]at *;omega)
  simp only[cond_true]
  refine aj (dZ 5 1 nb N N (bV (bs++bs)) (l.drop N) _ (by rw[bt,List.length_append];omega) (Nat.le_refl _) (by rw[bt,List.length_append,List.length_drop];omega)) ?_
  rw[show N=(bs++bs).length from by rw[List.length_append];omega]
  ((refine ae hE Tryz.func194 rfl _ zr zr ad))
 | false =>
  repeat'(first|(with_reducible intro nT)|refine fk ?_|refine aw zr zr ?_ ?_)
  any_goals (exfalso;simp only[cond_false]at *;omega)
  simp only[cond_false]
  rw[show min (bs.length:Int) (N:Int)=(bs.length:Int)from by omega]
  refine aF (fun w=>Sat G w ([])) (kE 0 7 (.act 7 (kE 8 2 .nil))) rfl ak ak ak (fun w hw=>hw.aX ad) ?_
  refine go ?_
  refine bG (U:=ao) (p:=(bs.length:Int)) (q:=(N:Int)) zr zr zr zr zr zr zr ai ai (.inl rfl) ?_
  refine aB 70 (.slice (some ⟨nb,bs.length,none⟩) bs.length bs.length) rfl (by rw[show((N:Int)).toNat=N from by omega,show((bs.length:Int)).toNat=bs.length from by omega,show N-bs.length=bs.length from by omega];show Value.slice (sliceAt _ N bs.length 1) _ _=_;rw[rh _ _ _ _ _ ai,Nat.zero_add,Nat.mul_one]) ?_
  refine go ?_
  refine bG (U:=ao) (p:=0) (q:=(bs.length:Int)) zr zr zr zr zr zr zr ai ai (.inr ai) ?_
  refine aB 73 (.slice (some ⟨nb,0,none⟩) bs.length N) rfl (by rw[show(0:Int).toNat=0 from rfl,show((bs.length:Int)).toNat=bs.length from by omega,gP];rfl) ?_
  refine Gz (U:=ao) (src:=bV bs) (mm:=bs.length) (l':=bV (bs++bs)++l.drop N) 0 0 zr zr zr zr zr zr zr zr (Vw.ag (by simp)) (by show _=_*1;rw[bt];omega) (fun u hu=>cC bs u (List.mem_of_mem_take hu)) (by show bs.length+_*1≤_;rw[List.length_append,bt,List.length_drop];omega) ?_ rfl (fun _ hw=>hw.aX (aq.Oz _)) ?_
  ·show _=List.take bs.length _++List.take (min bs.length bs.length*1) (bV bs)++List.drop (bs.length+min bs.length bs.length*1) _
   rw[show min bs.length bs.length*1=bs.length from by omega,List.take_of_length_le (l:=bV bs) (by rw[bt];omega),List.take_left' (bt bs),List.drop_append,bt,show(bV bs).drop (bs.length+bs.length)=[]from List.drop_eq_nil_of_le (by rw[bt];omega),List.drop_drop,show bs.length+(bs.length+bs.length-bs.length)=N from by omega]
   simp[bV]
  rw[show((min bs.length bs.length:Nat):Int)=(bs.length:Int)from by omega]
  refine go ?_
  refine bj 10 (.int .i64 (N:Int)) rfl (congrArg (Value.int .i64) ai) ?_
  refine aO ih true rfl trivial (by simp) bY ad
def cJ(n m:Nat):List UInt8:=(BR n++BR m)++(BR n++BR m)
theorem mG(n m:Nat):(cJ n m).length=16:=rfl
theorem vX(n m:Nat)(h:n<9223372036854775808)(h2:m<9223372036854775808):aD Tryz.prog 140 [.int .i64 (n:Int),.int .i64 (m:Int)] [] (fun r H=>H=[az 5 1 r (cJ n m).length (bV (cJ n m))]):=by
 refine aD.enter Tryz.func140 ak rfl Tryz.ntmps140 zr zr ?_
 intro G F R hE
 refine go ?_
 ((refine ah zr zr zr zr (vE n h) ad ?_ bE))
 rintro _ _⟨b1,rfl,rfl⟩
 refine go ?_
 ((refine ah zr zr zr zr (vE m h2) ad ?_ bE))
 rintro _ _⟨b2,rfl,rfl⟩
 ((refine aG (aq.pick [1] rfl) ?_))
 ((refine aG (dZ 5 1 b1 4 4 (bV (BR n)) [] _ rfl (Nat.le_refl _) (by simp[bt,zO])) ?_))
 refine bh (U:=ao) (mm:=4) (news:=bV (BR m)) 0 1 zr zr zr zr zr zr zr zr zr zr zr zr (Vw.ag rfl) rfl (cC _) ai (by show(4+4)*1≤_;omega) (fun _=>rfl) bp ?_
 intro v1
 rw[show bV (BR n)++bV (BR m)=bV (BR n++BR m)from by simp[bV],show 4+4=(BR n++BR m).length from rfl]
 ((refine ah zr zr zr zr (CM v1 (BR n++BR m) (by simp[zO]) (by simp[zO])) ad ?_ bE))
 rintro r _ rfl
 refine go ?_
 ((refine ae hE Tryz.func140 rfl _ zr zr ad))
end Go.Proofs.YthjbidjmgbjkiaaGreatDoor
