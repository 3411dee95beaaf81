import Derived.Test.YtdigdgohdpeebaaGreatDoorQPW2
import Derived.Test.YtdigdgohdpeebaaGreatDoorQPW3
import Derived.Test.YtdigdgohdpeebaaGreatDoorQPW4
set_option linter.unusedSectionVars false
set_option linter.unusedSimpArgs false
set_option linter.unusedVariables false
set_option linter.defProp false
namespace Go.Proofs.YtdigdgohdpeebaaGreatDoor
open Go Go.SL
variable{A:Ab}{k:ByteArray}{D:Dk}{dK:Int}{files:List (Nat × Value × Value)}{b n s stay:List UInt8}{x:List UInt8 × List UInt8}{f i j:Nat}{v1 v2 w:Value}{arrs':fC}
attribute [local irreducible] J K aE Ends ae az aQ bP bj aT aU
def fresh(l:List Nat):∃n,n ∉ l:=by
  suffices h:∃n,∀x∈l,x<n from let ⟨n,hn⟩:=h;⟨n,fun hx=>Nat.lt_irrefl _ (hn n hx)⟩
  induction l with
  | nil=>exact⟨0,by simp⟩
  | cons a l ih =>
    obtain⟨n,hn⟩:=ih
    exact⟨max n (a+1),fun x hx=>by
      rcases List.mem_cons.1 hx with rfl|h
      · omega
      · have:=hn x h;omega⟩
def HM{G:cI}{w:World}{H:List HP}{x:Nat × Value × Value}(hs:Sat G w (ff x::aT ff files::H)):x.1 ∉ files.map (·.1):=by
 intro hx
 obtain⟨y,hy,he⟩:=List.mem_map.1 hx
 obtain⟨i,hi⟩:=List.getElem?_of_mem hy
 have h1:=hs.cN ((ao.perm (List.Perm.swap _ _ _)).trans ((ie ff hi _).trans (ao.pick [2,0] rfl)))
 unfold ff at h1
 exact h1.ne he.symm
def I4(A:Ab)(may:Bool):(A.meet may).2.fs=A.fs∧(A.meet may).2.names=A.names∧(A.meet may).2.aw=A.aw∧(A.meet may).2.writes=A.writes∧(A.meet may).2.room=A.room:=by
 unfold Ab.meet
 split
 ·simp
 split
 ·simp
 split
 ·simp
 split
 ·simp
 split <;> simp
def Rel.ni(h:Rel D A){b':Nat}{v:Value}{nm:List (ByteArray × Nat)}(hk:∀x∈nm,x.2∈A.fs.map (·.1))(hn:(nm.map (·.1)).Nodup)(hl:nm.length≤200) :
  Rel { D with bm:=b',maps:=(b',eR nm)::D.maps,kj:=v,gC:=D.gC++[b'] } (A.ni nm) where
 room:=h.room
 off:=h.off
 names:=by simp[Ab.ni]
 aw:=e7.snoc (h.aw.mono fun b es hb=>List.mem_cons_of_mem _ hb) (by simp)
 fs:=h.fs
 writes:=h.writes
 dS:=h.dS
 ids:=h.ids
 known:=by
  intro st cL
  simp only[Ab.ni,List.mem_cons,List.mem_append,List.not_mem_nil,or_false]at cL
  rcases cL with rfl|cL|rfl
  ·exact hk
  ·exact h.known _ (List.mem_cons_of_mem _ cL)
  ·exact hk
 gX:=h.gX
 nodup:=by
  intro st cL
  simp only[Ab.ni,List.mem_cons,List.mem_append,List.not_mem_nil,or_false]at cL
  rcases cL with rfl|cL|rfl
  ·exact hn
  ·exact h.nodup _ (List.mem_cons_of_mem _ cL)
  ·exact hn
 gD:=h.gD
 il:=h.il
 fG:=by
  intro st cL
  simp only[Ab.ni,List.mem_cons,List.mem_append,List.not_mem_nil,or_false]at cL
  rcases cL with rfl|cL|rfl
  ·exact hl
  ·exact h.fG _ (List.mem_cons_of_mem _ cL)
  ·exact hl
 im:=h.im
 kq:=h.kq
 full:=by simp[Ab.ni]
def Rel.Sj(h:Rel D A)(hf:f ∉ A.fs.map (·.1)):Rel { D with files:=(f,.slice none 0 0,.slice none 0 0)::D.files } { A with fs:=(f,[],[])::A.fs } where
 room:=h.room
 off:=h.off
 names:=h.names
 aw:=h.aw
 fs:=h.fs.cons ⟨rfl,kM.nil _ _ _,kM.nil _ _ _⟩
 writes:=h.writes
 dS:=h.dS
 ids:=by simp only[List.map_cons,List.nodup_cons];exact⟨hf,h.ids⟩
 known:=fun st cL x hx=>List.mem_cons_of_mem _ (h.known st cL x hx)
 gX:=fun x hx=>List.mem_cons_of_mem _ (h.gX x hx)
 nodup:=h.nodup
 gD:=fun x hx=>by
  rcases List.mem_cons.1 hx with rfl|hx
  ·simp
  ·exact h.gD x hx
 il:=h.il
 fG:=h.fG
 im:=h.im
 kq:=h.kq
 full:=h.full
def e7.ids{q:Nat × Value × Value→Nat × List UInt8 × List UInt8→Prop}{l:List (Nat × Value × Value)}{r:List (Nat × List UInt8 × List UInt8)}(h:e7 q l r)(hq:∀x y,q x y→x.1=y.1):l.map (·.1)=r.map (·.1):=by
 apply List.ext_getElem?
 intro i
 simp only[List.getElem?_map]
 cases hx:l[i]? with
 | none =>
  have:r[i]?=none:=by rw[List.getElem?_eq_none_iff]at hx ⊢;rw[← h.1];exact hx
  rw[this];rfl
 | some x =>
  obtain⟨y,hy,wm⟩:=h.left hx
  rw[hy]
  simp[hq x y wm]
def Rel.abS(h:Rel D A):D.files.map (·.1)=A.fs.map (·.1):=e7.ids h.fs fun x y wm=>wm.1
def Nr{l:List (ByteArray × Nat)}(h:Ab.cM l k=none):Ab.jT l k f=l++[(k,f)]:=by simp[Ab.jT,h]
def Iy(bd:Nat)(D:Dk)(A:Ab)(hR:Rel D A)(name:ByteArray)(cL:A.aw.length≤1000000000) :
  aE Tryz.prog 79 [ptr bd,.string name] [hJ bd D]
   (fun v H=>∃f D',f ∉ A.fs.map (·.1)∧Rel D' (A.create (isName name) name f).2∧H=[hJ bd D']∧v = .int .i64 (A.create (isName name) name f).1):=by
 refine aE.au Tryz.func79 Tryz.ntmps79 fun G F R hE=>?_
 refine go ?_
 refine bG zr zr bD ?_
 intro box
 refine go ?_
 refine aj zr zr zr zr zr zr zr zr zr bD ?_
 intro b0
 refine go ?_
 refine cF [0] zr zr zr zr (jC _ _ [name] (Vw.ae rfl) (by simp)) rfl mO ?_
 rintro _ _⟨rfl,rfl⟩
 have e1:[name].all isName=isName name:=by simp
 rw[e1]
 refine go ?_
 refine cF [2] zr zr zr zr (yh bd D A hR (isName name)) rfl mO ?_
 rintro _ _⟨D',gq,rfl,rfl⟩
 obtain⟨f0,hf0⟩:=fresh (A.fs.map (·.1))
 have hmf:=I4 A (isName name)
 refine go ?_
 refine fQ zr zr ?_ ?_
 ·intro h0
  have nY:¬(A.meet (isName name)).1=0:=by have:=of_decide_eq_true h0;omega
  have hf:A.create (isName name) name f0=((A.meet (isName name)).1,(A.meet (isName name)).2):=by simp[Ab.create,nY]
  refine go ?_
  refine aL hE Tryz.func79 rfl _ rfl ⟨f0,D',hf0,by rw[hf];exact gq,rfl,by rw[hf];rfl⟩ (ao.fin [0] 2 zr zr)
 ·intro h0
  have nY:(A.meet (isName name)).1=0:=by have:=of_decide_eq_false h0;omega
  obtain⟨room,bm,kj,oE,nL,off,maps,eg,files,gC,wl⟩:=D'
  have OH:gC.length≤1000000000:=by have:=gq.aw.1;simp only at this;rw[this,hmf.2.2.1];exact cL
  refine ai (iZ _ _ _ _ _ _ _ _ _ _ _ _ _) ?_
  refine aH (fun w=>Sat G w ([ae bd (cl [.int .i64 room,.map (some bm),kj,oE,nL,.bool off] 60),aT kZ maps,ae box (cl [.string name] 9)])) (df 0 11 .nil) rfl ak ak ak (fun w hw=>hw.cN (ao.bE ([0,1,7]) rfl)) ?_
  refine go ?_
  refine qC (U:=aS) rfl wj zr zr zr zr zr zr zr (fun w hw=>jW (i:=1) hw rfl gq.names) ?_
  rw[ph]
  cases hl:Ab.cM (A.meet (isName name)).2.names name with
  | some fl =>
   have hf:A.create (isName name) name f0=(5,(A.meet (isName name)).2):=by simp[Ab.create,nY,Ab.look,hl]
   refine go ?_
   refine ai ((ao.pick [0,1,2,3,4,5] rfl).trans (ep _ _ _ _ _ _ _ _ _ _ _ _ _)) ?_
   refine aL hE Tryz.func79 rfl _ rfl ⟨f0,_,hf0,by rw[hf];exact gq,rfl,by rw[hf];rfl⟩ (ao.fin [0] 2 zr zr)
  | none =>
   refine go ?_
   refine Mt (kv:=Value.string) (U:=aS) zr zr zr zr (fun w hw=>jW (i:=1) hw rfl gq.names) ?_
   have qX:(eR (A.meet (isName name)).2.names).length=(A.meet (isName name)).2.names.length:=by simp[eR]
   rw[qX]
   refine go ?_
   refine aq zr zr ?_ ?_
   ·intro EL
    have hf:A.create (isName name) name f0=(3,(A.meet (isName name)).2):=by simp[Ab.create,nY,Ab.look,hl];omega
    refine go ?_
    refine ai ((ao.pick [0,1,2,3,4,5] rfl).trans (ep _ _ _ _ _ _ _ _ _ _ _ _ _)) ?_
    refine aL hE Tryz.func79 rfl _ rfl ⟨f0,_,hf0,by rw[hf];exact gq,rfl,by rw[hf];rfl⟩ (ao.fin [0] 2 zr zr)
   ·intro EL
    refine go ?_
    refine aI ((ao.pick [0,1,2,3,4,5] rfl).trans (ep _ _ _ _ _ _ _ _ _ _ _ _ _)) ?_
    refine cF [0,2] zr zr zr zr (mA (α:=Nat) bd _ _ gq.names 137 #[ptr box] (ae box (cl [.string name] 9)) (fun f=>Ab.jT (A.meet (isName name)).2.names name f) (fun f=>ff (f,.slice none 0 0,.slice none 0 0)) (fun _=>True) (fun b'=>F0 b' box _ name) OH) rfl mO ?_
    rintro _ _⟨f,b',v,_,rfl⟩
    refine go ?_
    refine ai (iZ _ _ _ _ _ _ _ _ _ _ _ _ _) ?_
    refine ai (ao.pick [6,3] rfl) ?_
    refine rX fun⟨w,hw⟩=>?_
    have hff:f ∉ A.fs.map (·.1):=by have:=HM hw;have h2:=gq.abS;simp only at h2;rw[h2,hmf.1]at this;exact this
    clear hw
    refine ai (qJ ff (f,.slice none 0 0,.slice none 0 0) files _) ?_
    have oB:(A.meet (isName name)).2.look name=none:=hl
    have hf:A.create (isName name) name f=(0,{ (A.meet (isName name)).2.ni ((A.meet (isName name)).2.names++[(name,f)])with fs:=(f,[],[])::(A.meet (isName name)).2.fs }):=by
     simp only[Ab.create,nY,if_true,oB,Option.isSome_none,Bool.false_eq_true,if_false]
     rw[if_neg ag]
    have iq:Ab.jT (A.meet (isName name)).2.names name f=(A.meet (isName name)).2.names++[(name,f)]:=Nr hl
    have Ry:name ∉ (A.meet (isName name)).2.names.map (·.1):=fun h=>by have:=oU.2 h;rw[hl]at this;cases this
    have Pj:=(gq.Sj (f:=f) (by rw[hmf.1];exact hff)).ni (b':=b') (v:=v) (nm:=(A.meet (isName name)).2.names++[(name,f)])
     (fun x hx=>by
      rcases List.mem_append.1 hx with hx|hx
      ·exact List.mem_cons_of_mem _ (gq.known _ (List.mem_cons_self ..) x hx)
      ·simp only[List.mem_singleton]at hx;subst hx;exact List.mem_cons_self ..)
     (by
      rw[List.map_append,List.nodup_append]
      exact⟨gq.nodup _ (List.mem_cons_self ..),by simp,fun a ha b hb=>by simp at hb;subst hb;rintro rfl;exact Ry ha⟩)
     (by rw[List.length_append];simp only[List.length_singleton];omega)
    rw[iq]
    refine ai (ao.pick [1,2,3,0,4,5] rfl) ?_
    refine ai (ep bd room b' _ oE nL off _ eg _ (gC++[b']) wl _) ?_
    refine aL hE Tryz.func79 rfl _ rfl ⟨f,_,hff,by rw[hf];exact Pj,rfl,by rw[hf];rfl⟩ (ao.fin [0] 1 zr zr)
def PT(bd:Nat)(D:Dk)(A:Ab)(hR:Rel D A)(name:ByteArray) :
  aE Tryz.prog 118 [ptr bd,.string name] [hJ bd D] (fun v H=>H=[hJ bd D]∧v = .tuple #[.int .i64 (A.size name).1,.int .i64 (A.size name).2]):=by
 obtain⟨room,bm,kj,oE,nL,off,maps,eg,files,gC,wl⟩:=D
 refine aE.au Tryz.func118 Tryz.ntmps118 fun G F R hE=>?_
 refine ai (iZ _ _ _ _ _ _ _ _ _ _ _ _ _) (go ?_)
 refine qD (U:=aS) rfl wj zr zr zr zr zr zr zr (fun w hw=>jW (i:=1) hw rfl hR.names) ?_
 rw[ph]
 cases hl:Ab.cM A.names name with
 | none =>
  have hs:A.size name=(0,4):=by simp[Ab.size,Ab.look,hl]
  rw[hs]at hE
  refine go ?_
  refine ai ((ao.pick [0,1,2,3,4,5] rfl).trans (ep _ _ _ _ _ _ _ _ _ _ _ _ _)) ?_
  refine aL hE Tryz.func118 rfl _ rfl ⟨rfl,rfl⟩ (ao.fin [0] 0 zr zr)
 | some fl =>
  have hs:A.size name=((A.now fl).length,0):=by simp[Ab.size,Ab.look,hl]
  rw[hs]at hE
  obtain⟨i,v1,v2,hi,mS,lz,ry⟩:=hR.file (f:=fl) (hR.known _ (List.mem_cons_self ..) _ (p9 hl))
  obtain⟨a,cap,rfl,jx⟩:=lz.shape
  refine go ?_
  refine xg (U:=aS) zr zr (fun w hw=>tU (i:=3) hw rfl hi) zr zr ?_
  refine go ?_
  refine ai ((ao.pick [0,1,2,3,4,5] rfl).trans (ep _ _ _ _ _ _ _ _ _ _ _ _ _)) ?_
  refine aL hE Tryz.func118 rfl _ rfl ⟨rfl,rfl⟩ (ao.fin [0] 0 zr zr)
def PX(bd:Nat)(D:Dk)(A:Ab)(hR:Rel D A)(name:ByteArray)(at_ n:Int) :
  aE Tryz.prog 119 [ptr bd,.string name,.int .i64 at_,.int .i64 n] [hJ bd D]
   (fun v H=>∃r,H=[az 5 1 r (A.read name at_ n).1.length (bV (A.read name at_ n).1),hJ bd D]∧v = .tuple #[r,.int .i64 (A.read name at_ n).2]):=by
 obtain⟨room,bm,kj,oE,nL,off,maps,eg,files,gC,wl⟩:=D
 have ji:=hR.off
 simp only at ji
 refine aE.au Tryz.func119 Tryz.ntmps119 fun G F R hE=>?_
 refine ai (iZ _ _ _ _ _ _ _ _ _ _ _ _ _) ?_
 cases off with
 | true =>
  have hs:A.read name at_ n=([],7):=by simp[Ab.read,← ji]
  rw[hs]at hE
  refine go ?_
  refine ai ((ao.pick [0,1,2,3,4,5] rfl).trans (ep _ _ _ _ _ _ _ _ _ _ _ _ _)) ?_
  refine ai (bO 5 1 none _) ?_
  refine aL hE Tryz.func119 rfl _ rfl ⟨_,rfl,rfl⟩ (ao.fin [0,1] 0 zr zr)
 | false =>
  refine go ?_
  refine qD (U:=aS) rfl wj zr zr zr zr zr zr zr (fun w hw=>jW (i:=1) hw rfl hR.names) ?_
  rw[ph]
  cases hl:Ab.cM A.names name with
  | none =>
   have hs:A.read name at_ n=([],4):=by simp[Ab.read,Ab.look,hl,← ji]
   rw[hs]at hE
   refine go ?_
   refine ai ((ao.pick [0,1,2,3,4,5] rfl).trans (ep _ _ _ _ _ _ _ _ _ _ _ _ _)) ?_
   refine ai (bO 5 1 none _) ?_
   refine aL hE Tryz.func119 rfl _ rfl ⟨_,rfl,rfl⟩ (ao.fin [0,1] 0 zr zr)
  | some fl =>
   have hs:A.read name at_ n=if at_<0∨n<0∨((A.now fl).length:Int)<at_∨((A.now fl).length:Int)-at_<n then([],1)else(((A.now fl).drop at_.toNat).take n.toNat,0):=by simp[Ab.read,Ab.look,hl,← ji]
   obtain⟨i,v1,v2,hi,mS,lz,ry⟩:=hR.file (f:=fl) (hR.known _ (List.mem_cons_self ..) _ (p9 hl))
   obtain⟨a,cap,rfl,jx⟩:=lz.shape
   have u6:=(hR.small fl).1
   have lO:∀(h:at_<0∨n<0∨((A.now fl).length:Int)<at_∨((A.now fl).length:Int)-at_<n),A.read name at_ n=([],1):=fun h=>by rw[hs,if_pos h]
   repeat'(first|(with_reducible intro pH)|refine gO ?_|refine iy zr zr zr zr ?_ ?_|refine aq zr zr ?_ ?_|refine xg (U:=aS) zr zr (fun w hw=>tU (i:=3) hw rfl hi) zr zr ?_)
   any_goals (
    have sC:=lO ag
    rw[sC]at hE
    refine ai ((ao.pick [0,1,2,3,4,5] rfl).trans (ep _ _ _ _ _ _ _ _ _ _ _ _ _)) ?_
    refine ai (bO 5 1 none _) ?_
    refine aL hE Tryz.func119 rfl _ rfl ⟨_,rfl,rfl⟩ (ao.fin [0,1] 0 zr zr))
   refine bB zr zr zr zr zr zr zr ag ag (.inr ag) ?_
   have hr:A.read name at_ n=(((A.now fl).drop at_.toNat).take n.toNat,0):=by rw[hs,if_neg ag]
   have lN:=lz.cut at_.toNat n.toNat ag
   have hlen:(((A.now fl).drop at_.toNat).take n.toNat).length=n.toNat:=by rw[List.length_take,List.length_drop];omega
   refine aB 61 (.slice (sliceAt a cap at_.toNat 1) (((A.now fl).drop at_.toNat).take n.toNat).length (cap-at_.toNat)) rfl (by rw[hlen];congr 1;omega) ?_
   have Tl:kM eg (.slice (sliceAt a cap at_.toNat 1) (((A.now fl).drop at_.toNat).take n.toNat).length (cap-at_.toNat)) (((A.now fl).drop at_.toNat).take n.toNat):=by rw[hlen];exact lN
   rw[hr]at hE
   clear lN hr hs lO
   generalize XS:((A.now fl).drop at_.toNat).take n.toNat=bs at hE Tl hlen ⊢
   refine go ?_
   refine cF [2] zr zr zr zr (ll _ _ bs (Tl.view _) ag) rfl mO ?_
   rintro r _ rfl
   refine go ?_
   refine ai (ao.pick [2,3,1,4,5,6] rfl) ?_
   refine ai (ep bd room bm kj oE nL false maps eg files gC wl _) ?_
   refine aL hE Tryz.func119 rfl _ rfl ⟨r,rfl,rfl⟩ (ao.fin [1,0] 0 zr zr)
def fX(name:ByteArray)(at_:Int)(b:List UInt8):Bool:=isName name && decide (0≤at_) && decide (at_≤1048576) && decide ((b.length:Int)≤1048576-at_)
def yP(A:Ab)(name:ByteArray):A.find name false=(1,none,A):=by simp[Ab.find,Ab.meet]
def Al(A:Ab)(name:ByteArray)(at_:Nat)(b:List UInt8):A.write false name at_ b=(1,A):=by simp[Ab.write,yP]
def QL{fs:List (Nat × List UInt8 × List UInt8)}(hn:(fs.map (·.1)).Nodup)(hi:fs[i]?=some (f,x))(n:List UInt8):Ab.BH fs f n=fs.set i (f,n,x.2):=by
 induction fs generalizing i with
 | nil=>simp at hi
 | cons y l ih =>
  simp only[List.map_cons,List.nodup_cons]at hn
  cases i with
  | zero =>
   simp at hi
   subst hi
   simp only[Ab.BH,List.map_cons,if_true,List.set_cons_zero,List.cons.injEq,true_and]
   rw[List.map_congr_left (g:=id) (fun z hz=>?_),List.map_id]
   have:z.1≠f:=fun e=>hn.1 (List.mem_map.2 ⟨z,hz,e⟩)
   simp[this]
  | succ i =>
   simp at hi
   have bZ:y.1≠f:=fun e=>hn.1 (List.mem_map.2 ⟨_,List.mem_of_getElem? hi,e.symm⟩)
   have:=ih hn.2 hi
   simp only[Ab.BH]at this
   simp only[Ab.BH,List.map_cons,bZ,if_false,List.set_cons_succ,this]
def sZ(fs:List (Nat × List UInt8 × List UInt8))(f:Nat)(n:List UInt8):(Ab.BH fs f n).map (·.1)=fs.map (·.1):=by
 simp only[Ab.BH,List.map_map]
 apply List.map_congr_left
 intro x _
 simp only[Function.comp]
 split <;> rfl
def Rel.wrote{D:Dk}(h:Rel D A){at_:Nat}{v3 v4:Value}(hi:D.files[i]?=some (f,v1,v2))(ha:A.fs[i]?=some (f,A.now f,A.sure f))(ef:∀x∈D.eg,x∈arrs')(hn:kM arrs' v3 n)(hb:kM arrs' v4 b)(EF:n.length≤1048576)(jO:at_+b.length≤1048576) :
  Rel { D with files:=D.files.set i (f,v3,v2),eg:=arrs',oE:=w,wl:=D.wl++[(f,at_,v4)] } { A with fs:=Ab.BH A.fs f n,writes:=A.writes++[(f,at_,b)] } where
 room:=h.room
 off:=h.off
 names:=h.names
 aw:=h.aw
 fs:=by
  rw[QL h.ids ha]
  have h2:=h.fs.2 i _ _ hi ha
  exact e7.set (h.fs.mono fun x y wm=>⟨wm.1,wm.2.1.mono ef,wm.2.2.mono ef⟩) i ⟨rfl,hn,h2.2.2.mono ef⟩
 writes:=e7.snoc (h.writes.mono fun x y wm=>⟨wm.1,wm.2.1,wm.2.2.mono ef⟩) ⟨rfl,rfl,hb⟩
 dS:=h.dS.mono ef
 ids:=by simp only[sZ];exact h.ids
 known:=by simp only[sZ];exact h.known
 gX:=by
  simp only[sZ]
  intro x hx
  rcases List.mem_append.1 hx with hx|hx
  ·exact h.gX x hx
  ·simp only[List.mem_singleton]at hx;subst hx;exact List.mem_map.2 ⟨_,List.mem_of_getElem? ha,rfl⟩
 nodup:=h.nodup
 gD:=by
  intro x hx
  simp only[Ab.BH,List.mem_map]at hx
  obtain⟨y,hy,rfl⟩:=hx
  have:=h.gD y hy
  split
  ·exact⟨EF,this.2⟩
  ·exact this
 il:=by
  intro x hx
  rcases List.mem_append.1 hx with hx|hx
  ·exact h.il x hx
  ·simp only[List.mem_singleton]at hx;subst hx;exact jO
 fG:=h.fG
 im:=h.im
 kq:=h.kq
 full:=h.full
def fE(old:List UInt8)(at_:Nat)(b:List UInt8):(bN old at_ b).length=max old.length (at_+b.length):=by
 unfold bN;simp;omega
def n5(A:Ab)(name:ByteArray)(ok:Bool):(A.find name ok).2.2.fs=A.fs∧(A.find name ok).2.2.names=A.names∧(A.find name ok).2.2.aw=A.aw∧(A.find name ok).2.2.writes=A.writes∧(A.find name ok).2.2.room=A.room:=by
 have:=I4 A ok
 unfold Ab.find
 split
 ·cases (A.meet ok).2.look name <;> exact this
 ·exact this
def Rel.wF(h:Rel D A):A.used≤209715200:=by
 rw[← xD (h.nodup _ (List.mem_cons_self ..))]
 have:=Dv (fun f=>(h.small f).1) (A.names.map (·.1))
 have h2:=h.fG _ (List.mem_cons_self ..)
 rw[List.length_map]at this
 omega
def LW(e:TypeId)(v:Value)(bs:List UInt8)(M:fC):∀h,star (az e 1 v bs.length (bV bs)) (aU e M) h→∃M',(kM M' v bs∧∀x∈M,x∈M')∧Sep [aU e M'] h:=fun h hs=>by
 obtain⟨M',h1,h2,h3⟩:=PH e v bs M h hs
 exact⟨M',⟨h1,h2⟩,gk h3⟩
def mz{name:ByteArray}{ok:Bool}(h:(A.find name ok).1=0):ok=true∧∃fl,(A.find name ok).2.1=some fl∧(name,fl)∈(A.find name ok).2.2.names:=by
 unfold Ab.find at h ⊢
 split
 ·rename_i h0
  rw[if_pos h0]at h
  cases hl:(A.meet ok).2.look name with
  | none=>rw[hl]at h;cases h
  | some f =>
   refine⟨?_,f,rfl,p9 hl⟩
   cases ok with
   | true=>rfl
   | false=>simp[Ab.meet]at h0
 ·rename_i h0
  rw[if_neg h0]at h
  exact absurd h h0
def L6(bd:Nat)(D:Dk)(A:Ab)(hR:Rel D A)(name:ByteArray)(at_:Int)(X:HP)(bv:Value)(b:List UInt8)(hv:Vw X bv b.length (bV b))(eQ:A.writes.length≤1000000000)(jO:b.length≤1000000000)(QG : -9223372036854775808≤at_∧at_≤9223372036854775807) :
  aE Tryz.prog 92 [ptr bd,.string name,.int .i64 at_,bv] [hJ bd D,X]
   (fun v H=>∃D',Rel D' (A.write (fX name at_ b) name at_.toNat b).2∧H=[hJ bd D',X]∧v = .int .i64 (A.write (fX name at_ b) name at_.toNat b).1):=by
 obtain⟨a0,c0,rfl⟩:=hv.shape
 refine aE.au Tryz.func92 Tryz.ntmps92 fun G F R hE=>?_
 refine go ?_
 refine aj zr zr zr zr zr zr zr zr zr bD ?_
 intro b0
 refine go ?_
 refine cF [0] zr zr zr zr (jC _ _ [name] (Vw.ae rfl) (by simp)) rfl mO ?_
 rintro _ _⟨rfl,rfl⟩
 have e1:[name].all isName=isName name:=by simp
 rw[e1]
 cases lG:isName name with
 | false =>
  have hm:fX name at_ b=false:=by simp[fX,lG]
  rw[hm,Al]at hE
  refine go ?_
  refine cF [1] zr zr zr zr (jY bd D A hR name false) rfl mO ?_
  rw[yP]
  rintro _ _⟨D',gq,rfl,rfl⟩
  refine go ?_
  refine aL hE Tryz.func92 rfl _ rfl ⟨D',gq,rfl,rfl⟩ (ao.fin [0,2] 1 zr zr)
 | true =>
  repeat'(first|(with_reducible intro pH)|refine gO ?_|refine iy zr zr zr zr ?_ ?_|fail)
  any_goals (
   have hm:fX name at_ b=false:=by simp[fX,lG, *]
   rw[hm,Al]at hE
   refine cF [1] zr zr zr zr (jY bd D A hR name false) rfl mO ?_
   rw[yP]
   rintro _ _⟨D',gq,rfl,rfl⟩
   refine go ?_
   refine aL hE Tryz.func92 rfl _ rfl ⟨D',gq,rfl,rfl⟩ (ao.fin [0,2] 1 zr zr))
  rename_i h2
  obtain⟨at_,rfl⟩:=Int.eq_ofNat_of_zero_le h2
  simp only[Int.toNat_natCast]at hE
  have hm:fX name at_ b=decide ((b.length:Int)≤1048576-at_):=by simp[fX,lG, *]
  refine aB 31 (.bool (fX name at_ b)) rfl (congrArg Value.bool hm.symm) ?_
  refine cF [1] zr zr zr zr (jY bd D A hR name (fX name at_ b)) rfl mO ?_
  generalize kQ:fX name at_ b=ok at hE hm ⊢
  rintro _ _⟨D',gq,rfl,rfl⟩
  refine go ?_
  refine fQ zr zr ?_ ?_
  ·intro h0
   have nY:¬(A.find name ok).1=0:=by have:=of_decide_eq_true h0;omega
   have hw:A.write ok name at_ b=((A.find name ok).1,(A.find name ok).2.2):=by simp[Ab.write,nY]
   rw[hw]at hE
   refine go ?_
   refine aL hE Tryz.func92 rfl _ rfl ⟨D',gq,rfl,rfl⟩ (ao.fin [0,2] 1 zr zr)
  ·intro h0
   have nY:(A.find name ok).1=0:=by have:=of_decide_eq_false h0;omega
   obtain⟨Xl,fl,nX,e9⟩:=mz nY
   rw[Xl]at hm
   have hlen:=of_decide_eq_true hm.symm
   have hw:A.write ok name at_ b=if(A.find name ok).2.2.room<(A.find name ok).2.2.used+(at_+b.length-((A.find name ok).2.2.now fl).length)then(3,(A.find name ok).2.2)
    else(0,{ (A.find name ok).2.2 with fs:=Ab.BH (A.find name ok).2.2.fs fl (bN ((A.find name ok).2.2.now fl) at_ b),writes:=(A.find name ok).2.2.writes++[(fl,at_,b)] }):=by simp[Ab.write,nY,nX]
   rw[nX]
   have acH:(A.find name ok).2.2.writes.length≤1000000000:=by rw[(n5 A name ok).2.2.2.1];exact eQ
   generalize (A.find name ok).2.2=A1 at *
   obtain⟨room,bm,kj,oE,nL,off,maps,eg,files,gC,wl⟩:=D'
   obtain⟨i,v1,v2,hi,mS,lz,ry⟩:=gq.file (f:=fl) (gq.known _ (List.mem_cons_self ..) _ e9)
   obtain⟨a,cap,rfl,jx⟩:=lz.shape
   have u6:=(gq.small fl).1
   have qe:=gq.room
   have SX:=gq.im
   simp only at qe
   refine ai (iZ _ _ _ _ _ _ _ _ _ _ _ _ _) ?_
   refine aH (fun w=>Sat G w ([ae bd (cl [.int .i64 room,.map (some bm),kj,oE,nL,.bool off] 60),aT ff files])) (.st 0 (df 2 11 (df 14 4 (.act 1 (.st 13 (.st 18 .nil)))))) rfl ak ak ak (fun w hw=>hw.cN (ao.bE ([0,3]) rfl)) ?_
   refine go ?_
   refine lY zr zr (fun w hw=>tU (i:=1) hw rfl hi) zr zr ?_
   refine go ?_
   refine aI ((ao.pick [0,1,2,3,4,5] rfl).trans (ep _ _ _ _ _ _ _ _ _ _ _ _ _)) ?_
   have hul:=gq.wF
   refine cF [0] rfl rfl rfl rfl (PN bd _ A1 gq) rfl (fun _ _ w hp hw=>by obtain⟨rfl,_⟩:=hp;exact hw.cN ((iZ _ _ _ _ _ _ _ _ _ _ _ _ _).trans (ao.bE [0,3] rfl))) ?_
   rintro _ _⟨rfl,rfl⟩
   refine go ?_
   refine aq zr zr ?_ ?_
   ·intro EL
    rw[if_pos ag]at hw
    rw[hw]at hE
    refine go ?_
    refine aL hE Tryz.func92 rfl _ rfl ⟨_,gq,rfl,rfl⟩ (ao.fin [0,2] 1 zr zr)
   ·intro EL
    rw[if_neg ag]at hw
    rw[hw]at hE
    refine go ?_
    refine aI (iZ _ _ _ _ _ _ _ _ _ _ _ _ _) (go ?_)
    refine aI (ao.pick [3] rfl) ?_
    refine aI (ie ff hi _) (go ?_)
    refine aI (ao.pick [4,8] rfl) ?_
    refine aI (ao.join _ _ _) ?_
    refine cF [0] zr zr zr zr (uJ (star (aU 5 eg) X) _ _ (A1.now fl) b at_ (lz.view _).left hv.right ag) rfl mO ?_
    rintro _ _⟨bl,o7,rfl,EV,rfl⟩
    refine aI (ao.pick [1] rfl) ?_
    refine aI (ao.part _ _ _) ?_
    refine aI (ao.pick [2,0] rfl) ?_
    refine aI (zj 5 bl _ eg _) (go ?_)
    refine ai (ao.pick [2,3] rfl) ?_
    refine ai (nI ff (y:=(fl,.slice (some ⟨bl,0,none⟩) (bN (A1.now fl) at_ b).length o7,v2)) hi _) ?_
    refine aH (fun w=>Sat G w ([ae bd (cl [.int .i64 room,.map (some bm),kj,oE,nL,.bool off] 60)])) (df 0 8 (.act 8 (.st 9 (.act 10 (.act 11 (.st 12 (.st 13 (.act 14 .nil)))))))) rfl ak ak ak (fun w hw=>hw.cN (ao.bE ([3]) rfl)) ?_
    refine go ?_
    refine cF [2] rfl rfl rfl rfl (ll X _ b hv jO) rfl (fun _ _ w hp hw=>by subst hp;exact hw.cN (ao.bE [4] rfl)) ?_
    rintro r _ rfl
    refine aN 0 rfl ?_
    rintro ar cr rfl
    refine go ?_
    refine aj zr zr zr zr zr zr zr zr zr (fun _ w hw=>hw.cN (ao.bE ([5]) rfl)) ?_
    intro b1
    refine aR (mm:=1) (news:=[ptr fl,.int .i64 at_,.slice ar b.length cr]) 8 0 zr zr zr zr zr zr zr zr zr zr zr zr (Vw.ae rfl) rfl (by simp[Value.oneCell',ptr]) (by have:=gq.writes.1;simp only at this;omega) (by have:=gq.writes.1;simp only at this;show _*40≤_;omega) (fun _=>rfl) (fun _ w hw=>hw.cN (ao.bE ([5]) rfl)) ?_
    intro v'
    have e2:fh wl++[ptr fl,.int .i64 at_,.slice ar b.length cr]=fh (wl++[(fl,at_,.slice ar b.length cr)]):=by simp[fh]
    have e3:wl.length+1=(wl++[(fl,at_,Value.slice ar b.length cr)]).length:=by simp
    rw[e2,e3]
    refine aN 8 rfl ?_
    rintro av cv rfl
    refine go ?_
    refine aV ?_;refine cp 5 gB zr zr zr zr zr zr zr zr zr ?_
    refine go ?_
    refine ai (ao.pick [1,4] rfl) ?_
    refine ai (ao.join _ _ _) ?_
    refine er (LW 5 _ b _) ?_
    rintro arrs'⟨Lt,ef⟩
    have Pj:=gq.wrote (w := .slice av (wl++[(fl,at_,Value.slice ar b.length cr)]).length cv) hi mS (fun x hx=>ef x (List.mem_cons_of_mem _ hx)) ((kM.row (cap:=o7) EV).mono ef) Lt (by rw[fE];omega) (by omega:at_+b.length≤1048576)
    refine ai (ao.pick [4,5,0,3,6,7] rfl) ?_
    refine ai (ep bd room bm kj _ nL off maps arrs' _ gC _ _) ?_
    refine aL hE Tryz.func92 rfl _ rfl ⟨_,Pj,rfl,rfl⟩ (ao.fin [0,2] 2 zr zr)
def Fg{l:List (ByteArray × Nat)}{x:ByteArray × Nat}(h:x∈Ab.dE l k):x∈l∧x.1≠k:=by
 simpa[Ab.dE]using h
def Ps(l:List (ByteArray × Nat))(k:ByteArray):(Ab.dE l k).length≤l.length:=List.length_filter_le _ _
def yW{l:List (ByteArray × Nat)}(h:(l.map (·.1)).Nodup)(k:ByteArray):((Ab.dE l k).map (·.1)).Nodup:=(List.filter_sublist.map _).nodup h
def R8{l:List (ByteArray × Nat)}(h:(k,f)∈l):(Ab.dE l k).length+1≤l.length:=by
 have:(Ab.dE l k).length<l.length:=by
  unfold Ab.dE
  rw[List.length_filter_lt_length_iff_exists]
  exact⟨_,h,by simp⟩
 omega
def Nt(l:List (ByteArray × Nat))(k:ByteArray)(f:Nat):(Ab.jT l k f).length≤l.length+1:=by
 unfold Ab.jT
 split <;> simp
def Ns{l:List (ByteArray × Nat)}{x:ByteArray × Nat}(h:x∈Ab.jT l k f):x=(k,f)∨x∈l:=by
 unfold Ab.jT at h
 split at h
 ·obtain⟨y,hy,rfl⟩:=List.mem_map.1 h
  split
  ·exact .inl rfl
  ·exact .inr hy
 ·rcases List.mem_append.1 h with h|h
  ·exact .inr h
  ·exact .inl (by simpa using h)
def GH{l:List (ByteArray × Nat)}(h:(l.map (·.1)).Nodup)(k:ByteArray)(f:Nat):((Ab.jT l k f).map (·.1)).Nodup:=by
 unfold Ab.jT
 split
 ·have:(l.map fun x=>if x.1=k then(k,f)else x).map (·.1)=l.map (·.1):=by
   rw[List.map_map]
   apply List.map_congr_left
   intro x _
   simp only[Function.comp]
   split
   ·rename_i e;exact e.symm
   ·rfl
  rw[this];exact h
 ·rename_i hk
  rw[List.map_append,List.nodup_append]
  exact⟨h,by simp,fun a ha b hb=>by simp at hb;subst hb;rintro rfl;exact hk (oU.2 ha)⟩
def Ii(bd:Nat)(D:Dk)(A:Ab)(hR:Rel D A)(name:ByteArray)(cL:A.aw.length≤1000000000) :
  aE Tryz.prog 104 [ptr bd,.string name] [hJ bd D]
   (fun v H=>∃D',Rel D' (A.remove (isName name) name).2∧H=[hJ bd D']∧v = .int .i64 (A.remove (isName name) name).1):=by
 refine aE.au Tryz.func104 Tryz.ntmps104 fun G F R hE=>?_
 refine go ?_
 refine bG zr zr bD ?_
 intro box
 refine go ?_
 refine aH (fun w=>Sat G w ([ae box (cl [.string name] 9)])) (df 0 3 (.act 3 (.act 4 (.act 5 (df 6 5 .nil))))) rfl ak ak ak (fun w hw=>hw.cN (ao.bE ([0]) rfl)) ?_
 refine go ?_
 refine aj zr zr zr zr zr zr zr zr zr (fun _ w hw=>hw.cN (ao.bE ([1]) rfl)) ?_
 intro b0
 refine cF [0] rfl rfl rfl rfl (jC _ _ [name] (Vw.ae rfl) (by simp)) rfl (fun _ _ w hp hw=>by obtain⟨_,rfl⟩:=hp;exact hw.cN (ao.bE [1] rfl)) ?_
 rintro _ _⟨rfl,rfl⟩
 have e1:[name].all isName=isName name:=by simp
 rw[e1]
 refine cF [2] rfl rfl rfl rfl (jY bd D A hR name (isName name)) rfl (fun _ _ w hp hw=>by obtain⟨_,_,rfl,_⟩:=hp;exact hw.cN (ao.bE [2] rfl)) ?_
 generalize kQ:isName name=ok at hE ⊢
 rintro _ _⟨D',gq,rfl,rfl⟩
 refine go ?_
 refine fQ zr zr ?_ ?_
 ·intro h0
  have nY:¬(A.find name ok).1=0:=by have:=of_decide_eq_true h0;omega
  have hw:A.remove ok name=((A.find name ok).1,(A.find name ok).2.2):=by
   unfold Ab.remove
   generalize A.find name ok=z at nY ⊢
   obtain⟨e,fo,A1⟩:=z
   cases fo with
   | none=>cases e <;> rfl
   | some fl=>cases e with
    | zero=>exact absurd rfl nY
    | succ e=>rfl
  rw[hw]at hE
  refine go ?_
  refine aL hE Tryz.func104 rfl _ rfl ⟨D',gq,rfl,rfl⟩ (ao.fin [0] 2 zr zr)
 ·intro h0
  have nY:(A.find name ok).1=0:=by have:=of_decide_eq_false h0;omega
  obtain⟨Xl,fl,nX,e9⟩:=mz nY
  have hw:A.remove ok name=(0,(A.find name ok).2.2.ni (Ab.dE (A.find name ok).2.2.names name)):=by
   unfold Ab.remove
   generalize A.find name ok=z at nY nX ⊢
   obtain⟨e,fo,A1⟩:=z
   simp only at nY nX
   subst nY nX
   rfl
  have OH:(A.find name ok).2.2.aw.length≤1000000000:=by rw[(n5 A name ok).2.2.1];exact cL
  rw[hw]at hE
  generalize (A.find name ok).2.2=A1 at *
  have OG:D'.gC.length≤1000000000:=by rw[gq.aw.1];exact OH
  refine go ?_
  refine cF [0,2] zr zr zr zr (mA (α:=Unit) bd D' A1.names gq.names 163 #[ptr box] (ae box (cl [.string name] 9)) (fun _=>Ab.dE A1.names name) (fun _=>ae box (cl [.string name] 9)) (fun _=>True) (fun b'=>aE.post (FF b' box A1.names name) (fun v H h=>⟨(),trivial,h⟩)) OG) rfl mO ?_
  rintro _ _⟨_,b',v,_,rfl⟩
  have Pj:=gq.ni (b':=b') (v:=v) (nm:=Ab.dE A1.names name) (fun x hx=>gq.known _ (List.mem_cons_self ..) x (Fg hx).1) (yW (gq.nodup _ (List.mem_cons_self ..)) name) (Nat.le_trans (Ps _ _) (gq.fG _ (List.mem_cons_self ..)))
  refine go ?_
  refine aL hE Tryz.func104 rfl _ rfl ⟨_,Pj,rfl,rfl⟩ (ao.fin [0] 2 zr zr)
abbrev FK:=Nat × Nat × Value
def yj(x:FK):List Value:=[ptr x.1,.int .i64 x.2.1,x.2.2]
def gA(l:List FK):fh l=l.flatMap yj:=rfl
def eH(x:FK):(yj x).length=3:=rfl
def zG(A X:HP)(v:Value)(l:List FK)(hv:Vw A v l.length (fh l))(hlen:l.length≤1000000000)(g:FuncId)(cap:List Value)(p:FK→Bool)(hf:∀x∈l,aE Tryz.prog g (.agg #[ptr x.1,.int .i64 x.2.1,x.2.2]::cap) [X] (fun v H=>v = .bool (p x)∧H=[X])) :
  aE Tryz.prog 199 [v,.func (.func g) #[] cap.toArray] [A,X] (fun r H=>r = .int .i64 (kz p l)∧H=[A,X]):=by
 obtain⟨a,c0,rfl⟩:=hv.shape
 refine aE.enter Tryz.func199 ak rfl Tryz.ntmps199 zr zr ?_
 intro G F R hR
 refine go ?_
 refine bz (fun i:Nat=>i≤l.length∧∀y∈l.take i,p y=false) (fun i=>l.length-i) (fun i=>[(0,.slice a l.length c0),(1,.func (.func g) #[] cap.toArray),(7,.int .i64 l.length),(8,.int .i64 i)]) (fun _=>[A,X]++F) 0 ⟨by simp,by simp⟩ rfl cm (ao.refl _) ?_
 rintro i⟨hi,hb⟩ ih
 refine go ?_
 refine aq zr zr ?_ ?_
 ·intro cW
  refine go ?_
  have gh:i<l.length:=by omega
  have hx:l[i]?=some l[i]:=by simp[gh]
  generalize hxx:l[i]=x at hx
  obtain⟨b,o,gQ,fO⟩:=hv.some (by rw[← List.length_pos_iff,gA,cu eH];omega)
  simp only[Value.slice.injEq]at fO
  obtain⟨rfl,_,rfl⟩:=fO
  refine cG i 3 zr zr zr zr zr zr zr zr gh ?_
  refine cR (U:=aS) (es:=yj x) 0 (i*3) zr zr zr hv rfl (fun j v hj=>?_) zr zr zr ?_
  ·have wN:j<3:=by
    rcases Nat.lt_or_ge j 3 with h|h
    ·exact h
    ·rw[List.getElem?_eq_none (by rw[eH];exact h)]at hj;cases hj
   rw[gA,cP eH hx j wN];exact hj
  refine cF [1] zr zr zr zr (hf x (List.mem_of_getElem? hx)) rfl mO ?_
  rintro _ _⟨rfl,rfl⟩
  refine go ?_
  refine fQ zr zr ?_ ?_
  ·intro hp
   refine go ?_
   refine aL hR Tryz.func199 rfl _ rfl ⟨by rw[nU hx hp hb];rfl,rfl⟩ (ao.fin [1,0] 0 zr zr)
  ·intro hp
   refine go ?_
   refine aM ih (i+1) rfl ⟨ag,uf hb hx hp⟩ ag cm (ao.pick [1,0] rfl)
 ·intro fg
  refine go ?_
  have:i=l.length:=by omega
  subst this
  refine aL hR Tryz.func199 rfl _ rfl ⟨by rw[qW (fun x hx=>hb x (by simpa using hx))];rfl,rfl⟩ (ao.fin [0,1] 0 zr zr)
def L9(c5 f g at_:Nat)(bv:Value)(files:List (Nat × Value × Value))(hf:f∈files.map (·.1))(hg:g∈files.map (·.1))(gI:bv.oneCell'=true) :
  aE Tryz.prog 155 [.agg #[ptr g,.int .i64 at_,bv],ptr c5] [star (ae c5 (cl [ptr f] 93)) (aT ff files)] (fun v H=>v = .bool (decide (g=f))∧H=[star (ae c5 (cl [ptr f] 93)) (aT ff files)]):=by
 have row:∀ {G:cI} {w:World} {H:List HP} {i y:Nat},Sat G w H→cE H i=some (aT ff files)→y∈files.map (·.1)→Row w y:=by
  intro G w H i y hs hi hy
  obtain⟨⟨y',v1,v2⟩,hm,rfl⟩:=List.mem_map.1 hy
  obtain⟨j,hj⟩:=List.getElem?_of_mem hm
  exact⟨_,_,yR hs hi hj⟩
 refine aE.au Tryz.func155 Tryz.ntmps155 fun G F R hE=>?_
 refine ai (ao.part _ _ _) (go ?_)
 refine bG zr zr bD ?_
 intro bx
 refine go ?_
 refine Sv (U:=aS) zr zr zr zr zr zr zr (fun w hw=>row (i:=2) hw rfl hg) (fun w hw=>row (i:=2) hw rfl hf) ?_
 refine go ?_
 refine ai (ao.pick [1,2] rfl) ?_
 refine ai (ao.join _ _ _) ?_
 refine aL hE Tryz.func155 rfl _ rfl ⟨congrArg Value.bool (by simp),rfl⟩ (ao.fin [0] 1 zr zr)
def wA(v:Value)(l:List FK)(X:HP)(g:FuncId)(cap:List Value)(p:FK→Bool)(hlen:l.length≤1000000000)(fO:∀x∈l,∃a n c,x.2.2 = .slice a n c)(hf:∀x∈l,aE Tryz.prog g (.agg #[ptr x.1,.int .i64 x.2.1,x.2.2]::cap) [X] (fun v H=>v = .bool (p x)∧H=[X])) :
  aE Tryz.prog 154 [v,.func (.func g) #[] cap.toArray] [az 95 3 v l.length (fh l),X]
   (fun r H=>H=[az 95 3 r (l.filter fun x => !p x).length (fh (l.filter fun x => !p x)),X]):=by
 refine aE.au Tryz.func154 Tryz.ntmps154 fun G F R hE=>?_
 refine dg 0 rfl ?_
 rintro a0 c rfl
 refine go ?_
 refine iw 0 rfl ?_
 intro hv
 refine cF [0,1] zr zr zr zr (zG _ X _ l hv hlen g cap p hf) rfl mO ?_
 rintro _ _⟨rfl,rfl⟩
 refine go ?_
 refine aq zr zr ?_ ?_
 ·intro h0
  have mq:l.any p=false:=nV.1 ag
  have nX:(l.filter fun x => !p x)=l:=List.filter_eq_self.2 fun x hx=>by
   have:=List.any_eq_false.1 mq x hx
   simpa using this
  rw[nX]at hE
  refine go ?_
  refine aL hE Tryz.func154 rfl _ zr zr (ao.fin [0,1] 0 zr zr)
 ·intro h0
  obtain⟨i0,x0,MR,W1,Jl,rP⟩:=ys h0
  have adA:i0<l.length:=by
   rcases Nat.lt_or_ge i0 l.length with h|h
   ·exact h
   ·rw[List.getElem?_eq_none h]at W1;cases W1
  rw[MR]
  refine go ?_
  refine sM (fun a lq hn _=>by omega) ?_
  rintro b o c' pre bR oY mV hnc jx lH
  simp only[Value.slice.injEq,true_and]at oY
  obtain⟨rfl,rfl⟩:=oY
  have h1:l.take (i0+1)=l.take i0++[x0]:=by rw[List.take_add_one,W1];rfl
  have Hz:(l.take i0).filter (fun x => !p x)=l.take i0:=List.filter_eq_self.2 fun x hx=>by simp[rP x hx]
  refine bz (fun s:Nat × Nat × List FK=>s.1<s.2.1∧s.2.1≤l.length∧s.2.2.length=l.length∧s.2.2.take s.1=(l.take s.2.1).filter (fun x => !p x)∧s.2.2.drop s.2.1=l.drop s.2.1) (fun s=>l.length-s.2.1)
   (fun s=>[(0,.slice (some ⟨b,o,none⟩) l.length c),(1,.func (.func g) #[] cap.toArray),(5,.int .i64 s.1),(6,.int .i64 s.2.1)])
   (fun s=>ae b (cl (pre++fh s.2.2++bR) 95)::X::F) (i0,i0+1,l) ⟨by simp,by simp only;omega,rfl,by simp only[h1,List.filter_append,Hz];simp[Jl],rfl⟩ rfl cm (ao.refl _) ?_
  rintro⟨i,j,E⟩⟨A6,uG,QH,E4,RU⟩ ih
  simp only at A6 uG QH E4 RU
  have eQ:(fh E).length=l.length*3:=by rw[gA,cu eH,QH]
  have hvE:Vw (ae b (cl (pre++fh E++bR) 95)) (.slice (some ⟨b,o,none⟩) l.length c) l.length (fh E):=Vw.ae (by rw[List.append_assoc,← mV,List.drop_left,List.take_left])
  refine go ?_
  refine aq zr zr ?_ ?_
  ·intro cW
   simp only at cW
   have nF:j<l.length:=by omega
   obtain⟨⟨fx,ax,bx⟩,hx⟩:∃x,l[j]?=some x:=⟨l[j],by simp[nF]⟩
   have hEx:E[j]?=some (fx,ax,bx):=by
    have:=congrArg (·[0]?) RU
    simp only[List.getElem?_drop,Nat.add_zero]at this
    rw[this];exact hx
   have e9:=List.mem_of_getElem? hx
   obtain⟨ab,nb,cb,uH⟩:=fO _ e9
   simp only at uH
   subst uH
   have XD:=hf _ e9
   refine go ?_
   refine cG j 3 zr zr zr zr zr zr zr zr nF ?_
   refine cR (U:=aS) (es:=yj (fx,ax,.slice ab nb cb)) 0 (j*3) zr zr zr hvE rfl (fun q v hq=>?_) zr zr zr ?_
   ·have wN:q<3:=by
     rcases Nat.lt_or_ge q 3 with h|h
     ·exact h
     ·rw[List.getElem?_eq_none (by rw[eH];exact h)]at hq;cases hq
    rw[gA,cP eH hEx q wN];exact hq
   refine aC zr zr zr bD ?_
   intro bv
   refine go ?_
   refine dB 0 zr zr zr zr zr zr ?_
   refine cF [2] zr zr zr zr (XD) rfl mO ?_
   rintro _ _⟨rfl,rfl⟩
   refine go ?_
   refine fQ zr zr ?_ ?_
   ·intro hp
    have sU:p (fx,ax,.slice ab nb cb)=false:=by simpa using hp
    refine go ?_
    refine dB 1 zr zr zr zr zr zr (go ?_)
    refine cG i 3 zr zr zr zr zr zr zr zr ag ?_
    refine kK (U:=aS) (l':=pre++fh (E.set i (fx,ax,.slice ab nb cb))++bR) 2 gB zr zr zr zr zr zr zr ?_ ?_ rfl ?_
    ·show o+i*3+3≤_
     rw[List.length_append,List.length_append,eQ];omega
    ·show _=List.take (o+i*3) (pre++fh E++bR)++yj (fx,ax,.slice ab nb cb)++List.drop (o+i*3+(yj (fx,ax,.slice ab nb cb)).length) (pre++fh E++bR)
     rw[← mV,oJ _ _ _ _ _ (by rw[eH,eQ];omega),gA,vk eH ag]
     rfl
    refine go ?_
    refine aM ih (i+1,j+1,E.set i (fx,ax,.slice ab nb cb)) rfl ⟨by simp only;omega,by simp only;omega,by simp only[List.length_set];exact QH,?_,?_⟩ (by simp only;omega) cm (ao.to [2,0] 1 zr zr zr)
    ·simp only
     rw[List.take_add_one,List.take_set_of_le (Nat.le_refl i),E4,List.take_add_one (l:=l),hx,List.getElem?_set_self ag]
     simp[List.filter_append,sU]
    ·simp only
     rw[List.drop_set_of_lt ag,← List.drop_drop,RU,List.drop_drop]
   ·intro hp
    have sU:p (fx,ax,.slice ab nb cb)=true:=by simpa using hp
    refine go ?_
    refine aM ih (i,j+1,E) rfl ⟨by simp only;omega,by simp only;omega,QH,by simp only;rw[E4,List.take_add_one,hx];simp[List.filter_append,sU],by simp only;rw[← List.drop_drop,RU,List.drop_drop]⟩ (by simp only;omega) cm (ao.to [2,0] 1 zr zr zr)
  ·intro fg
   refine go ?_
   simp only at fg
   have RE:j=l.length:=by omega
   subst RE
   rw[List.take_length]at E4
   have yy:(l.filter fun x => !p x).length=i:=by rw[← E4,List.length_take];omega
   refine lX zr zr zr zr zr zr zr ag ag (.inl rfl) ?_
   intro o1 OV YK
   simp only[Int.toNat_natCast]at OV YK
   have OU:i≠c→o1=o+i*3:=OV
   have hL:(pre++fh E++bR).length=o+l.length*3+bR.length:=by rw[List.length_append,List.length_append,eQ,mV]
   obtain⟨rL,O3,adv⟩:∃rL,(pre++fh E++bR).take o1++(List.replicate (((l.length:Int).toNat-(i:Int).toNat)) [Value.pointer none,.int .i64 0,.slice none 0 0]).flatten++(pre++fh E++bR).drop (o1+((l.length:Int).toNat-(i:Int).toNat)*3)=pre++fh (E.take i)++rL∧c*3≤i*3+rL.length:=by
    have XA:i≠c:=by omega
    rw[OU XA,← mV,List.append_assoc pre,List.take_length_add_append,List.take_append_of_le_length (by rw[eQ];omega),gA,gA,HW eH E i ag]
    refine⟨_,by rw[List.append_assoc],?_⟩
    rw[List.length_append,List.length_drop,mw]
    simp only[List.length_append,List.length_cons,List.length_nil,cu eH,QH,Int.toNat_natCast]
    have:=lH
    omega
   refine J2 (U:=aS) (l':=pre++fh (E.take i)++rL) 0 gB zr zr zr zr zr zr zr zr ?_ ?_ rfl ?_
   ·have XA:i≠c:=by omega
    show o1+((l.length:Int).toNat-(i:Int).toNat)*3≤_
    rw[OU XA,hL];omega
   ·rw[← O3];rfl
   refine go ?_
   refine lX zr zr zr zr zr zr zr ag ag (.inr ag) ?_
   intro o2 ho3 ho4
   have Xm:o2=o:=by
    by_cases Aa:(0:Int).toNat=c
    ·exact ho4 Aa
    ·have:=ho3 Aa;rw[this];simp
   subst Xm
   refine go ?_
   refine ai (l7 (sz:=3) (nn:=i) (c:=c) mV ag (by rw[gA,cu eH,List.length_take];omega) (by rw[gA,cu eH,List.length_take];omega) _) ?_
   rw[← E4,E4,yy,← E4]at hE
   refine aL hE Tryz.func154 rfl _ zr zr (ao.fin [0,1] 0 zr zr)
def Ae(bd:Nat)(D:Dk)(A:Ab)(hR:Rel D A) :
    aE Tryz.prog 63 [ptr bd] [hJ bd D] (fun v H=>∃D',Rel D' A.ct.2∧H=[hJ bd D']∧v = .int .i64 A.ct.1):=by
  refine aE.au Tryz.func63 Tryz.ntmps63 fun G F R hE=>?_
  refine go ?_
  refine cF [0] zr zr zr zr (yh bd D A hR true) rfl mO ?_
  rintro _ _⟨D',gq,rfl,rfl⟩
  refine go ?_
  refine fQ zr zr ?_ ?_
  · intro h0
    have nY:¬(A.meet true).1=0:=by have:=of_decide_eq_true h0;omega
    have hf:A.ct=((A.meet true).1,(A.meet true).2):=by simp[Ab.ct,nY]
    rw[hf]at hE
    refine go ?_
    refine aL hE Tryz.func63 rfl _ rfl ⟨D',gq,rfl,rfl⟩ (ao.fin [0] 0 zr zr)
  · intro h0
    have nY:(A.meet true).1=0:=by have:=of_decide_eq_false h0;omega
    have hf:A.ct=(0,{ (A.meet true).2 with aw:=[(A.meet true).2.names] }):=by simp[Ab.ct,nY]
    rw[hf]at hE
    obtain⟨room,bm,kj,oE,nL,off,maps,eg,files,gC,wl⟩:=D'
    refine ai (iZ _ _ _ _ _ _ _ _ _ _ _ _ _) (go ?_)
    refine aj zr zr zr zr zr zr zr zr zr bD ?_
    intro b0
    refine go ?_
    refine ai (dR 56 1 b0 1 1 [.map (some bm)] [] _ rfl (Nat.le_refl _) (by simp)) ?_
    refine ai (ao.pick [1,2,3,4,0,6] rfl) ?_
    refine ai (ep bd room bm _ oE nL off maps eg files [bm] wl _) ?_
    have Pj:Rel ⟨room,bm,.slice (some ⟨b0,0,none⟩) 1 1,oE,nL,off,maps,eg,files,[bm],wl⟩ { (A.meet true).2 with aw:=[(A.meet true).2.names] } :=
      { room:=gq.room,off:=gq.off,names:=gq.names,aw:=e7.one gq.names,fs:=gq.fs,writes:=gq.writes,dS:=gq.dS,ids:=gq.ids
        known:=fun st cL=>gq.known st (by simp only[List.mem_cons,List.not_mem_nil,or_false]at cL;rcases cL with rfl|rfl <;> exact List.mem_cons_self ..)
        gX:=gq.gX
        nodup:=fun st cL=>gq.nodup st (by simp only[List.mem_cons,List.not_mem_nil,or_false]at cL;rcases cL with rfl|rfl <;> exact List.mem_cons_self ..)
        gD:=gq.gD,il:=gq.il
        fG:=fun st cL=>gq.fG st (by simp only[List.mem_cons,List.not_mem_nil,or_false]at cL;rcases cL with rfl|rfl <;> exact List.mem_cons_self ..)
        im:=gq.im,kq:=gq.kq,full:=by simp }
    refine aL hE Tryz.func63 rfl _ rfl ⟨_,Pj,rfl,rfl⟩ (ao.fin [0] 1 zr zr)
def e7.filter{α β:Type}{q:α→β→Prop}{l:List α}{r:List β}(h:e7 q l r){p1:α→Bool}{p2:β→Bool}(hp:∀x y,q x y→p1 x=p2 y):e7 q (l.filter p1) (r.filter p2):=by
 induction l generalizing r with
 | nil =>
  have:r=[]:=List.eq_nil_of_length_eq_zero h.1.symm
  subst this;exact e7.nil
 | cons x l ih =>
  cases r with
  | nil=>exact absurd h.1 (by simp)
  | cons y r =>
   have h0:=h.2 0 x y zr zr
   have ht:e7 q l r:=⟨by have:=h.1;simpa using this,fun i a b ha hb=>h.2 (i+1) a b (by simpa using ha) (by simpa using hb)⟩
   rw[List.filter_cons,List.filter_cons,hp x y h0]
   split
   ·exact(ih ht).cons h0
   ·exact ih ht
def M7{fs:List (Nat × List UInt8 × List UInt8)}(hn:(fs.map (·.1)).Nodup)(hi:fs[i]?=some (f,x)):Ab.nG fs f=fs.set i (f,x.1,x.1):=by
 induction fs generalizing i with
 | nil=>simp at hi
 | cons y l ih =>
  simp only[List.map_cons,List.nodup_cons]at hn
  cases i with
  | zero =>
   simp at hi
   subst hi
   simp only[Ab.nG,List.map_cons,if_true,List.set_cons_zero,List.cons.injEq,true_and]
   rw[List.map_congr_left (g:=id) (fun z hz=>?_),List.map_id]
   have:z.1≠f:=fun e=>hn.1 (List.mem_map.2 ⟨z,hz,e⟩)
   simp[this]
  | succ i =>
   simp at hi
   have bZ:y.1≠f:=fun e=>hn.1 (List.mem_map.2 ⟨_,List.mem_of_getElem? hi,e.symm⟩)
   have:=ih hn.2 hi
   simp only[Ab.nG]at this
   simp only[Ab.nG,List.map_cons,bZ,if_false,List.set_cons_succ,this]
def xq(fs:List (Nat × List UInt8 × List UInt8))(f:Nat):(Ab.nG fs f).map (·.1)=fs.map (·.1):=by
 simp only[Ab.nG,List.map_map]
 apply List.map_congr_left
 intro x _
 simp only[Function.comp]
 split <;> rfl
def Rel.synced(h:Rel D A)(hi:D.files[i]?=some (f,v1,v2))(ha:A.fs[i]?=some (f,A.now f,A.sure f)) :
  Rel { D with files:=D.files.set i (f,v1,v1),oE:=w,wl:=D.wl.filter fun x => !decide (x.1=f) } { A with fs:=Ab.nG A.fs f,writes:=A.writes.filter fun x => !decide (x.1=f) } where
 room:=h.room
 off:=h.off
 names:=h.names
 aw:=h.aw
 fs:=by
  rw[M7 h.ids ha]
  have h2:=h.fs.2 i _ _ hi ha
  exact e7.set h.fs i ⟨rfl,h2.2.1,h2.2.1⟩
 writes:=e7.filter h.writes (fun x y wm=>by rw[wm.1])
 dS:=h.dS
 ids:=by simp only[xq];exact h.ids
 known:=by simp only[xq];exact h.known
 gX:=by
  simp only[xq]
  exact fun x hx=>h.gX x (List.mem_filter.1 hx).1
 nodup:=h.nodup
 gD:=by
  intro x hx
  simp only[Ab.nG,List.mem_map]at hx
  obtain⟨y,hy,rfl⟩:=hx
  have:=h.gD y hy
  split
  ·exact⟨this.1,this.1⟩
  ·exact this
 il:=fun x hx=>h.il x (List.mem_filter.1 hx).1
 fG:=h.fG
 im:=h.im
 kq:=h.kq
 full:=h.full
def PR(bd:Nat)(D:Dk)(A:Ab)(hR:Rel D A)(name:ByteArray)(eQ:A.writes.length≤1000000000) :
  aE Tryz.prog 94 [ptr bd,.string name] [hJ bd D]
   (fun v H=>∃D',Rel D' (A.sync (isName name) name).2∧H=[hJ bd D']∧v = .int .i64 (A.sync (isName name) name).1):=by
 refine aE.au Tryz.func94 Tryz.ntmps94 fun G F R hE=>?_
 refine go ?_
 refine aj zr zr zr zr zr zr zr zr zr bD ?_
 intro b0
 refine go ?_
 refine cF [0] zr zr zr zr (jC _ _ [name] (Vw.ae rfl) (by simp)) rfl mO ?_
 rintro _ _⟨rfl,rfl⟩
 have e1:[name].all isName=isName name:=by simp
 rw[e1]
 refine go ?_
 refine cF [1] zr zr zr zr (jY bd D A hR name (isName name)) rfl mO ?_
 generalize kQ:isName name=ok at hE ⊢
 rintro _ _⟨D',gq,rfl,rfl⟩
 by_cases nY:(A.find name ok).1=0
 ·obtain⟨Xl,fl,nX,e9⟩:=mz nY
  have hw:A.sync ok name=(0,{ (A.find name ok).2.2 with fs:=Ab.nG (A.find name ok).2.2.fs fl,writes:=(A.find name ok).2.2.writes.filter fun x => !decide (x.1=fl) }):=by simp[Ab.sync,nY,nX]
  rw[hw]at hE
  rw[nX,nY]
  have acH:(A.find name ok).2.2.writes.length≤1000000000:=by rw[(n5 A name ok).2.2.2.1];exact eQ
  generalize (A.find name ok).2.2=A1 at *
  obtain⟨room,bm,kj,oE,nL,off,maps,eg,files,gC,wl⟩:=D'
  obtain⟨i,v1,v2,hi,mS,lz,ry⟩:=gq.file (f:=fl) (gq.known _ (List.mem_cons_self ..) _ e9)
  obtain⟨a,cap,rfl,jx⟩:=lz.shape
  refine go ?_
  refine aC zr zr zr bD ?_
  intro c5
  refine go ?_
  refine ai (ao.pick [1] rfl) ?_
  refine ai (iZ _ _ _ _ _ _ _ _ _ _ _ _ _) ?_
  refine ai (ao.pick [3] rfl) ?_
  refine ai (ie ff hi _) ?_
  refine aH (fun w=>Sat G w ([ae c5 (cl [ptr fl] 93),ae fl (cl [.slice a (A1.now fl).length cap,v2] 99)])) (df 0 7 (.act 7 .nil)) rfl ak ak ak (fun w hw=>hw.cN (ao.bE ([7,0]) rfl)) ?_
  refine go ?_
  refine aI (nI ff (y:=(fl,.slice a (A1.now fl).length cap,.slice a (A1.now fl).length cap)) hi _) ?_
  refine aI (ao.pick [6,0] rfl) ?_
  refine aI (ao.join _ _ _) ?_
  have EH:(files.set i (fl,.slice a (A1.now fl).length cap,.slice a (A1.now fl).length cap)).map (·.1)=files.map (·.1):=by
   rw[List.map_set]
   apply List.ext_getElem?
   intro j
   rw[List.getElem?_set]
   split
   ·rename_i A6
    subst A6
    simp only[List.getElem?_map,hi,Option.map_some,List.length_map]
    rw[if_pos (by
     rcases Nat.lt_or_ge i files.length with h|h
     ·exact h
     ·rw[List.getElem?_eq_none h]at hi;cases hi)]
   ·rfl
  have hfi:=gq.abS
  simp only at hfi
  have hwx:∀x∈wl,(∃a n c,x.2.2 = .slice a n c)∧x.1∈files.map (·.1):=fun x hx=>by
   obtain⟨j,hj⟩:=List.getElem?_of_mem hx
   obtain⟨y,hy,h1,_,h3⟩:=gq.writes.left hj
   obtain⟨a,c,h4,_⟩:=h3.shape
   refine⟨⟨_,_,_,h4⟩,?_⟩
   rw[hfi,h1]
   exact gq.gX y (List.mem_of_getElem? hy)
  refine cF [5,0] zr zr zr zr (wA oE wl (star (ae c5 (cl [ptr fl] 93)) (aT ff (files.set i (fl,.slice a (A1.now fl).length cap,.slice a (A1.now fl).length cap)))) 155 [ptr c5] (fun x=>decide (x.1=fl)) (by have:=gq.writes.1;simp only at this;omega) (fun x hx=>(hwx x hx).1)
   (fun x hx=>L9 c5 fl x.1 x.2.1 x.2.2 _ (by rw[EH,hfi];exact List.mem_map.2 ⟨_,List.mem_of_getElem? mS,rfl⟩) (by rw[EH];exact(hwx x hx).2) (by obtain⟨⟨a,n,c,h⟩,_⟩:=hwx x hx;rw[h];rfl))) rfl mO ?_
  rintro r _ rfl
  refine aN 0 rfl ?_
  rintro ar cr rfl
  refine go ?_
  refine ai (ao.pick [1] rfl) ?_
  refine ai (ao.part _ _ _) ?_
  refine ai (ao.pick [3,4,5,1,6,2] rfl) ?_
  refine ai (ep bd room bm kj _ nL off maps eg _ gC _ _) ?_
  refine aL hE Tryz.func94 rfl _ rfl ⟨_,gq.synced hi mS,rfl,rfl⟩ (ao.fin [0] 2 zr zr)
 ·have hw:A.sync ok name=((A.find name ok).1,(A.find name ok).2.2):=by simp[Ab.sync,nY]
  rw[hw]at hE
  cases Dc:(A.find name ok).2.1 with
  | none =>
   refine go ?_
   refine aC zr zr zr bD ?_
   intro c5
   refine go ?_
   refine fQ zr zr ?_ ?_
   ·intro _
    refine go ?_
    refine aL hE Tryz.func94 rfl _ rfl ⟨D',gq,rfl,rfl⟩ (ao.fin [1] 2 zr zr)
   ·intro h;exfalso;have:=of_decide_eq_false h;omega
  | some fl =>
   refine go ?_
   refine aC zr zr zr bD ?_
   intro c5
   refine go ?_
   refine fQ zr zr ?_ ?_
   ·intro _
    refine go ?_
    refine aL hE Tryz.func94 rfl _ rfl ⟨D',gq,rfl,rfl⟩ (ao.fin [1] 2 zr zr)
   ·intro h;exfalso;have:=of_decide_eq_false h;omega
abbrev MY:=List (Nat × List UInt8 × List UInt8)
structure j6(Bm eg:fC)(files:List (Nat × Value × Value))(fs:MY)(ids:List Nat):Prop where
 all:e7 (fun x y=>x.1=y.1∧kM eg x.2.1 y.2.1∧kM eg x.2.2 y.2.2) files fs
 sub:∀x∈Bm,x∈eg
 ids:fs.map (·.1)=ids
 small:∀x∈fs,x.2.1.length≤1048576∧x.2.2.length≤1048576
def sc(stay:List UInt8)(i:Nat):Bool:=decide (i/8<stay.length∧((stay.getD (i/8) 0).toNat/2 ^ (i%8))%2=1)
def I6(g:Nat × List UInt8 × List UInt8→Nat × List UInt8 × List UInt8){fs:MY}(hn:(fs.map (·.1)).Nodup)(hi:fs[i]?=some (f,x)):(fs.map fun y=>if y.1=f then g y else y)=fs.set i (g (f,x)):=by
 induction fs generalizing i with
 | nil=>simp at hi
 | cons y l ih =>
  simp only[List.map_cons,List.nodup_cons]at hn
  cases i with
  | zero =>
   simp at hi
   subst hi
   simp only[List.map_cons,if_true,List.set_cons_zero,List.cons.injEq,true_and]
   rw[List.map_congr_left (g:=id) (fun z hz=>?_),List.map_id]
   have:z.1≠f:=fun e=>hn.1 (List.mem_map.2 ⟨z,hz,e⟩)
   simp[this]
  | succ i =>
   simp at hi
   have bZ:y.1≠f:=fun e=>hn.1 (List.mem_map.2 ⟨_,List.mem_of_getElem? hi,e.symm⟩)
   have:=ih hn.2 hi
   simp only[List.map_cons,bZ,if_false,List.set_cons_succ,this]
def j6.get{Bm eg:fC}{fs:MY}{ids:List Nat}(h:j6 Bm eg files fs ids)(hn:ids.Nodup)(hf:f∈ids) :
  ∃(j:Nat) (v1 v2:Value) (n s:List UInt8),files[j]?=some (f,v1,v2)∧fs[j]?=some (f,n,s)∧kM eg v1 n∧kM eg v2 s∧n.length≤1048576∧s.length≤1048576∧(fs.find? fun x=>decide (x.1=f))=some (f,n,s):=by
 rw[← h.ids]at hf hn
 obtain⟨⟨f',n,s⟩,hm,rfl⟩:=List.mem_map.1 hf
 obtain⟨i,hi⟩:=List.getElem?_of_mem hm
 obtain⟨⟨f2,v1,v2⟩,hx,h1,h2,h3⟩:=h.all.right hi
 simp only at h1 h2 h3
 subst h1
 exact⟨i,v1,v2,n,s,hx,hi,h2,h3,(h.small _ hm).1,(h.small _ hm).2,sG hn hi⟩
def j6.put{Bm eg:fC}{fs:MY}{ids:List Nat}(h:j6 Bm eg files fs ids)(hs:∀x∈eg,x∈arrs'){y:List UInt8 × List UInt8}(hj:fs[j]?=some (f,y))(h1:kM arrs' v1 n)(h2:kM arrs' v2 s)(hl:n.length≤1048576∧s.length≤1048576):j6 Bm arrs' (files.set j (f,v1,v2)) (fs.set j (f,n,s)) ids where
 all:=e7.set (h.all.mono fun x y wm=>⟨wm.1,wm.2.1.mono hs,wm.2.2.mono hs⟩) j ⟨rfl,h1,h2⟩
 sub x hx:=hs x (h.sub x hx)
 ids:=by
  rw[← h.ids,List.map_set]
  apply List.ext_getElem?
  intro i
  rw[List.getElem?_set]
  split
  ·rename_i e;subst e;rw[List.getElem?_map,hj]
   have:j<(fs.map (·.1)).length:=by
    rw[List.length_map]
    rcases Nat.lt_or_ge j fs.length with h|h
    ·exact h
    ·rw[List.getElem?_eq_none h]at hj;cases hj
   simp[this]
   rcases Nat.lt_or_ge j fs.length with h|h
   ·exact h
   ·rw[List.getElem?_eq_none h]at hj;cases hj
  ·rfl
 small x hx:=by
  rcases List.mem_or_eq_of_mem_set hx with h'|rfl
  ·exact h.small x h'
  ·exact hl
def drop_cons{α:Type}{l:List α}{x:α}(h:l[i]?=some x):l.drop i=x::l.drop (i+1):=by
 have cW:i<l.length:=by
  rcases Nat.lt_or_ge i l.length with h'|h'
  ·exact h'
  ·rw[List.getElem?_eq_none h']at h;cases h
 rw[List.drop_eq_getElem_cons cW]
 rw[List.getElem?_eq_getElem cW]at h;cases h;rfl
def yk{cut:Int}{ws:List (Nat × Nat × List UInt8)}{fs:MY}{a:Nat}{c:List UInt8}(h:ws[i]?=some (f,a,b))(hn:(fs.map (·.1)).Nodup)(hj:fs[j]?=some (f,n,s))(hk:Ab.kept stay dK cut i b=some c):Ab.jE stay dK cut i (ws.drop i) fs=Ab.jE stay dK cut (i+1) (ws.drop (i+1)) (fs.set j (f,n,bN s a c)):=by
 rw[drop_cons h]
 simp only[Ab.jE,hk]
 rw[sG hn hj]
 have:=I6 (fun y=>(y.1,y.2.1,bN s a c)) hn hj
 unfold Ab.s9
 simp only[Option.map_some,Option.getD_some]
 rw[this]
def yl{cut:Int}{ws:List (Nat × Nat × List UInt8)}{fs:MY}{a:Nat}(h:ws[i]?=some (f,a,b))(hk:Ab.kept stay dK cut i b=none):Ab.jE stay dK cut i (ws.drop i) fs=Ab.jE stay dK cut (i+1) (ws.drop (i+1)) fs:=by
 rw[drop_cons h]
 simp only[Ab.jE,hk]
def AS{cut:Int}{c:Nat}(hi:(i:Int)=dK)(hc:max 0 (min cut b.length)=(c:Int)):Ab.kept stay dK cut i b=if c=0 then none else some (b.take c):=by
 unfold Ab.kept
 rw[if_pos hi]
 have e:(max 0 (min cut (b.length:Int))).toNat=c:=by omega
 simp only[e]
 have YY:c≤b.length:=by omega
 by_cases h0:c=0
 ·simp[h0]
 ·have hlen:(b.take c).length=c:=by rw[List.length_take];omega
  have:b.take c≠[]:=fun he=>by rw[he]at hlen;simp at hlen;omega
  rw[if_neg this,if_neg h0]
def K1{cut:Int}(hi:(i:Int)≠dK):Ab.kept stay dK cut i b=if sc stay i=true then some b else none:=by
 unfold Ab.kept sc
 rw[if_neg hi]
 simp only[decide_eq_true_eq]
def mark(S:List Nat)(fs:MY):MY:=fs.map fun x=>if x.1∈S then(x.1,x.2.2,x.2.2)else x
def Od(fs:MY):mark [] fs=fs:=by simp[mark]
def Of{S S':List Nat}(fs:MY)(h:∀x,x∈S↔x∈S'):mark S fs=mark S' fs:=by
 unfold mark;apply List.map_congr_left;intro x _;simp only[h]
def Oe(S:List Nat)(fs:MY):(mark S fs).map (·.1)=fs.map (·.1):=by
 unfold mark;rw[List.map_map];apply List.map_congr_left;intro x _;simp only[Function.comp];split <;> rfl
def Oc{S:List Nat}{fs:MY}(hn:(fs.map (·.1)).Nodup)(hj:(mark S fs)[j]?=some (f,n,s)):(mark S fs).set j (f,s,s)=mark (f::S) fs:=by
 have h1:=I6 (fun y=>(y.1,y.2.2,y.2.2)) (by rw[Oe];exact hn) hj
 rw[← h1]
 unfold mark
 rw[List.map_map]
 apply List.map_congr_left
 intro x _
 simp only[Function.comp,List.mem_cons]
 by_cases hx:x.1∈S <;> by_cases hf:x.1=f <;> simp only[hx,hf,if_true,if_false,or_true,true_or,or_false,false_or,if_pos,if_neg,not_false_eq_true] <;> simp_all
def Rel.crashed(h:Rel D A){last cut:Int}{q b1 b0:Nat}{nm:List (ByteArray × Nat)}{Pm:List (Nat × Value × Value)}{p:Value}(hw:w = .slice none 0 0)(hp:p = .slice none 0 0)(hq:max 0 (min last ((A.aw.length:Int)-1))=q)(lG:A.aw[q]?=some nm)(hb:(b1,eR nm)∈D.maps)(hF:j6 D.eg arrs' Pm (mark (Ab.reach (A.aw++[nm])) (Ab.jE stay dK cut 0 A.writes A.fs)) (A.fs.map (·.1))) :
    Rel ⟨D.room,b1,.slice (some ⟨b0,0,none⟩) 1 1,w,p,false,D.maps,arrs',Pm,[b1],[]⟩ (A.dA last stay dK cut):=by
  subst hw hp
  have cL:nm∈A.aw:=List.mem_of_getElem? lG
  have e:A.dA last stay dK cut={ A with names:=nm,aw:=[nm],writes:=[],dS:=[],off:=false,fs:=mark (Ab.reach (A.aw++[nm])) (Ab.jE stay dK cut 0 A.writes A.fs) }:=by
    have e1:(max 0 (min last ((A.aw.length:Int)-1))).toNat=q:=by omega
    have e2:A.aw.getD (max 0 (min last ((A.aw.length:Int)-1))).toNat []=nm:=by rw[e1,List.getD_eq_getElem?_getD,lG];rfl
    simp only[Ab.dA,e2];rfl
  rw[e]
  have ef:∀st∈nm::[nm],st∈A.names::A.aw:=fun st hs=>by
    simp only[List.mem_cons,List.not_mem_nil,or_false]at hs
    rcases hs with rfl|rfl <;> exact List.mem_cons_of_mem _ cL
  exact
  { room:=h.room,off:=rfl,names:=hb,aw:=e7.one hb,fs:=hF.all,writes:=e7.nil,dS:=kM.nil _ _ _
    ids:=by simp only;rw[hF.ids];exact h.ids
    known:=fun st hs x hx=>by simp only;rw[hF.ids];exact h.known st (ef st hs) x hx
    gX:=by simp
    nodup:=fun st hs=>h.nodup st (ef st hs)
    gD:=hF.small
    il:=by simp
    fG:=fun st hs=>h.fG st (ef st hs)
    im:=h.im,kq:=by simp,full:=by simp }
set_option maxRecDepth 20000 in
def Mx(bd:Nat)(D:Dk)(A:Ab)(hR:Rel D A)(last dK cut:Int)(X:HP)(bv:Value)(stay:List UInt8)(hv:Vw X bv stay.length (bV stay))(fO:stay.length≤9223372036854775807)(cL:A.aw.length≤1000000000)(eQ:A.writes.length≤1000000000)(h1 : -9223372036854775808≤last∧last≤9223372036854775807)(h2 : -9223372036854775808≤dK∧dK≤9223372036854775807)(h3 : -9223372036854775808≤cut∧cut≤9223372036854775807) :
  aE Tryz.prog 13 [ptr bd,.int .i64 last,bv,.int .i64 dK,.int .i64 cut] [hJ bd D,X] (fun v H=>∃D',Rel D' (A.dA last stay dK cut)∧H=[hJ bd D',X]):=by
 obtain⟨a0,c0,rfl⟩:=hv.shape
 obtain⟨room,bm,kj,oE,nL,off,maps,eg,files,gC,wl⟩:=D
 have hlen:=hR.aw.1
 have aaO:=hR.writes.1
 have EL:=hR.full
 have lA:0<A.aw.length:=List.length_pos_iff.2 EL
 simp only at hlen aaO
 refine aE.au Tryz.func13 Tryz.ntmps13 fun G F R hE=>?_
 refine ai (iZ _ _ _ _ _ _ _ _ _ _ _ _ _) ?_
 refine dg 4 rfl ?_
 rintro sa cs rfl
 refine aH (fun w=>Sat G w ([ae bd (cl [.int .i64 room,.map (some bm),.slice sa gC.length cs,oE,nL,.bool off] 60),az 56 1 (.slice sa gC.length cs) gC.length (gC.map fun b => .map (some b))])) (df 0 18 (.act 18 .nil)) rfl ak ak ak (fun w hw=>hw.cN (ao.bE ([0,4]) rfl)) ?_
 refine go ?_
 refine JW 4 rfl ag ?_
 rintro bs os j9 hs hvs
 simp only[Value.slice.injEq,true_and]at hs
 obtain⟨rfl,rfl⟩:=hs
 obtain⟨q,hq⟩:∃q:Nat,max 0 (min last ((gC.length:Int)-1))=q:=Int.eq_ofNat_of_zero_le ag
 have hqs:q<gC.length:=by omega
 refine bI q zr zr zr zr zr zr zr hq hqs ?_
 obtain⟨b1,nw⟩:∃b1,gC[q]?=some b1:=⟨gC[q],by simp⟩
 refine bX 1 q zr zr zr hvs rfl (c := .map (some b1)) (by simp[nw]) zr zr (go ?_)
 refine aI (ao.pick [5] rfl) ?_
 refine aN 0 rfl ?_
 rintro wa wc rfl
 refine go ?_
 refine bz (fun s:Nat × fC × List (Nat × Value × Value) × List (Nat × List UInt8 × List UInt8)=>s.1≤wl.length∧j6 eg s.2.1 s.2.2.1 s.2.2.2 (A.fs.map (·.1))∧Ab.jE stay dK cut s.1 (A.writes.drop s.1) s.2.2.2=Ab.jE stay dK cut 0 A.writes A.fs) (fun s=>wl.length-s.1)
  (fun s=>[(0,ptr bd),(2,.slice a0 stay.length c0),(3,.int .i64 dK),(4,.int .i64 cut),(38,.slice wa wl.length wc),(39,.int .i64 wl.length),(40,.int .i64 s.1)])
  (fun s=>az 95 3 (.slice wa wl.length wc) wl.length (fh wl)::ae bd (cl [.int .i64 room,.map (some b1),.slice (some ⟨bs,os,none⟩) gC.length cs,.slice wa wl.length wc,nL,.bool off] 60)::aT kZ maps::aU 5 s.2.1::aT ff s.2.2.1::az 56 1 (.slice (some ⟨bs,os,none⟩) gC.length cs) gC.length (gC.map fun b => .map (some b))::X::F)
  (0,eg,files,A.fs) ⟨by simp,⟨hR.fs,fun x h=>h,rfl,hR.gD⟩,rfl⟩ rfl cm (ao.refl _) ?_
 rintro⟨i,mD,HL,Ts⟩⟨hi,hF,hL⟩ ih
 simp only at hi hF hL
 refine go ?_
 refine aq zr zr ?_ ?_
 ·intro cW
  simp only at cW
  have gh:i<wl.length:=by omega
  obtain⟨⟨fx,ax,bx⟩,hx⟩:∃x,wl[i]?=some x:=⟨wl[i],by simp[gh]⟩
  obtain⟨⟨fy,ay,rU⟩,hy,aaM,aaL,W0⟩:=hR.writes.left hx
  simp only at aaM aaL W0
  subst aaM aaL
  have QF:=W0.mono hF.sub
  obtain⟨ba,bc,rfl,Pc⟩:=W0.shape
  refine go ?_
  refine iw 0 rfl ?_
  intro dM
  obtain⟨bw,ow,cw,hsw⟩:=dM.some (by rw[← List.length_pos_iff,gA,cu eH];omega)
  simp only[Value.slice.injEq,true_and]at hsw
  obtain⟨rfl,rfl⟩:=hsw
  refine cG i 3 zr zr zr zr zr zr zr zr gh ?_
  refine cR (U:=aS) (es:=yj (fx,ax,.slice ba rU.length bc)) 0 (i*3) zr zr zr dM rfl (fun q v hq=>?_) zr zr zr ?_
  ·have wN:q<3:=by
    rcases Nat.lt_or_ge q 3 with h|h
    ·exact h
    ·rw[List.getElem?_eq_none (by rw[eH];exact h)]at hq;cases hq
   rw[gA,cP eH hx q wN];exact hq
  refine aC zr zr zr bD ?_
  intro bw1
  refine go ?_
  refine jo zr zr zr ag ?_
  refine aB 46 (.int .i64 ((i/8:Nat):Int)) rfl (congrArg (Value.int .i64) (by show(i:Int)/8=((i/8:Nat):Int);omega)) ?_
  refine go ?_
  refine iy zr zr zr zr ?_ ?_
  case' refine_2 =>
   intro wL
   refine go ?_
   refine bu 12 (.bool (sc stay i)) rfl (congrArg Value.bool (by
    unfold sc
    exact(decide_eq_false ag).symm)) ?_
  case' refine_1 =>
   intro wL
   obtain⟨bst,ost,cst,aaS⟩:=hv.some (by rw[← List.length_pos_iff,bt];omega)
   simp only[Value.slice.injEq,true_and]at aaS
   obtain⟨rfl,rfl⟩:=aaS
   refine go ?_
   refine jo zr zr zr ag ?_
   refine aB 53 (.int .i64 ((i/8:Nat):Int)) rfl (congrArg (Value.int .i64) (by show(i:Int)/8=((i/8:Nat):Int);omega)) ?_
   have Gj:i/8<stay.length:=by omega
   refine go ?_
   refine bI (i/8) zr zr zr zr zr zr zr zr Gj (go ?_)
   obtain⟨sx,K8⟩:∃x,stay[i/8]?=some x:=⟨stay[i/8]'Gj,by simp⟩
   refine ur (U:=aS) 7 zr zr zr (hv.cell (nC K8)) zr zr (go ?_)
   refine aB 57 (.int .i64 ((i%2 ^ 3:Nat):Int)) rfl (congrArg (Value.int .i64) (pg i 3 ag ag)) (go ?_)
   refine jo zr zr zr ag ?_
   have hsh:(sx.toNat:Int)/2 ^ (min (((i%2 ^ 3:Nat):Int).toNat) IntKind.u8.bits)=((sx.toNat/2 ^ (i%8):Nat):Int):=by
    have e1:min (((i%2 ^ 3:Nat):Int).toNat) IntKind.u8.bits=i%8:=by show min (i%8) 8=i%8;omega
    rw[e1];simp
   refine aB 58 (.int .u8 ((sx.toNat/2 ^ (i%8):Nat):Int)) rfl (congrArg (Value.int .u8) hsh) ?_
   have hsb:sx.toNat/2 ^ (i%8)<256:=Nat.lt_of_le_of_lt (Nat.div_le_self _ _) sx.toNat_lt
   refine go ?_
   refine bu 12 (.bool (sc stay i)) rfl (congrArg Value.bool (by
    have:=H7 _ hsb
    unfold sc
    rw[decide_eq_decide,List.getD_eq_getElem?_getD,K8]
    show IntKind.u8.wrap _=1↔_
    rw[this]
    simp only[Option.getD_some]
    omega)) ?_
  all_goals(
   generalize Rq:sc stay i=told
   clear wL
   refine go ?_
   refine aq zr zr ?_ ?_
   ·intro Jg
    refine go ?_
    obtain⟨c,hc⟩:∃c:Nat,max 0 (min cut (rU.length:Int))=c:=Int.eq_ofNat_of_zero_le ag
    have YY:c≤rU.length:=by omega
    refine bB (p:=0) (q:=max 0 (min cut (rU.length:Int))) zr zr zr zr zr zr zr (Int.le_refl _) ag (.inr ag) ?_
    refine aB 73 (.slice (sliceAt ba bc 0 1) c bc) rfl (by simp only[hc];rfl) ?_
    refine go ?_
    refine aq zr zr ?_ ?_
    ·intro Aa
     have XR:c≠0:=by intro e;subst e;simp at Aa
     have hk:Ab.kept stay dK cut i rU=some (rU.take c):=by rw[AS Jg hc,if_neg XR]
     have Lt:kM mD (.slice (sliceAt ba bc 0 1) c bc) (rU.take c):=QF.cut 0 c ag
     have jO:(rU.take c).length=c:=by rw[List.length_take];omega
     (obtain⟨j,v1,v2,n,s,hj,Tf,RP,HG,EF,Rr,yD⟩:=hF.get hR.ids (hR.gX _ (List.mem_of_getElem? hy));have hwb:=hR.il _ (List.mem_of_getElem? hy);simp only at hwb;have Xp:(Ts.map (·.1)).Nodup:=(by rw[hF.ids];exact hR.ids);have acG:=fE s ax (rU.take c);refine ai (ao.pick [5] rfl) ?_;refine ai (ie ff hj _) ?_;refine aH (fun w=>Sat G w ([ae bw1 (cl [ptr fx,.int .i64 ax,(.slice (sliceAt ba bc 0 1) c bc)] 95),ae fx (cl [v1,v2] 99)])) (df 0 11 (.act 11 (.st 12 (.st 13 (.act 14 .nil))))) rfl ak ak ak (fun w hw=>hw.cN (ao.bE ([2,0]) rfl)) ?_;refine go ?_;refine cF [6] rfl rfl rfl rfl (uJ (aU 5 mD) v2 _ s (rU.take c) ax (HG.view _) (Lt.view _) ag) rfl (fun _ _ w hp hw=>by obtain⟨_,_,_,_,rfl⟩:=hp;exact hw.cN (ao.bE [4,2] rfl)) ?_;rintro _ _⟨bl,o7,rfl,EV,rfl⟩;refine go ?_;refine ai (ao.pick [2,3] rfl) ?_;refine ai (nI ff (y:=(fx,v1,.slice (some ⟨bl,0,none⟩) (bN s ax (rU.take c)).length o7)) hj _) ?_;refine ai (ao.pick [1,2] rfl) ?_;refine ai (zj 5 bl _ mD _) ?_;have Tp:=hF.put (arrs':=(bl,bV (bN s ax (rU.take c)))::mD) (v1:=v1) (v2 := .slice (some ⟨bl,0,none⟩) (bN s ax (rU.take c)).length o7) (n:=n) (s:=bN s ax (rU.take c)) (fun x h=>List.mem_cons_of_mem _ h) Tf (RP.mono fun x h=>List.mem_cons_of_mem _ h) (kM.row EV) ⟨EF,ag⟩;refine aM ih (i+1,_,_,_) rfl ⟨gh,Tp,by rw[← hL];exact(yk hy Xp Tf hk).symm⟩ (by show _-(_+1)<_;omega) cm (ao.to [3,4,5,0,1,6,7] 1 zr zr zr))
    ·intro Aa
     have XR:c=0:=by rcases Nat.eq_zero_or_pos c with h|h;exact h;exact absurd (by simp;exact h) Aa
     have hk:Ab.kept stay dK cut i rU=none:=by rw[AS Jg hc,if_pos XR]
     refine go ?_
     (refine aM ih (i+1,mD,HL,Ts) rfl ⟨gh,hF,by rw[← hL];exact(yl hy hk).symm⟩ (by show _-(_+1)<_;omega) cm (ao.drop _ _))
   ·intro Jg
    refine go ?_
    have YP:=K1 (stay:=stay) (cut:=cut) (b:=rU) Jg
    cases told with
    | false => 
     have hk:Ab.kept stay dK cut i rU=none:=by rw[YP,Rq];rfl
     refine go ?_
     (refine aM ih (i+1,mD,HL,Ts) rfl ⟨gh,hF,by rw[← hL];exact(yl hy hk).symm⟩ (by show _-(_+1)<_;omega) cm (ao.drop _ _))
    | true =>
     have hk:Ab.kept stay dK cut i rU=some rU:=by rw[YP,Rq];rfl
     have Lt:kM mD (.slice ba rU.length bc) rU:=QF
     have jO:rU.length=rU.length:=rfl
     have YY:rU.length≤rU.length:=Nat.le_refl _
     refine go ?_
     (obtain⟨j,v1,v2,n,s,hj,Tf,RP,HG,EF,Rr,yD⟩:=hF.get hR.ids (hR.gX _ (List.mem_of_getElem? hy));have hwb:=hR.il _ (List.mem_of_getElem? hy);simp only at hwb;have Xp:(Ts.map (·.1)).Nodup:=(by rw[hF.ids];exact hR.ids);have acG:=fE s ax rU;refine ai (ao.pick [5] rfl) ?_;refine ai (ie ff hj _) ?_;refine aH (fun w=>Sat G w ([ae bw1 (cl [ptr fx,.int .i64 ax,(.slice ba rU.length bc)] 95),ae fx (cl [v1,v2] 99)])) (df 0 11 (.act 11 (.st 12 (.st 13 (.act 14 .nil))))) rfl ak ak ak (fun w hw=>hw.cN (ao.bE ([2,0]) rfl)) ?_;refine go ?_;refine cF [6] rfl rfl rfl rfl (uJ (aU 5 mD) v2 _ s rU ax (HG.view _) (Lt.view _) ag) rfl (fun _ _ w hp hw=>by obtain⟨_,_,_,_,rfl⟩:=hp;exact hw.cN (ao.bE [4,2] rfl)) ?_;rintro _ _⟨bl,o7,rfl,EV,rfl⟩;refine go ?_;refine ai (ao.pick [2,3] rfl) ?_;refine ai (nI ff (y:=(fx,v1,.slice (some ⟨bl,0,none⟩) (bN s ax rU).length o7)) hj _) ?_;refine ai (ao.pick [1,2] rfl) ?_;refine ai (zj 5 bl _ mD _) ?_;have Tp:=hF.put (arrs':=(bl,bV (bN s ax rU))::mD) (v1:=v1) (v2 := .slice (some ⟨bl,0,none⟩) (bN s ax rU).length o7) (n:=n) (s:=bN s ax rU) (fun x h=>List.mem_cons_of_mem _ h) Tf (RP.mono fun x h=>List.mem_cons_of_mem _ h) (kM.row EV) ⟨EF,ag⟩;refine aM ih (i+1,_,_,_) rfl ⟨gh,Tp,by rw[← hL];exact(yk hy Xp Tf hk).symm⟩ (by show _-(_+1)<_;omega) cm (ao.to [3,4,5,0,1,6,7] 1 zr zr zr)))
 ·intro fg
  simp only at fg
  have hiw:i=wl.length:=by omega
  subst hiw
  have adE:Ts=Ab.jE stay dK cut 0 A.writes A.fs:=by rw[← hL,List.drop_of_length_le ag];rfl
  obtain⟨nm,lG,hbm⟩:=hR.aw.left nw
  have gp:e7 (fun b es=>(b,eR es)∈maps) (gC++[b1]) (A.aw++[nm]):=e7.snoc hR.aw hbm
  refine aH (fun w=>Sat G w ([ae bd (cl [.int .i64 room,.map (some b1),.slice (some ⟨bs,os,none⟩) gC.length cs,.slice wa wl.length wc,nL,.bool off] 60)])) (df 0 8 (.st 11 (.act 8 (.act 9 (.st 10 .nil))))) rfl ak ak ak (fun w hw=>hw.cN (ao.bE ([1]) rfl)) ?_
  refine go ?_
  refine aj zr zr zr zr zr zr zr zr zr (fun _ w hw=>hw.cN (ao.bE ([2]) rfl)) ?_
  intro b0
  refine aR (mm:=1) (news:=[.map (some b1)]) 6 0 zr zr zr zr zr zr zr zr zr zr zr zr (Vw.ae rfl) rfl (by simp[Value.oneCell']) ag (by show _*8≤_;omega) (fun _=>rfl) (fun _ w hw=>hw.cN (ao.bE ([2]) rfl)) ?_
  intro v'
  have e1:(gC.map fun b=>Value.map (some b))++[.map (some b1)]=(gC++[b1]).map fun b=>Value.map (some b):=by simp
  have e2:gC.length+1=(gC++[b1]).length:=by simp
  have e3:(gC++[b1]).length≤1000000001:=by rw[← e2];omega
  rw[e1,e2]
  refine aN 6 rfl ?_
  rintro av cv rfl
  refine go ?_
  refine bz (fun s:Nat × List (Nat × Value × Value) × List Nat=>s.1≤(gC++[b1]).length∧j6 eg mD s.2.1 (mark s.2.2 Ts) (A.fs.map (·.1))∧∀x,x∈s.2.2↔x∈Ab.reach ((A.aw++[nm]).take s.1)) (fun s=>(gC++[b1]).length-s.1)
   (fun s=>[(0,ptr bd),(104,.slice av (gC++[b1]).length cv),(105,.int .i64 (gC++[b1]).length),(106,.int .i64 s.1)])
   (fun s=>az 56 1 (.slice av (gC++[b1]).length cv) (gC++[b1]).length ((gC++[b1]).map fun b => .map (some b))::ae bd (cl [.int .i64 room,.map (some b1),.slice (some ⟨bs,os,none⟩) gC.length cs,.slice wa wl.length wc,nL,.bool off] 60)::aT kZ maps::aU 5 mD::aT ff s.2.1::X::F)
   (0,HL,[]) ⟨Nat.zero_le _,by rw[Od];exact hF,by simp[Ab.reach]⟩ rfl cm (ao.to [6,2,3,4,5,7] 2 zr zr zr) ?_
  rintro⟨i,Pk,S⟩⟨Tc,Tp,To⟩ Hl
  simp only at Tc Tp To
  refine go ?_
  refine aq zr zr ?_ ?_
  ·intro cW
   simp only at cW
   have tL:i<(gC++[b1]).length:=by omega
   obtain⟨bi,hbi⟩:∃x,(gC++[b1])[i]?=some x:=⟨(gC++[b1])[i],by rw[List.getElem?_eq_getElem]⟩
   obtain⟨es,rC,hm⟩:=gp.left hbi
   have aby:es∈A.names::A.aw:=by
    rcases List.mem_append.1 (List.mem_of_getElem? rC)with h|h
    ·exact List.mem_cons_of_mem _ h
    ·simp only[List.mem_singleton]at h;subst h;exact List.mem_cons_of_mem _ (List.mem_of_getElem? lG)
   refine go ?_
   refine JW 0 rfl ag ?_
   rintro bn on cn Qy Jf
   simp only[Value.slice.injEq,true_and]at Qy
   obtain⟨rfl,rfl⟩:=Qy
   refine bI i zr zr zr zr zr zr zr zr tL ?_
   refine aX 0 i zr zr zr Jf rfl (c := .map (some bi)) (by simp only[List.getElem?_map,hbi,Option.map_some]) zr zr ?_
   refine go ?_
   obtain⟨jm,YR⟩:=List.getElem?_of_mem hm
   refine aI (ao.pick [2] rfl) ?_
   refine aI (ie kZ YR _) ?_
   refine wZ (kv:=Value.string) (es:=eR es) (U:=aS) 0 zr zr zr zr zr (fun _=>rfl) bD ?_
   intro it
   refine go ?_
   have aa7:=hR.nodup _ aby
   have A0:(eR es).map (·.1)=es.map (·.1):=by simp[eR,Function.comp_def]
   refine bz (fun s:List ByteArray × List (Nat × Value × Value) × List Nat=>(s.1.Nodup∧∀x∈s.1,x∈es.map (·.1))∧j6 eg mD s.2.1 (mark s.2.2 Ts) (A.fs.map (·.1))∧∀x,x∈s.2.2↔x∈S∨∃k∈s.1,(k,x)∈es) (fun s=>es.length-s.1.length)
    (fun s=>[(111,.pointer (some ⟨it,0,none⟩)),(0,ptr bd),(104,.slice (some ⟨bn,on,none⟩) (gC++[b1]).length cv),(105,.int .i64 (gC++[b1]).length),(106,.int .i64 i)])
    (fun s=>bP Value.string bi it (eR es) s.1::aT kZ (maps.eraseIdx jm)::az 56 1 (.slice (some ⟨bn,on,none⟩) (gC++[b1]).length cv) (gC++[b1]).length ((gC++[b1]).map fun b => .map (some b))::ae bd (cl [.int .i64 room,.map (some b1),.slice (some ⟨bs,os,none⟩) gC.length cs,.slice wa wl.length wc,nL,.bool off] 60)::aU 5 mD::aT ff s.2.1::X::F)
    ([],Pk,S) ⟨⟨List.nodup_nil,by simp⟩,Tp,by simp⟩ rfl cm (ao.refl _) ?_
   rintro⟨dn,X5,S3⟩⟨⟨yG,SU⟩,hF3,hS3⟩ ih3
   simp only at yG SU hF3 hS3
   refine go ?_
   refine CZ (kv:=Value.string) (es:=eR es) 0 rfl wj.inj zr zr (fun _=>rfl) gB bD ?_ ?_
   ·intro abL
    refine go ?_
    refine ai ((ao.head (B:=[kZ (bi,eR es)]) (fun h hs=>by obtain⟨h',s,hm⟩:=qQ h hs;exact⟨h',s,gk hm⟩)).trans (pN kZ YR _)) ?_
    have hS4:∀x,x∈S3↔x∈Ab.reach ((A.aw++[nm]).take (i+1)):=by
     intro x
     rw[hS3 x,To x,List.take_add_one,rC]
     simp only[Ab.reach,Option.toList_some,List.flatMap_append,List.flatMap_cons,List.flatMap_nil,List.append_nil,List.mem_append]
     apply or_congr Iff.rfl
     constructor
     ·rintro⟨k,_,hk⟩;exact List.mem_map.2 ⟨_,hk,rfl⟩
     ·intro hx
      obtain⟨⟨k,x'⟩,hk,rfl⟩:=List.mem_map.1 hx
      exact⟨k,abL (k,ptr x') (List.mem_map.2 ⟨_,hk,rfl⟩),hk⟩
    refine go ?_
    have ih:=Hl
    refine aM ih (i+1,X5,S3) rfl ⟨tL,hF3,hS4⟩ (by show _-(_+1)<_;omega) cm (ao.to [1,2,0,3,4,5] 0 zr zr zr)
   ·intro key v e9 wo
    obtain⟨⟨k',f⟩,hx,OE⟩:=List.mem_map.1 e9
    simp only[Prod.mk.injEq]at OE
    obtain⟨rfl,rfl⟩:=OE
    refine go ?_
    refine xh (kv:=Value.string) (es:=eR es) 0 rfl wj.inj zr zr e9 (go ?_)
    obtain⟨j,v1,v2,n,s,hj,Tf,RP,HG,EF,Rr,yD⟩:=hF3.get hR.ids (hR.known _ aby _ hx)
    obtain⟨a2,c2,rfl,_⟩:=HG.shape
    refine aI (ao.pick [5] rfl) ?_
    refine aI (ie ff hj _) (go ?_)
    refine ai (nI ff (y:=(f,.slice a2 s.length c2,.slice a2 s.length c2)) hj _) ?_
    have hF4:=hF3.put (v1 := .slice a2 s.length c2) (v2 := .slice a2 s.length c2) (n:=s) (s:=s) (fun _ h=>h) Tf HG HG ⟨Rr,Rr⟩
    rw[Oc (by rw[hF.ids];exact hR.ids) Tf]at hF4
    have RB:k'∈es.map (·.1):=List.mem_map.2 ⟨_,hx,rfl⟩
    have O':(k'::dn).Nodup:=List.nodup_cons.2 ⟨wo,yG⟩
    have sC:∀x∈k'::dn,x∈es.map (·.1):=fun x hx=>by
     rcases List.mem_cons.1 hx with rfl|h
     ·exact RB
     ·exact SU x h
    have yy:=u0 O' sC
    rw[List.length_map,List.length_cons]at yy
    have hS4:∀x,x∈f::S3↔x∈S∨∃k∈k'::dn,(k,x)∈es:=by
     intro x
     rw[List.mem_cons,hS3 x]
     constructor
     ·rintro(rfl|h|⟨k,hk,hkx⟩)
      ·exact .inr ⟨k',List.mem_cons_self ..,hx⟩
      ·exact .inl h
      ·exact .inr ⟨k,List.mem_cons_of_mem _ hk,hkx⟩
     ·rintro(h|⟨k,hk,hkx⟩)
      ·exact .inr (.inl h)
      ·rcases List.mem_cons.1 hk with rfl|hk
       ·left
        have h1:=oT aa7 hx
        rw[oT aa7 hkx]at h1
        simpa using h1
       ·exact .inr (.inr ⟨k,hk,hkx⟩)
    have ih:=ih3
    refine aM ih (k'::dn,_,f::S3) rfl ⟨⟨O',sC⟩,hF4,hS4⟩ (by simp only[List.length_cons];omega) cm (ao.to [1,2,3,4,5,0,6] 0 zr zr zr)
  ·intro abt
   simp only at abt
   have rB:i=(gC++[b1]).length:=by omega
   subst rB
   rw[gp.1,List.take_length]at To
   rw[Of Ts To,adE]at Tp
   refine go ?_
   refine aj zr zr zr zr zr zr zr zr zr bD ?_
   intro b2
   refine go ?_
   refine ai (dR 56 1 b2 1 1 [.map (some b1)] [] _ rfl (Nat.le_refl _) (by simp)) ?_
   refine ai (bO 95 3 none _) ?_
   refine ai (ao.pick [3,4,5,6,1,0,7] rfl) ?_
   refine ai (ep bd room b1 (.slice (some ⟨b2,0,none⟩) 1 1) (.slice none 0 0) (.slice none 0 0) false maps mD Pk [b1] [] _) ?_
   have Pj:=hR.crashed (b0:=b2) zr zr (by rw[← hlen];exact hq) lG hbm Tp
   refine bU hE Tryz.func13 rfl _ rfl ⟨_,Pj,rfl⟩ (ao.fin [0,1] 1 zr zr)
def Ih(bd:Nat)(D:Dk)(A:Ab)(hR:Rel D A)(old name:ByteArray)(cL:A.aw.length≤1000000000) :
  aE Tryz.prog 160 [ptr bd,.string old,.string name] [hJ bd D]
   (fun v H=>∃D',Rel D' (A.rename ([old,name].all isName) old name).2∧H=[hJ bd D']∧v = .int .i64 (A.rename ([old,name].all isName) old name).1):=by
 refine aE.au Tryz.func160 Tryz.ntmps160 fun G F R hE=>?_
 refine go ?_
 refine bG zr zr bD ?_
 intro zg
 refine bG zr zr bD ?_
 intro zf
 refine go ?_
 cases Dc:(A.find old ([old,name].all isName)).2.1 with
 | none =>
  refine aH (fun w=>Sat G w ([ae zf (cl [.string name] 9),ae zg (cl [.string old] 9)])) (df 0 4 (.fork (.act 4 (.fork (.act 5 (.fork (.act 6 (df 7 3 (.act 10 (.act 11 (.st 12 .nil))))) (.act 10 (.act 6 (df 7 3 (.act 11 (.st 12 .nil))))))) (.act 10 (.act 5 (.act 6 (df 7 3 (.act 11 (.st 12 .nil)))))))) (.act 10 (.act 4 (.act 5 (.act 6 (df 7 3 (.act 11 (.st 12 .nil))))))))) rfl ak ak ak (fun w hw=>hw.cN (ao.bE ([0,1]) rfl)) ?_
  repeat'(first|(with_reducible intro pH)|refine gO ?_|refine qE ?_ ?_|refine aq zr zr ?_ ?_|(refine aj zr zr zr zr zr zr zr zr zr (fun _ w hw=>hw.cN (by first|exact ao.bE [1,2] rfl|exact ao.bE [2,3] rfl)) ?_;intro _)|(refine aC zr zr zr (fun _ w hw=>hw.cN (by first|exact ao.bE [1,2] rfl|exact ao.bE [2,3] rfl|exact ao.bE [3,4] rfl)) ?_;intro _)|(refine cF [0] rfl rfl rfl rfl (jC _ _ [old,name] (Vw.ae rfl) (by simp)) rfl (fun _ _ w hp hw=>by obtain⟨_,rfl⟩:=hp;exact(fun _ w hw=>hw.cN (by first|exact ao.bE [1,2] rfl|exact ao.bE [2,3] rfl)) 0 w hw) ?_;rintro _ _⟨rfl,rfl⟩)|(refine cF [1] rfl rfl rfl rfl (jC _ _ [old,name] (Vw.ae rfl) (by simp)) rfl (fun _ _ w hp hw=>by obtain⟨_,rfl⟩:=hp;exact(fun _ w hw=>hw.cN (by(exact ao.bE [2,3] rfl))) 0 w hw) ?_;rintro _ _⟨rfl,rfl⟩)|(refine cF [3] rfl rfl rfl rfl (jY bd D A hR old ([old,name].all isName)) rfl (fun _ _ w hp hw=>by obtain⟨_,_,rfl,_⟩:=hp;exact(fun _ w hw=>hw.cN (by(exact ao.bE [2,3] rfl))) 0 w hw) ?_;rintro _ _⟨D',gq,rfl,rfl⟩;rw[Dc])|(refine cF [4] rfl rfl rfl rfl (jY bd D A hR old ([old,name].all isName)) rfl (fun _ _ w hp hw=>by obtain⟨_,_,rfl,_⟩:=hp;exact(fun _ w hw=>hw.cN (by(exact ao.bE [3,4] rfl))) 0 w hw) ?_;rintro _ _⟨D',gq,rfl,rfl⟩;rw[Dc])|(refine aV ?_;first|refine cp 0 (fun w hw=>(fun _ w hw=>hw.cN (by(exact ao.bE [3,4] rfl))) 0 w hw) zr zr zr zr zr zr zr zr zr ?_|refine cp 1 (fun w hw=>(fun _ w hw=>hw.cN (by(exact ao.bE [3,4] rfl))) 0 w hw) zr zr zr zr zr zr zr zr zr ?_|refine cp 2 (fun w hw=>(fun _ w hw=>hw.cN (by(exact ao.bE [3,4] rfl))) 0 w hw) zr zr zr zr zr zr zr zr zr ?_))
  all_goals(
   have nY:¬(A.find old ([old,name].all isName)).1=0:=fun h=>by obtain⟨_,fl,h1,_⟩:=mz h;rw[Dc]at h1;cases h1
   have hw:A.rename ([old,name].all isName) old name=((A.find old ([old,name].all isName)).1,(A.find old ([old,name].all isName)).2.2):=by
    unfold Ab.rename
    generalize A.find old ([old,name].all isName)=z at nY Dc ⊢
    obtain⟨e,fo,A1⟩:=z
    simp only at Dc
    subst Dc
    cases e <;> rfl
   rw[hw]at hE
   first|(exfalso;omega)|refine aL hE Tryz.func160 rfl _ rfl ⟨D',gq,rfl,rfl⟩ (ao.fin [0] 4 zr zr)|refine aL hE Tryz.func160 rfl _ rfl ⟨D',gq,rfl,rfl⟩ (ao.fin [1] 4 zr zr))
 | some fl =>
  refine aH (fun w=>Sat G w ([ae zf (cl [.string name] 9),ae zg (cl [.string old] 9)])) (df 0 4 (.fork (.act 4 (.fork (.act 5 (.fork (.act 6 (df 7 3 (.act 10 (.act 11 (.st 12 .nil))))) (.act 10 (.act 6 (df 7 3 (.act 11 (.st 12 .nil))))))) (.act 10 (.act 5 (.act 6 (df 7 3 (.act 11 (.st 12 .nil)))))))) (.act 10 (.act 4 (.act 5 (.act 6 (df 7 3 (.act 11 (.st 12 .nil))))))))) rfl ak ak ak (fun w hw=>hw.cN (ao.bE ([0,1]) rfl)) ?_
  repeat'(first|(with_reducible intro pH)|refine gO ?_|refine qE ?_ ?_|refine aq zr zr ?_ ?_|(refine aj zr zr zr zr zr zr zr zr zr (fun _ w hw=>hw.cN (by first|exact ao.bE [1,2] rfl|exact ao.bE [2,3] rfl)) ?_;intro _)|(refine aC zr zr zr (fun _ w hw=>hw.cN (by first|exact ao.bE [1,2] rfl|exact ao.bE [2,3] rfl|exact ao.bE [3,4] rfl)) ?_;intro _)|(refine cF [0] rfl rfl rfl rfl (jC _ _ [old,name] (Vw.ae rfl) (by simp)) rfl (fun _ _ w hp hw=>by obtain⟨_,rfl⟩:=hp;exact(fun _ w hw=>hw.cN (by first|exact ao.bE [1,2] rfl|exact ao.bE [2,3] rfl)) 0 w hw) ?_;rintro _ _⟨rfl,rfl⟩)|(refine cF [1] rfl rfl rfl rfl (jC _ _ [old,name] (Vw.ae rfl) (by simp)) rfl (fun _ _ w hp hw=>by obtain⟨_,rfl⟩:=hp;exact(fun _ w hw=>hw.cN (by(exact ao.bE [2,3] rfl))) 0 w hw) ?_;rintro _ _⟨rfl,rfl⟩)|(refine cF [3] rfl rfl rfl rfl (jY bd D A hR old ([old,name].all isName)) rfl (fun _ _ w hp hw=>by obtain⟨_,_,rfl,_⟩:=hp;exact(fun _ w hw=>hw.cN (by(exact ao.bE [2,3] rfl))) 0 w hw) ?_;rintro _ _⟨D',gq,rfl,rfl⟩;rw[Dc])|(refine cF [4] rfl rfl rfl rfl (jY bd D A hR old ([old,name].all isName)) rfl (fun _ _ w hp hw=>by obtain⟨_,_,rfl,_⟩:=hp;exact(fun _ w hw=>hw.cN (by(exact ao.bE [3,4] rfl))) 0 w hw) ?_;rintro _ _⟨D',gq,rfl,rfl⟩;rw[Dc])|(refine aV ?_;first|refine cp 0 (fun w hw=>(fun _ w hw=>hw.cN (by(exact ao.bE [3,4] rfl))) 0 w hw) zr zr zr zr zr zr zr zr zr ?_|refine cp 1 (fun w hw=>(fun _ w hw=>hw.cN (by(exact ao.bE [3,4] rfl))) 0 w hw) zr zr zr zr zr zr zr zr zr ?_|refine cp 2 (fun w hw=>(fun _ w hw=>hw.cN (by(exact ao.bE [3,4] rfl))) 0 w hw) zr zr zr zr zr zr zr zr zr ?_))
  all_goals(
   have nY:(A.find old ([old,name].all isName)).1=0:=by
    rcases Nat.eq_zero_or_pos (A.find old ([old,name].all isName)).1 with h|h
    ·exact h
    ·exfalso
     unfold Ab.find at Dc h
     split at Dc
     ·rename_i h1
      rw[if_pos h1]at h
      cases hl:(A.meet ([old,name].all isName)).2.look old with
      | none=>rw[hl]at Dc;cases Dc
      | some f=>rw[hl]at h;simp at h
     ·cases Dc)
  any_goals (exfalso;omega)
  all_goals(
   obtain⟨_,fl',abw,e9⟩:=mz nY
   rw[Dc]at abw
   cases abw
   have hw:A.rename ([old,name].all isName) old name=(0,(A.find old ([old,name].all isName)).2.2.ni (Ab.jT (Ab.dE (A.find old ([old,name].all isName)).2.2.names old) name fl)):=by
    unfold Ab.rename
    generalize A.find old ([old,name].all isName)=z at nY Dc ⊢
    obtain⟨e,fo,A1⟩:=z
    simp only at nY Dc
    subst nY Dc
    rfl
   rw[hw]at hE
   have OH:(A.find old ([old,name].all isName)).2.2.aw.length≤1000000000:=by rw[(n5 A old _).2.2.1];exact cL
   generalize (A.find old ([old,name].all isName)).2.2=A1 at *
   have OG:D'.gC.length≤1000000000:=by rw[gq.aw.1];exact OH
   have hN:=gq.fG _ (List.mem_cons_self ..)
   have cW:=R8 e9
   have wu:=Nt (Ab.dE A1.names old) name fl
   have XO:∀b' v,Rel { D' with bm:=b',maps:=(b',eR (Ab.jT (Ab.dE A1.names old) name fl))::D'.maps,kj:=v,gC:=D'.gC++[b'] } (A1.ni (Ab.jT (Ab.dE A1.names old) name fl)):=fun b' v=>gq.ni
    (fun x hx=>by
     rcases Ns hx with rfl|hx
     ·have:=gq.known _ (List.mem_cons_self ..) _ e9;exact this
     ·exact gq.known _ (List.mem_cons_self ..) _ (Fg hx).1)
    (GH (yW (gq.nodup _ (List.mem_cons_self ..)) old) name fl) ag
   first|(refine aI (ao.pick ([4,0,3,1]) rfl) ?_;refine aI (ao.bS [_,_,_] _) ?_;refine cF [1,0] zr zr zr zr (mA (α:=Unit) bd D' A1.names gq.names 202 #[ptr zg,ptr _,ptr zf] _ (fun _=>Ab.jT (Ab.dE A1.names old) name fl) (fun _=>emp) (fun _=>True) (fun b'=>aE.post (qu b' zg _ zf fl A1.names old name) (fun v H h=>⟨(),trivial,h⟩)) OG) rfl mO ?_;rintro _ _⟨_,b',v,_,rfl⟩;refine go ?_;refine aL hE Tryz.func160 rfl _ rfl ⟨_,XO b' v,rfl,rfl⟩ (ao.fin [0] 2 zr zr))|(refine aI (ao.pick ([4,1,3,0]) rfl) ?_;refine aI (ao.bS [_,_,_] _) ?_;refine cF [1,0] zr zr zr zr (mA (α:=Unit) bd D' A1.names gq.names 202 #[ptr zg,ptr _,ptr zf] _ (fun _=>Ab.jT (Ab.dE A1.names old) name fl) (fun _=>emp) (fun _=>True) (fun b'=>aE.post (qu b' zg _ zf fl A1.names old name) (fun v H h=>⟨(),trivial,h⟩)) OG) rfl mO ?_;rintro _ _⟨_,b',v,_,rfl⟩;refine go ?_;refine aL hE Tryz.func160 rfl _ rfl ⟨_,XO b' v,rfl,rfl⟩ (ao.fin [0] 2 zr zr))|(refine aI (ao.pick ([4,2,3,0]) rfl) ?_;refine aI (ao.bS [_,_,_] _) ?_;refine cF [1,0] zr zr zr zr (mA (α:=Unit) bd D' A1.names gq.names 202 #[ptr zg,ptr _,ptr zf] _ (fun _=>Ab.jT (Ab.dE A1.names old) name fl) (fun _=>emp) (fun _=>True) (fun b'=>aE.post (qu b' zg _ zf fl A1.names old name) (fun v H h=>⟨(),trivial,h⟩)) OG) rfl mO ?_;rintro _ _⟨_,b',v,_,rfl⟩;refine go ?_;refine aL hE Tryz.func160 rfl _ rfl ⟨_,XO b' v,rfl,rfl⟩ (ao.fin [0] 2 zr zr)))
end Go.Proofs.YtdigdgohdpeebaaGreatDoor
namespace Go.SL
def CT(M:fC)(s:Nat)(v:Value)(n:Nat)(cs:List Value):Prop :=
 cs.length=n*s∧∃a cap,v = .slice a n cap∧n≤cap∧(n=0∨∃b o row,a=Option.some ⟨b,o,none⟩∧(b,row)∈M∧(row.drop o).take cs.length=cs)
def CT.mono{M M':fC}{s n:Nat}{v:Value}{cs:List Value}(h:CT M s v n cs)(hs:∀x∈M,x∈M'):CT M' s v n cs:=by
 obtain⟨hl,a,cap,hv,hc,h0|⟨b,o,row,ha,hm,ht⟩⟩:=h
 ·exact⟨hl,a,cap,hv,hc,.inl h0⟩
 ·exact⟨hl,a,cap,hv,hc,.inr ⟨b,o,row,ha,hs _ hm,ht⟩⟩
def CT.nil(M:fC)(s:Nat)(a:Option Addr)(cap:Nat):CT M s (.slice a 0 cap) 0 []:=⟨by simp,a,cap,rfl,Nat.zero_le _,.inl rfl⟩
def CT.shape{M:fC}{s n:Nat}{v:Value}{cs:List Value}(h:CT M s v n cs):∃a cap,v = .slice a n cap∧n≤cap:=by
 obtain⟨_,a,cap,hv,hc,_⟩:=h;exact⟨a,cap,hv,hc⟩
def CT.view{M:fC}{s n:Nat}{v:Value}{cs:List Value}(h:CT M s v n cs)(e:TypeId):Vw (aU e M) v n cs:=by
 obtain⟨hl,a,cap,rfl,hc,h0|⟨b,o,row,ha,hm,ht⟩⟩:=h
 ·have:cs=[]:=List.eq_nil_of_length_eq_zero (by rw[hl,h0,Nat.zero_mul])
  subst h0 this;exact⟨a,cap,rfl,.inl rfl⟩
 ·have h1:Vw (ae b (cl row e)) (.slice a n cap) n cs:=by rw[ha];exact Vw.ae ht
  exact h1.mono fun h hs=>CN (List.mem_map.2 ⟨(b,row),hm,rfl⟩) hs
def xQ(e:TypeId)(s n:Nat)(v:Value)(cs:List Value)(M:fC):∀h,star (az e s v n cs) (aU e M) h→∃M',(CT M' s v n cs∧∀x∈M,x∈M')∧Sep [aU e M'] h:=by
 rintro h⟨h1,h2,⟨hl,⟨a,rfl,hn,he⟩|⟨b,o,cap,pre,bR,rfl,hp,hn,hc,wM⟩⟩,hM,hd,hj⟩
 ·have:cs=[]:=List.eq_nil_of_length_eq_zero (by rw[hl,hn,Nat.zero_mul])
  subst hn this
  exact⟨M,⟨CT.nil M s a 0,fun _ h=>h⟩,gk (yU ⟨h1,h2,he,hM,hd,hj⟩)⟩
 ·refine⟨(b,pre++cs++bR)::M,⟨⟨hl,_,cap,rfl,hn,.inr ⟨b,o,pre++cs++bR,rfl,by simp,?_⟩⟩,fun x hx=>by simp[hx]⟩,gk ⟨h1,h2,wM,hM,hd,hj⟩⟩
  subst hp
  rw[List.append_assoc,List.drop_left,List.take_left]
def aE.conv{P:Program}{f:FuncId}{args:List Value}{Pre PY:List HP}{Post we:Value→List HP→Prop}(c:aE P f args Pre Post)(h:ao PY Pre)(hp:∀v H,Post v H→∃H',we v H'∧ao H H'):aE P f args PY we :=
 ⟨c.1,fun G w F hw=>(c.2 G w F (hw.cN (ao.append F h))).mono fun e w' h'=>let ⟨v,H,he,Rv,hs⟩:=h';let ⟨H',hq,hE⟩:=hp v H Rv;⟨v,H',he,hq,hs.cN (ao.append F hE)⟩⟩
def aE.frame{P:Program}{f:FuncId}{args:List Value}{Pre:List HP}{Post:Value→List HP→Prop}(X:List HP)(c:aE P f args Pre Post):aE P f args (Pre++X) (fun v H=>∃H',Post v H'∧H=H'++X) :=
 ⟨c.1,fun G w F hw=>(c.2 G w (X++F) (by rw[List.append_assoc]at hw;exact hw)).mono fun e w' h'=>let ⟨v,H,he,Rv,hs⟩:=h';⟨v,H++X,he,⟨H,Rv,rfl⟩,by rw[List.append_assoc];exact hs⟩⟩
end Go.SL
namespace Go.Proofs.YtdigdgohdpeebaaGreatDoor
open Go Go.SL
def iA{σ:Type}:List (σ→Nat→σ→Prop)→σ→Nat→σ→Prop
 | [],x,e,y=>e=0∧y=x
 | s::ss,x,e,y=>∃e1 x1,s x e1 x1∧((e1≠0∧e=e1∧y=x1)∨(e1=0∧iA ss x1 e y))
attribute [local irreducible] J K aE Ends ae az aQ bP bj aT aU
def aD(bd:Nat)(A:Ab):HP:=fun h=>∃D,Rel D A∧hJ bd D h
def hG{bd:Nat}{D:Dk}{A:Ab}(h:Rel D A)(H:List HP):ao (hJ bd D::H) (aD bd A::H):=ao.fold (B:=[_]) fun h' hs=>⟨h',sub.refl h',D,h,eU hs⟩
def Kp{G:cI}{w:World}{bd:Nat}{A:Ab}{H:List HP}(hs:Sat G w (aD bd A::H)):∃D,Rel D A∧Sat G w (hJ bd D::H):=by
 obtain⟨t,o,u,hp,Ht,h1,h2,⟨D,hR,hA⟩,hH,hd,he⟩:=hs
 exact⟨D,hR,t,o,u,hp,Ht,h1,h2,hA,hH,hd,he⟩
end Go.Proofs.YtdigdgohdpeebaaGreatDoor
namespace Go.Proofs.YtdigdgohdpeebaaGreatDoor
open Go Go.SL
def iK{P:Program}{f:FuncId}{args:List Value}{bd:Nat}{A:Ab}{Pre:List HP}{Post we:Value→List HP→Prop}(hc:P.funcs[f]?.map mB=some true)(h:∀D,Rel D A→aE P f args (hJ bd D::Pre) Post)(hp:∀v H,Post v H→∃H',we v H'∧ao H H'):aE P f args (aD bd A::Pre) we :=
  ⟨hc,fun G w F hw=>by
    obtain⟨D,hR,zK⟩:=Kp hw
    exact((h D hR).2 G w F zK).mono fun e w' h'=>let ⟨v,H,he,Rv,hs⟩:=h';let ⟨H',hq,hE⟩:=hp v H Rv;⟨v,H',he,hq,hs.cN (ao.append F hE)⟩⟩
attribute [local irreducible] J K aE Ends ae az aQ bP bj aT aU
def P1(bd:Nat)(A:Ab):aE Tryz.prog 53 [ptr bd] [aD bd A] (fun v H=>v = .bool A.off∧H=[aD bd A]):=by
 refine iK ak (Post:=fun v H=>v = .bool A.off∧H=[aD bd A]) (fun D hR=>?_) (fun v H h=>⟨H,h,ao.refl _⟩)
 obtain⟨room,bm,kj,oE,nL,off,maps,eg,files,gC,wl⟩:=D
 have ji:=hR.off
 simp only at ji
 subst ji
 refine aE.au Tryz.func53 Tryz.ntmps53 fun G F R hE=>?_
 refine ai (iZ _ _ _ _ _ _ _ _ _ _ _ _ _) (go ?_)
 refine ai ((ao.pick [0,1,2,3,4,5] rfl).trans (ep _ _ _ _ _ _ _ _ _ _ _ _ _)) ?_
 refine ai (hG hR _) ?_
 refine ad hE Tryz.func53 zr zr ⟨rfl,rfl⟩
def Ik(room:Nat)(h1:1≤room)(h2:room≤1073741824):aE Tryz.prog 6 [.int .i64 room] [] (fun v H=>∃bd,v = .tuple #[ptr bd,.int .i64 0]∧H=[aD bd (Ab.new room)]) :=
 (P3 room h1 h2).conv (ao.refl _) (by rintro v H⟨bd,D,hR,rfl,rfl⟩;exact⟨_,⟨bd,rfl,rfl⟩,hG hR _⟩)
def ui(bd:Nat)(A:Ab)(name:ByteArray):aE Tryz.prog 118 [ptr bd,.string name] [aD bd A] (fun v H=>H=[aD bd A]∧v = .tuple #[.int .i64 (A.size name).1,.int .i64 (A.size name).2]) :=
 iK ak (Post:=fun v H=>∃D,Rel D A∧H=[hJ bd D]∧v = .tuple #[.int .i64 (A.size name).1,.int .i64 (A.size name).2]) (fun D hR=>(PT bd D A hR name).conv (ao.refl _) (by rintro v H⟨rfl,rfl⟩;exact⟨_,⟨D,hR,rfl,rfl⟩,ao.refl _⟩)) (by rintro v H⟨D,hR,rfl,rfl⟩;exact⟨_,⟨rfl,rfl⟩,hG hR _⟩)
def CR(bd:Nat)(A:Ab)(name:ByteArray)(at_ n:Int):aE Tryz.prog 119 [ptr bd,.string name,.int .i64 at_,.int .i64 n] [aD bd A]
  (fun v H=>∃r,H=[aD bd A,az 5 1 r (A.read name at_ n).1.length (bV (A.read name at_ n).1)]∧v = .tuple #[r,.int .i64 (A.read name at_ n).2]) :=
 iK ak (Post:=fun v H=>∃D r,Rel D A∧H=[az 5 1 r (A.read name at_ n).1.length (bV (A.read name at_ n).1),hJ bd D]∧v = .tuple #[r,.int .i64 (A.read name at_ n).2])
  (fun D hR=>(PX bd D A hR name at_ n).conv (ao.refl _) (by rintro v H⟨r,rfl,rfl⟩;exact⟨_,⟨D,r,hR,rfl,rfl⟩,ao.refl _⟩)) (by rintro v H⟨D,r,hR,rfl,rfl⟩;exact⟨_,⟨r,rfl,rfl⟩,(ao.pick [1,0] rfl).trans (hG hR _)⟩)
def vx(bd:Nat)(A:Ab)(name:ByteArray)(cL:A.aw.length≤1000000000):aE Tryz.prog 79 [ptr bd,.string name] [aD bd A]
  (fun v H=>∃f,f ∉ A.fs.map (·.1)∧H=[aD bd (A.create (isName name) name f).2]∧v = .int .i64 (A.create (isName name) name f).1) :=
 iK ak (fun D hR=>Iy bd D A hR name cL) (by rintro v H⟨f,D',hf,hR,rfl,rfl⟩;exact⟨_,⟨f,hf,rfl,rfl⟩,hG hR _⟩)
def vt(bd:Nat)(A:Ab)(name:ByteArray)(cL:A.aw.length≤1000000000):aE Tryz.prog 104 [ptr bd,.string name] [aD bd A]
  (fun v H=>H=[aD bd (A.remove (isName name) name).2]∧v = .int .i64 (A.remove (isName name) name).1) :=
 iK ak (fun D hR=>Ii bd D A hR name cL) (by rintro v H⟨D',hR,rfl,rfl⟩;exact⟨_,⟨rfl,rfl⟩,hG hR _⟩)
def ug(bd:Nat)(A:Ab)(name:ByteArray)(at_:Int)(X:HP)(bv:Value)(b:List UInt8)(hv:Vw X bv b.length (bV b))(eQ:A.writes.length≤1000000000)(jO:b.length≤1000000000)(QG : -9223372036854775808≤at_∧at_≤9223372036854775807) :
  aE Tryz.prog 92 [ptr bd,.string name,.int .i64 at_,bv] [aD bd A,X]
   (fun v H=>H=[aD bd (A.write (fX name at_ b) name at_.toNat b).2,X]∧v = .int .i64 (A.write (fX name at_ b) name at_.toNat b).1) :=
 iK ak (fun D hR=>L6 bd D A hR name at_ X bv b hv eQ jO QG) (by rintro v H⟨D',hR,rfl,rfl⟩;exact⟨_,⟨rfl,rfl⟩,hG hR _⟩)
def uh(bd:Nat)(A:Ab)(name:ByteArray)(eQ:A.writes.length≤1000000000):aE Tryz.prog 94 [ptr bd,.string name] [aD bd A]
  (fun v H=>H=[aD bd (A.sync (isName name) name).2]∧v = .int .i64 (A.sync (isName name) name).1) :=
 iK ak (fun D hR=>PR bd D A hR name eQ) (by rintro v H⟨D',hR,rfl,rfl⟩;exact⟨_,⟨rfl,rfl⟩,hG hR _⟩)
def pj(bd:Nat)(A:Ab):aE Tryz.prog 63 [ptr bd] [aD bd A]
  (fun v H=>H=[aD bd A.ct.2]∧v = .int .i64 A.ct.1) :=
 iK ak (fun D hR=>Ae bd D A hR) (by rintro v H⟨D',hR,rfl,rfl⟩;exact⟨_,⟨rfl,rfl⟩,hG hR _⟩)
def Bu(bd:Nat)(A:Ab)(old name:ByteArray)(cL:A.aw.length≤1000000000):aE Tryz.prog 160 [ptr bd,.string old,.string name] [aD bd A]
  (fun v H=>H=[aD bd (A.rename ([old,name].all isName) old name).2]∧v = .int .i64 (A.rename ([old,name].all isName) old name).1) :=
 iK ak (fun D hR=>Ih bd D A hR old name cL) (by rintro v H⟨D',hR,rfl,rfl⟩;exact⟨_,⟨rfl,rfl⟩,hG hR _⟩)
def Qm(bd:Nat)(A:Ab)(last dK cut:Int)(X:HP)(bv:Value)(stay:List UInt8)(hv:Vw X bv stay.length (bV stay))(fO:stay.length≤9223372036854775807)(cL:A.aw.length≤1000000000)(eQ:A.writes.length≤1000000000)(h1 : -9223372036854775808≤last∧last≤9223372036854775807)(h2 : -9223372036854775808≤dK∧dK≤9223372036854775807)(h3 : -9223372036854775808≤cut∧cut≤9223372036854775807) :
  aE Tryz.prog 13 [ptr bd,.int .i64 last,bv,.int .i64 dK,.int .i64 cut] [aD bd A,X] (fun v H=>H=[aD bd (A.dA last stay dK cut),X]) :=
 iK ak (fun D hR=>Mx bd D A hR last dK cut X bv stay hv fO cL eQ h1 h2 h3) (by rintro v H⟨D',hR,rfl⟩;exact⟨_,rfl,hG hR _⟩)
end Go.Proofs.YtdigdgohdpeebaaGreatDoor
namespace Go.Proofs.YtdigdgohdpeebaaGreatDoor
open Go Go.SL
def j5(A B:Ab):Prop:=B.aw.length≤A.aw.length+1∧B.writes.length≤A.writes.length+1
def re(A:Ab)(n:ByteArray)(ok:Bool):(A.find n ok).2.2.aw.length=A.aw.length∧(A.find n ok).2.2.writes.length=A.writes.length:=by
 have h:=n5 A n ok
 rw[h.2.2.1,h.2.2.2.1];exact⟨rfl,rfl⟩
def Ba(A:Ab)(ok:Bool):(A.meet ok).2.aw.length=A.aw.length∧(A.meet ok).2.writes.length=A.writes.length:=by
 unfold Ab.meet
 split
 ·exact⟨rfl,rfl⟩
 split
 ·exact⟨rfl,rfl⟩
 split
 ·exact⟨rfl,rfl⟩
 ·split
  ·exact⟨rfl,rfl⟩
  split <;> exact⟨rfl,rfl⟩
def ql(A:Ab)(ok:Bool)(n:ByteArray):j5 A (A.remove ok n).2:=by
 have h:=re A n ok
 unfold Ab.remove
 split
 ·rename_i f A1 he
  rw[he]at h
  simp only at h
  constructor <;> simp[Ab.ni] <;> omega
 ·rename_i e o A1 _ he
  rw[he]at h
  simp only at h
  constructor <;> simp only <;> omega
def qk(A:Ab)(ok:Bool)(o n:ByteArray):j5 A (A.rename ok o n).2:=by
 have h:=re A o ok
 unfold Ab.rename
 split
 ·rename_i f A1 he
  rw[he]at h
  simp only at h
  constructor <;> simp[Ab.ni] <;> omega
 ·rename_i e o A1 _ he
  rw[he]at h
  simp only at h
  constructor <;> simp only <;> omega
def qm(A:Ab)(ok:Bool)(n:ByteArray)(f:Nat):j5 A (A.create ok n f).2:=by
 have h:=Ba A ok
 unfold Ab.create
 split
 ·split
  ·constructor <;> simp only <;> omega
  split
  ·constructor <;> simp only <;> omega
  ·constructor <;> simp[Ab.ni] <;> omega
 ·constructor <;> simp only <;> omega
def kA(A:Ab)(ok:Bool)(n:ByteArray)(at_:Nat)(b:List UInt8):j5 A (A.write ok n at_ b).2:=by
 have h:=re A n ok
 unfold Ab.write
 split
 ·split
  ·split
   ·constructor <;> simp only <;> omega
   ·constructor <;> simp <;> omega
  ·constructor <;> simp only <;> omega
 ·constructor <;> simp only <;> omega
def kC(A:Ab)(ok:Bool)(n:ByteArray):j5 A (A.sync ok n).2:=by
 have h:=re A n ok
 unfold Ab.sync
 split
 ·split
  ·constructor
   ·simp only;omega
   ·simp only
    refine Nat.le_trans (List.length_filter_le _ _) ?_
    omega
  ·constructor <;> simp only <;> omega
 ·constructor <;> simp only <;> omega
def jX(A:Ab):j5 A A.ct.2:=by
 have h:=Ba A true
 unfold Ab.ct
 split
 ·constructor <;> simp only[List.length_singleton] <;> omega
 ·constructor <;> simp only <;> omega
instance acv(n:ByteArray)(K:List ByteArray):Decidable (n∈K):=decidable_of_iff (K.any (fun x=>decide (x=n))=true) (by rw[List.any_eq_true];exact⟨fun⟨x,hx,h⟩=>of_decide_eq_true h ▸ hx,fun h=>⟨n,h,decide_eq_true rfl⟩⟩)
def ei(A:Ab):List ByteArray:=A.names.map (·.1)
def G'{α:Type}{a b:List α}(ha:a.Nodup)(hb:b.Nodup)(h:∀n,n∈a↔n∈b):a.length=b.length :=
 ((List.perm_ext_iff_of_nodup ha hb).2 h).length_eq
def pR(l:List ByteArray):List (List UInt8):=(l.map fun b=>b.data.toList).mergeSort fun x y=>decide (x≤y)
def tn(l:List ByteArray):(pR l).Pairwise (·≤·) :=
 (List.pairwise_mergeSort (le:=fun x y:List UInt8=>decide (x≤y)) (fun a b c h1 h2=>decide_eq_true (List.le_trans (of_decide_eq_true h1) (of_decide_eq_true h2))) (fun a b=>by simpa using List.le_total a b) _).imp fun h=>of_decide_eq_true h
def m7(l:List ByteArray):(pR l).Perm (l.map fun b=>b.data.toList):=List.mergeSort_perm _ _
def GG{a b:List ByteArray}(h:a.Perm b):pR a=pR b :=
 List.Perm.eq_of_pairwise (fun x y _ _ h1 h2=>List.le_antisymm h1 h2) (tn a) (tn b) ((m7 a).trans ((h.map _).trans (m7 b).symm))
def uR(l:List ByteArray):(pR l).length=l.length:=by rw[(m7 l).length_eq,List.length_map]
def kS:List UInt8:=[115,45]
def kB:List UInt8:=[98,45]
def kN:List UInt8:=[110,45]
def kI:List UInt8:=[105,45]
def sE(A:Ab)(nm:ByteArray):Bool:=(A.look nm).isSome
def fp(A:Ab)(nm:ByteArray):Option (List UInt8):=match A.look nm with
 | none=>none
 | some f=>if A.off then none else some (A.now f)
def nu(A:Ab)(d:Dg):Option (List Bl):=(fp A (dy kI d)).bind yX
def ju(A:Ab)(d:Dg):Bool:=match fp A (dy kB d)with
 | none=>false
 | some b=>decide (dW b=d)
def fZ(A:Ab)(d:Dg):Bool:=match nu A d with
 | none=>false
 | some x=>decide (yd x=d) && x.all fun y=>ju A y.d
def rF(A:Ab):Nat:=(A.names.map fun x=>if(jG kB x.1).isSome then(A.now x.2).length else 0).sum
def fW(A:Ab):List ByteArray:=(pR (ei A)).map strOf
abbrev Bt:=Ab→Nat→Ab→Prop
def iE(nm:ByteArray):Bt:=fun A e B=>∃f,f ∉ A.fs.map (·.1)∧(e,B)=A.create (isName nm) nm f
def jg(nm:ByteArray):Bt:=fun A e B=>(e,B)=A.remove (isName nm) nm
def fL(nm:ByteArray)(at_:Nat)(b:List UInt8):Bt:=fun A e B=>(e,B)=A.write (fX nm at_ b) nm at_ b
def fj(nm:ByteArray):Bt:=fun A e B=>(e,B)=A.sync (isName nm) nm
def kW(o n:ByteArray):Bt:=fun A e B=>(e,B)=A.rename ([o,n].all isName) o n
def dN:Bt:=fun A e B=>(e,B)=A.ct
def mH(kind:List UInt8)(right:Ab→Dg→Bool):List ByteArray→Bt
 | [],A,e,B=>e=0∧B=A
 | nm::l,A,e,B=>match jG kind nm with
  | none=>mH kind right l A e B
  | some d=>if right A d then mH kind right l A e B else ∃e1 A1,jg nm A e1 A1∧((e1≠0∧e=e1∧B=A1)∨(e1=0∧mH kind right l A1 e B))
def eJ(kind:List UInt8)(right:Ab→Dg→Bool):Bt:=fun A=>mH kind right (fW A) A
def pq:Bt:=fun A e B=>∃e1 A1,iA [eJ kB ju,eJ kN (fun _ _=>false),eJ kI fZ] A e1 A1 ∧
 if e1=0∧A1.names.length<A.names.length then dN A1 e B else e=e1∧B=A1
structure e8 where
 A:Ab
 bq:List (Dg × Bl)
 brk:Bool
def gK(l:List (Dg × Bl))(d:Dg):Option Bl:=(l.find? fun x=>decide (x.1=d)).map (·.2)
def tC(s:e8)(x:Bl):Bool:=decide (gK s.bq x.d=some x)
def jR(s:e8):Int:=rF s.A+(s.bq.map (·.2.size)).sum
def CC(ss:List Bt)(s:e8)(e:Nat)(t:e8):Prop:=∃B,iA ss s.A e B∧t=⟨B,s.bq,s.brk || decide (e≠0)⟩
def jh(s:e8)(x:Bl):Nat:=if s.brk then 10 else if tC s x then 0 else 4
def fS(x:Bl):ByteArray:=dy kS x.d
def fB(x:Bl):ByteArray:=dy kB x.d
def Ec(o n:ByteArray):List Bt:=[fj o,kW o n,dN]
def dU(q:Int)(x:Bl)(s:e8)(e:Nat)(t:e8):Prop :=
 if s.brk then e=10∧t=s else if bF x=false then e=1∧t=s else if(gK s.bq x.d).isSome∨sE s.A (fB x)then e=5∧t=s
 else if q<jR s+x.size then e=11∧t=s
 else if sE s.A (fS x)then e=0∧t=⟨s.A,s.bq++[(x.d,x)],s.brk⟩
 else ∃e1 s1,CC [iE (fS x),dN] s e1 s1∧((e1≠0∧e=e1∧t=s1)∨(e1=0∧e=0∧t=⟨s1.A,s1.bq++[(x.d,x)],s1.brk⟩))
def mY(x:Bl)(i:Int)(b:List UInt8)(s:e8)(e:Nat)(t:e8):Prop :=
 if jh s x≠0 then e=jh s x∧t=s else match dJ x i with
  | none=>e=1∧t=s
  | some (at_,n)=>if(b.length:Int)≠n then e=1∧t=s else CC [fL (fS x) at_.toNat b] s e t
def ki(x:Bl)(s:e8)(e:Nat)(t:e8):Prop:=if jh s x≠0 then e=jh s x∧t=s else CC [fj (fS x)] s e t
def n9(l:List (Dg × Bl))(d:Dg):List (Dg × Bl):=l.filter fun x => !decide (x.1=d)
def gN(x:Bl)(s:e8)(e:Nat)(t:e8):Prop :=
 if jh s x≠0 then e=jh s x∧t=s else ∃s1,CC [jg (fS x)] s e s1∧t=if e≠0 then s1 else⟨s1.A,n9 s1.bq x.d,s1.brk⟩
def dQ(x:Bl)(s:e8)(e:Nat)(t:e8):Prop :=
 if jh s x≠0 then e=jh s x∧t=s
 else if ej x ((fp s.A (fS x)).getD [])=false then ∃e1,gN x s e1 t∧e=if e1≠0 then e1 else 8
 else ∃s1,CC (Ec (fS x) (fB x)) s e s1∧t=if e≠0 then s1 else⟨s1.A,n9 s1.bq x.d,s1.brk⟩
end Go.Proofs.YtdigdgohdpeebaaGreatDoor
namespace Go.SL
section
variable{P:Program}{U:Tr}[hU:fV P U]{f:FuncId}{n:Nat}{R:Ending→World→Prop}{G:cI}{k:List Item}{L:fD}{H H':List HP}{S:World→Prop}{all:Array Oper}{rest:Pl}{ty:TypeId}{pos:String}{af:Array Edge}{gd:Option (Nat × Bool)}{m:Bool}{d:Tmp}
def gW{Hs:List HP}{t:TypeId}{x:Operand}{b o off nn cap:Nat}{bQ:Ty}{es cs:List Value}{A:HP}(i idx:Nat)(hd:Nat.blt d n=true)(hx:ev L x=some (.pointer (some ⟨b,off,none⟩)))(hi:cE Hs i=some A)(hv:Vw A (.slice (some ⟨b,o,none⟩) nn cap) nn cs)(ji:off=o+idx)(rC:∀j v,es[j]?=some v→cs[idx+j]?=some v)(ht:U.get t=some bQ)(hg:bQ.isAgg=true)(hl:Nat.beq es.length bQ.info.size=true)(h:J P f n R G (fun w=>Sat G w Hs) all rest k ((d,.agg es.toArray)::L) H):J P f n R G (fun w=>Sat G w Hs) all (.cons true true ⟨some d,.load t x,ty,pos,af,gd⟩ rest) k L H :=
 kU hd (fun a w ha hw=>by
  have hc:∀j v,es[j]?=some v→w.cell? ⟨b,off+j,none⟩=some v:=fun j v hj=>by
   obtain⟨h,hh,hA⟩:=Sat.lj hw hi
   have:=hv.cell (rC j v hj) h hA
   rw[ji,show o+idx+j=o+(idx+j) by omega]
   exact dY hh this
  simp[execOp,ha.ev hx,iG (P:=P) ht hg (Nat.eq_of_beq_eq_true hl) hc]) h
end
end Go.SL
namespace Go.SL
open Go
def fA(l:List jt):iL (wV l)=true:=by
 induction l with
 | nil=>rfl
 | cons x l ih =>
  show(Value.oneCell' (u32 x) && iL (wV l))=true
  rw[ih];rfl
section
variable{P:Program}{U:Tr}[hU:fV P U]{f:FuncId}{n:Nat}{R:Ending→World→Prop}{G:cI}{k:List Item}{L:fD}{H H':List HP}{S:World→Prop}{all:Array Oper}{rest:Pl}{ty:TypeId}{pos:String}{af:Array Edge}{gd:Option (Nat × Bool)}{m:Bool}{d:Tmp}
def Yt{t:TypeId}{x:Operand}{j:IntKind}{p:Int}(hd:Nat.blt d n=true)(hx:ev L x=some (.int j p))(hr:gn j (-p))(h:J P f n R G S all rest k ((d,.int j (-p))::L) H):J P f n R G S all (.cons m true ⟨some d,.unOp .neg t x,ty,pos,af,gd⟩ rest) k L H :=
 du hd (fun a ha w=>by
  have e:j.wrap (0-p) = -p:=by rw[Int.zero_sub];exact cQ hr
  simp only[execOp,ha.ev hx,Sem.run_bind,Result.andThen_ok,Op.unary,Op.intArith]
  simp
  simpa using e) h
def aJ{t:TypeId}{x:Operand}{b:Nat}{bQ:Ty}{l:List Value}{e:TypeId}(i:Nat)(hd:Nat.blt d n=true)(hx:ev L x=some (.pointer (some ⟨b,0,none⟩)))(hi:cE H i=some (ae b (cl l e)))(ht:U.get t=some bQ)(hg:bQ.isAgg=true)(hl:l.length=bQ.info.size)(h:J P f n R G S all rest k ((d,.agg l.toArray)::L) H):J P f n R G S all (.cons false true ⟨some d,.load t x,ty,pos,af,gd⟩ rest) k L H :=
 zB (U:=U) hd hx ht hg (by rw[hl];exact Nat.beq_refl _) (fun w hw j v hj=>by rw[dG (hw.tS hi),Nat.zero_add];exact hj) h
def bY{Hs:List HP}{t:TypeId}{x:Operand}{b:Nat}{bQ:Ty}{l:List Value}{e:TypeId}(i:Nat)(hd:Nat.blt d n=true)(hx:ev L x=some (.pointer (some ⟨b,0,none⟩)))(hi:cE Hs i=some (ae b (cl l e)))(ht:U.get t=some bQ)(hg:bQ.isAgg=true)(hl:l.length=bQ.info.size)(h:J P f n R G (fun w=>Sat G w Hs) all rest k ((d,.agg l.toArray)::L) H):J P f n R G (fun w=>Sat G w Hs) all (.cons true true ⟨some d,.load t x,ty,pos,af,gd⟩ rest) k L H :=
 kU hd (fun a w ha hw=>by
  have hw:Sat G w Hs:=hw
  simp[execOp,ha.ev hx,iG (P:=P) ht hg hl (fun j v hj=>by rw[dG (hw.tS hi),Nat.zero_add];exact hj)]) h
def cK{t:TypeId}{x y:Operand}{b:Nat}{bQ:Ty}{l l':List Value}{e:TypeId}(i:Nat)(hS:∀w,Sat G w H'→Sx rest S w)(hx:ev L x=some (.pointer (some ⟨b,0,none⟩)))(hy:ev L y=some (.agg l'.toArray))(ht:U.get t=some bQ)(iY:l'.length=bQ.info.size)(bZ:l'≠[])(gI:iL l'=true)(hi:cE H i=some (ae b (cl l e)))(hll:l.length=l'.length)(hp:lL i (ae b (cl l' e)) H [] = .mk H')(h:J P f n R G S all rest k L H'):J P f n R G S all (.cons false true ⟨none,.store t x y,ty,pos,af,gd⟩ rest) k L H:=by
 have hc:bo (.agg l'.toArray)=l':=by simp[bo]
 refine kK (U:=U) (l':=l') i hS hx hy ht (by rw[hc,iY];exact Nat.beq_refl _) (by rw[hc];cases l' with|nil=>exact absurd rfl bZ|cons _ _=>rfl) (by rw[hc];exact gI) hi (by rw[hc];omega) (by rw[hc];simp[hll]) hp h
def gV{t:TypeId}{x y:Operand}{b off:Nat}{bQ:Ty}{l:List Value}{u:Value}{e:TypeId}(i:Nat)(hS:∀w,Sat G w H'→Sx rest S w)(hx:ev L x=some (.pointer (some ⟨b,off,none⟩)))(hy:ev L y=some u)(ht:U.get t=some bQ)(iY:Nat.beq bQ.info.size 1=true)(hc:bo u=[u])(gI:iL [u]=true)(hi:cE H i=some (ae b (cl l e)))(hq:off<l.length)(hp:lL i (ae b (cl (l.set off u) e)) H [] = .mk H')(h:J P f n R G S all rest k L H'):J P f n R G S all (.cons false true ⟨none,.store t x y,ty,pos,af,gd⟩ rest) k L H:=by
 refine kK (U:=U) (l':=l.set off u) i hS hx hy ht (by rw[hc,Nat.eq_of_beq_eq_true iY];rfl) (by rw[hc];rfl) (by rw[hc];exact gI) hi (by rw[hc];simp;omega) ?_ hp h
 rw[hc,List.set_eq_take_append_cons_drop,if_pos hq]
 simp
def ew{t elem:TypeId}{bQ te:Ty}{x y:Operand}{j:IntKind}{b o len:Nat}{p:Int}(q:Nat)(hd:Nat.blt d n=true)(ht:U.get t=some bQ)(hu:bQ.gy = .array len elem)(he:U.get elem=some te)(hs:Nat.beq te.info.size 1=true)(hx:ev L x=some (.pointer (some ⟨b,o,none⟩)))(hy:ev L y=some (.int j p))(hq:p=(q:Int))(cW:q<len)(h:J P f n R G S all rest k ((d,.pointer (some ⟨b,o+q,none⟩))::L) H):J P f n R G S all (.cons m true ⟨some d,.indexAddr t x y,ty,pos,af,gd⟩ rest) k L H:=by
 subst hq
 refine zC hd ht hu he hx hy ag ag ?_
 rw[Nat.eq_of_beq_eq_true hs,Int.toNat_natCast,Nat.mul_one]
 exact h
def mL{t:TypeId}{x:Operand}{b off:Nat}{bQ:Ty}{l:List Value}{e:TypeId}{v:Value}(i q:Nat)(hd:Nat.blt d n=true)(hx:ev L x=some (.pointer (some ⟨b,off,none⟩)))(hi:cE H i=some (ae b (cl l e)))(hq:off=q)(hv:l[q]?=some v)(ht:U.get t=some bQ)(hg:bQ.isAgg=false)(h:J P f n R G S all rest k ((d,v)::L) H):J P f n R G S all (.cons false true ⟨some d,.load t x,ty,pos,af,gd⟩ rest) k L H:=by
 subst hq
 exact eZ (U:=U) i hd hx hi (by rw[dI];exact hv) ht hg h
def eO{Hs:List HP}{t:TypeId}{x:Operand}{b off:Nat}{bQ:Ty}{l:List Value}{e:TypeId}{v:Value}(i q:Nat)(hd:Nat.blt d n=true)(hx:ev L x=some (.pointer (some ⟨b,off,none⟩)))(hi:cE Hs i=some (ae b (cl l e)))(hq:off=q)(hv:l[q]?=some v)(ht:U.get t=some bQ)(hg:bQ.isAgg=false)(h:J P f n R G (fun w=>Sat G w Hs) all rest k ((d,v)::L) H):J P f n R G (fun w=>Sat G w Hs) all (.cons true true ⟨some d,.load t x,ty,pos,af,gd⟩ rest) k L H:=by
 subst hq
 exact ix (U:=U) i hd hx hi (by rw[dI];exact hv) ht hg h
def mN{t e:TypeId}{bQ te:Ty}{nn:Nat}{z:Array Value}{parts:Array (Nat × Operand)}{cs:List Value}(hd:Nat.blt d n=true)(ht:U.get t=some bQ)(hu:bQ.gy = .array nn e)(he:U.get e=some te)(hz:bQ.info.zero=some (.agg z))(hb:vp L te.info.size z.toList parts.toList = .mk cs)(h:J P f n R G S all rest k ((d,.agg cs.toArray)::L) H):J P f n R G S all (.cons m true ⟨some d,.build t parts,ty,pos,af,gd⟩ rest) k L H:=by
 have iR:∀a w,Has n L a→(execOp a.eval ⟨some d,.build t parts,ty,pos,af,gd⟩).run P w = .ok (.value (.agg cs.toArray)) w:=fun a w ha=>by
  have hf:=vZ ha te.info.size parts.toList z.toList cs hb
  rw[Array.toArray_toList]at hf
  simp only[execOp,Instr.build,Sem.run_bind,dX ht hz,run_underlying ht,Result.andThen_ok,hu,run_sizeOf he,Value.cells,Array.toList_map,hf,Sem.run_pure]
 cases m with
 | false=>exact kL hd (fun a w ha _=>iR a w ha) h
 | true=>exact kU hd (fun a w ha _=>iR a w ha) h
end
end Go.SL
