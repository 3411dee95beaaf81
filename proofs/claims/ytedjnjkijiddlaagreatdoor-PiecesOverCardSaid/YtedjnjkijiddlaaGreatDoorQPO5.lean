import Derived.Test.YtedjnjkijiddlaaGreatDoorQPO2
import Derived.Test.YtedjnjkijiddlaaGreatDoorQPO3
import Derived.Test.YtedjnjkijiddlaaGreatDoorQPO4
set_option linter.unusedSimpArgs false
set_option linter.unusedVariables false
namespace Go.Proofs.YtedjnjkijiddlaaGreatDoor
open Go Go.SL
attribute [local irreducible] J K aD Ends ag aB aM bN aZ aP aV
theorem zz(b:Nat)(es:List (ByteArray × Value)) :
  aD Tryz.prog 202 [.map (some b)] [aM Value.string b es] (fun v H=>∃b',v = .map (some b')∧H=[aM Value.string b' es,aM Value.string b es]):=by
 refine aD.enter Tryz.func202 ak rfl Tryz.ntmps202 zr zr ?_
 intro G F R hR
 refine go ?_
 refine LL (U:=aN) zr zr zr zr ?_
 refine Fc (kv:=Value.string) (es:=es) 0 rfl Tryz.func222 ak ak ak ak zr zr bz ?_
 intro b'
 refine Ps (U:=aN) zr zr zr zr ?_
 refine go ?_
 refine ae hR Tryz.func202 rfl _ rfl ⟨b',rfl,rfl⟩ (ao.fin [0,1] 0 zr zr)
theorem l6{α:Type}(bd:Nat)(D:Dk)(nm:List (ByteArray × Nat))(hm:(D.bm,eK nm)∈D.maps)(g:FuncId)(cap:Array Value)(E:HP)(nm':α→List (ByteArray × Nat))(E':α→HP)(q:α→Prop)(hc:∀b',aD Tryz.prog g (.map (some b')::cap.toList) [aM Value.string b' (eK nm),E] (fun _ H=>∃x,q x∧H=[aM Value.string b' (eK (nm' x)),E' x]))(hlen:D.gk.length≤1000000000) :
  aD Tryz.prog 149 [ptr bd,.func (.func g) #[] cap] [gS bd D,E]
   (fun _ H=>∃x b' v,q x∧H=[gS bd { D with bm:=b',maps:=(b',eK (nm' x))::D.maps,kA:=v,gk:=D.gk++[b'] },E' x]):=by
 obtain⟨room,bm,kA,og,nA,off,maps,dS,files,gk,wl⟩:=D
 simp only at hm hlen ⊢
 refine aD.enter Tryz.func149 ak rfl Tryz.ntmps149 zr zr ?_
 intro G F R hE
 refine aj (iQ _ _ _ _ _ _ _ _ _ _ _ _ _) ?_
 refine go ?_
 obtain⟨j,hj⟩:=List.getElem?_of_mem hm
 refine aG (ao.pick [1] rfl) ?_
 refine aG (gU kJ hj _) ?_
 refine cp [0] zr zr zr zr (zz bm (eK nm)) rfl bG ?_
 rintro _ _⟨b',rfl,rfl⟩
 refine aG (ao.pick [1,2] rfl) ?_
 refine aG (pz kJ hj _) ?_
 refine go ?_
 refine cp [1,7] zr zr zr zr (hc b') rfl bG ?_
 rintro _ _⟨x,hq,rfl⟩
 refine aG (ao.pick [0,2] rfl) ?_
 refine aG (qy kJ (b',eK (nm' x)) maps _) ?_
 refine go ?_
 refine aF (fun w=>Sat G w ([ag bd (cl [.int .i64 room,.map (some b'),kA,og,nA,.bool off] 76)])) (.st 0 (.st 1 (.st 2 (.st 3 (.st 4 (.st 5 (.st 6 (.st 7 (.st 8 (.act 9 (.act 10 (.st 11 (.st 12 (.act 13 .nil)))))))))))))) rfl ak ak ak (fun w hw=>hw.cy (ao.bp ([2]) rfl)) ?_
 refine go ?_
 refine al zr zr zr zr zr zr zr zr zr (fun _ w hw=>hw.cy (ao.bp ([3]) rfl)) ?_
 intro b0
 refine aO (mm:=1) (news:=[.map (some b')]) 6 0 zr zr zr zr zr zr zr zr zr zr zr zr (Vw.ag rfl) rfl (by simp[Value.oneCell']) ah (by show _*8≤_;omega) (fun _=>rfl) (fun _ w hw=>hw.cy (ao.bp ([3]) rfl)) ?_
 intro v'
 have e1:(gk.map fun b=>Value.map (some b))++[.map (some b')]=(gk++[b']).map fun b=>Value.map (some b):=by simp
 have e2:gk.length+1=(gk++[b']).length:=by simp
 rw[e1,e2]
 refine aJ 6 rfl ?_
 rintro av cv rfl
 refine go ?_
 refine aj (ao.pick [3,1,4,5,6,7,2] rfl) ?_
 refine aj (dY bd room b' _ og nA off _ dS files (gk++[b']) wl _) ?_
 refine bS hE Tryz.func149 rfl _ rfl ⟨x,b',_,hq,rfl⟩ (ao.fin [0,1] 1 zr zr)
theorem Rel.new(room bm Rv:Nat)(v:Value)(h:room≤1073741824):Rel ⟨room,bm,v,.slice none 0 0,.slice none 0 0,false,[(Rv,[]),(bm,[])],[],[],[Rv],[]⟩ (Ab.new room) where
 room:=rfl
 off:=rfl
 names:=by simp[Ab.new,eK]
 aq:=eT.one (by simp[eK])
 fs:=eT.nil
 writes:=eT.nil
 ef:=kz.nil _ _ _
 ids:=by simp[Ab.new]
 known:=by simp[Ab.new]
 gK:=by simp[Ab.new]
 nodup:=by simp[Ab.new]
 gl:=by simp[Ab.new]
 gW:=by simp[Ab.new]
 fj:=by simp[Ab.new]
 gX:=h
 kf:=by simp[Ab.new]
 full:=by simp[Ab.new]
theorem Pb(room:Nat)(h1:1≤room)(h2:room≤1073741824) :
  aD Tryz.prog 7 [.int .i64 room] [] (fun v H=>∃bd D,Rel D (Ab.new room)∧v = .tuple #[ptr bd,.int .i64 0]∧H=[gS bd D]):=by
 refine aD.enter Tryz.func7 ak rfl Tryz.ntmps7 zr zr ?_
 intro G F R hE
 repeat'(first|(with_reducible intro qh)|refine gO ?_|refine iC zr zr zr zr ?_ ?_|refine au zr zr ?_ ?_)
 ·omega
 ·omega
 refine n5 rfl bz ?_
 intro bm
 refine aG (ao.head (B:=[kJ (bm,[])]) (fun h hs=>⟨h,sub.refl h,fU (pL _ _ h hs)⟩)) ?_
 refine n5 rfl bz ?_
 intro Rv
 refine aG (ao.head (B:=[kJ (Rv,[])]) (fun h hs=>⟨h,sub.refl h,fU (pL _ _ h hs)⟩)) ?_
 refine al zr zr zr zr zr zr zr zr zr bz ?_
 intro b0
 refine go ?_
 refine bC zr zr bz ?_
 intro bd
 refine go ?_
 refine aj (Af kJ _) ?_
 refine aj (ao.pick [4,0] rfl) ?_
 refine aj (qy kJ (bm,[]) [] _) ?_
 refine aj (ao.pick [3,0] rfl) ?_
 refine aj (qy kJ (Rv,[]) [(bm,[])] _) ?_
 refine aj (ao.pick [2] rfl) ?_
 refine aj (eL 72 1 b0 1 1 [.map (some Rv)] [] _ rfl (Nat.le_refl _) (by simp)) ?_
 refine aj (bJ 109 3 none _) ?_
 refine aj (yS 5 _) ?_
 refine aj (Af eV _) ?_
 refine aj (ao.pick [5,4,1,0,3,2] rfl) ?_
 refine aj (dY bd room bm (.slice (some ⟨b0,0,none⟩) 1 1) (.slice none 0 0) (.slice none 0 0) false [(Rv,[]),(bm,[])] [] [] [Rv] [] _) ?_
 refine ae hE Tryz.func7 rfl _ rfl ⟨bd,_,Rel.new room bm Rv _ h2,rfl,rfl⟩ (ao.fin [0] 0 zr zr)
theorem oG{l:List (ByteArray × Nat)}{k:ByteArray}:(Ab.cG l k).isSome=true↔k∈l.map (·.1):=by
 unfold Ab.cG
 rw[Option.isSome_map,List.find?_isSome]
 simp only[decide_eq_true_eq,List.mem_map]
theorem A6(l:List (ByteArray × Nat))(k:ByteArray):rj (eK l) k=eK (Ab.dx l k):=by
 unfold rj eK Ab.dx
 rw[List.filter_map]
 rfl
theorem AZ(l:List (ByteArray × Nat))(k:ByteArray)(f:Nat):nk (eK l) k (ptr f)=eK (Ab.jH l k f):=by
 have hk:(eK l).map (·.1)=l.map (·.1):=by simp[eK,Function.comp_def]
 unfold nk Ab.jH
 rw[hk]
 by_cases h:(Ab.cG l k).isSome=true
 ·rw[if_pos (oG.1 h),if_pos h]
  simp only[eK,List.map_map]
  apply List.map_congr_left
  intro x _
  simp only[Function.comp]
  split <;> rfl
 ·rw[if_neg (fun h'=>h (oG.2 h')),if_neg h]
  simp[eK]
theorem E2(b box:Nat)(l:List (ByteArray × Nat))(k:ByteArray) :
  aD Tryz.prog 176 [.map (some b),ptr box] [aM Value.string b (eK l),ag box (cl [.string k] 9)] (fun _ H=>H=[aM Value.string b (eK (Ab.dx l k)),ag box (cl [.string k] 9)]):=by
 refine aD.enter Tryz.func176 ak rfl Tryz.ntmps176 zr zr ?_
 intro G F R hE
 refine go ?_
 refine ml 0 vM gE zr zr zr zr zr zr zr ?_
 rw[A6]
 refine go ?_
 refine bS hE Tryz.func176 rfl _ zr zr (ao.fin [0,1] 0 zr zr)
theorem qi(b yQ yP abn f:Nat)(l:List (ByteArray × Nat))(k k2:ByteArray) :
  aD Tryz.prog 209 [.map (some b),ptr yQ,ptr yP,ptr abn] [aM Value.string b (eK l),Sep [ag yQ (cl [.string k] 9),ag yP (cl [ptr f] 107),ag abn (cl [.string k2] 9)]]
   (fun _ H=>H=[aM Value.string b (eK (Ab.jH (Ab.dx l k) k2 f)),emp]):=by
 refine aD.enter Tryz.func209 ak rfl Tryz.ntmps209 zr zr ?_
 intro G F R hE
 refine aj (ao.pick [1] rfl) ?_
 refine aj (ao.cB _ _) ?_
 refine go ?_
 refine ml 3 vM gE zr zr zr zr zr zr zr ?_
 rw[A6]
 refine go ?_
 refine iX 3 vM gE zr zr zr zr zr zr zr zr ?_
 rw[AZ]
 refine go ?_
 refine aj (ao.qg _) ?_
 refine bS hE Tryz.func209 rfl _ zr zr (ao.fin [4,0] 3 zr zr)
theorem Fm(b box:Nat)(l:List (ByteArray × Nat))(k:ByteArray) :
  aD Tryz.prog 150 [.map (some b),ptr box] [aM Value.string b (eK l),ag box (cl [.string k] 9)]
   (fun _ H=>∃f,True∧H=[aM Value.string b (eK (Ab.jH l k f)),eV (f,.slice none 0 0,.slice none 0 0)]):=by
 refine aD.enter Tryz.func150 ak rfl Tryz.ntmps150 zr zr ?_
 intro G F R hE
 refine go ?_
 refine bC zr zr bz ?_
 intro f
 refine go ?_
 refine iX (v:=ptr f) 1 vM gE zr zr zr zr zr zr zr zr ?_
 rw[AZ]
 refine go ?_
 refine bS hE Tryz.func150 rfl _ rfl ⟨f,trivial,rfl⟩ (ao.fin [1,0] 1 zr zr)
theorem fresh(l:List Nat):∃n,n ∉ l:=by
  suffices h:∃n,∀x∈l,x<n from let ⟨n,hn⟩:=h;⟨n,fun hx=>Nat.lt_irrefl _ (hn n hx)⟩
  induction l with
  | nil=>exact⟨0,by simp⟩
  | cons a l ih =>
    obtain⟨n,hn⟩:=ih
    exact⟨max n (a+1),fun x hx=>by
      rcases List.mem_cons.1 hx with rfl|h
      · omega
      · have:=hn x h;omega⟩
theorem G'{G:cC}{w:World}{H:List HP}{files:List (Nat × Value × Value)}{x:Nat × Value × Value}(hs:Sat G w (eV x::aP eV files::H)):x.1 ∉ files.map (·.1):=by
 intro hx
 obtain⟨y,hy,he⟩:=List.mem_map.1 hx
 obtain⟨i,hi⟩:=List.getElem?_of_mem hy
 have h1:=hs.cy ((ao.perm (List.Perm.swap _ _ _)).trans ((gU eV hi _).trans (ao.pick [2,0] rfl)))
 unfold eV at h1
 exact h1.ne he.symm
theorem Iu(A:Ab)(may:Bool):(A.meet may).2.fs=A.fs∧(A.meet may).2.names=A.names∧(A.meet may).2.aq=A.aq∧(A.meet may).2.writes=A.writes∧(A.meet may).2.room=A.room:=by
 unfold Ab.meet
 split
 ·simp
 split
 ·simp
 split
 ·simp
 split
 ·simp
 split <;> simp
theorem Rel.mV{D:Dk}{A:Ab}(h:Rel D A){b':Nat}{v:Value}{nm:List (ByteArray × Nat)}(hk:∀x∈nm,x.2∈A.fs.map (·.1))(hn:(nm.map (·.1)).Nodup)(hl:nm.length≤200) :
  Rel { D with bm:=b',maps:=(b',eK nm)::D.maps,kA:=v,gk:=D.gk++[b'] } (A.mV nm) where
 room:=h.room
 off:=h.off
 names:=by simp[Ab.mV]
 aq:=eT.snoc (h.aq.mono fun b es hb=>List.mem_cons_of_mem _ hb) (by simp)
 fs:=h.fs
 writes:=h.writes
 ef:=h.ef
 ids:=h.ids
 known:=by
  intro st cF
  simp only[Ab.mV,List.mem_cons,List.mem_append,List.not_mem_nil,or_false]at cF
  rcases cF with rfl|cF|rfl
  ·exact hk
  ·exact h.known _ (List.mem_cons_of_mem _ cF)
  ·exact hk
 gK:=h.gK
 nodup:=by
  intro st cF
  simp only[Ab.mV,List.mem_cons,List.mem_append,List.not_mem_nil,or_false]at cF
  rcases cF with rfl|cF|rfl
  ·exact hn
  ·exact h.nodup _ (List.mem_cons_of_mem _ cF)
  ·exact hn
 gl:=h.gl
 gW:=h.gW
 fj:=by
  intro st cF
  simp only[Ab.mV,List.mem_cons,List.mem_append,List.not_mem_nil,or_false]at cF
  rcases cF with rfl|cF|rfl
  ·exact hl
  ·exact h.fj _ (List.mem_cons_of_mem _ cF)
  ·exact hl
 gX:=h.gX
 kf:=h.kf
 full:=by simp[Ab.mV]
theorem Rel.RA{D:Dk}{A:Ab}(h:Rel D A){f:Nat}(hf:f ∉ A.fs.map (·.1)):Rel { D with files:=(f,.slice none 0 0,.slice none 0 0)::D.files } { A with fs:=(f,[],[])::A.fs } where
 room:=h.room
 off:=h.off
 names:=h.names
 aq:=h.aq
 fs:=h.fs.cons ⟨rfl,kz.nil _ _ _,kz.nil _ _ _⟩
 writes:=h.writes
 ef:=h.ef
 ids:=by simp only[List.map_cons,List.nodup_cons];exact⟨hf,h.ids⟩
 known:=fun st cF x hx=>List.mem_cons_of_mem _ (h.known st cF x hx)
 gK:=fun x hx=>List.mem_cons_of_mem _ (h.gK x hx)
 nodup:=h.nodup
 gl:=fun x hx=>by
  rcases List.mem_cons.1 hx with rfl|hx
  ·simp
  ·exact h.gl x hx
 gW:=h.gW
 fj:=h.fj
 gX:=h.gX
 kf:=h.kf
 full:=h.full
theorem eT.ids{q:Nat × Value × Value→Nat × List UInt8 × List UInt8→Prop}{l:List (Nat × Value × Value)}{r:List (Nat × List UInt8 × List UInt8)}(h:eT q l r)(hq:∀x y,q x y→x.1=y.1):l.map (·.1)=r.map (·.1):=by
 apply List.ext_getElem?
 intro i
 simp only[List.getElem?_map]
 cases hx:l[i]? with
 | none =>
  have:r[i]?=none:=by rw[List.getElem?_eq_none_iff]at hx ⊢;rw[← h.1];exact hx
  rw[this];rfl
 | some x =>
  obtain⟨y,hy,zC⟩:=h.left hx
  rw[hy]
  simp[hq x y zC]
theorem Rel.abe{D:Dk}{A:Ab}(h:Rel D A):D.files.map (·.1)=A.fs.map (·.1):=eT.ids h.fs fun x y zC=>zC.1
theorem MC{l:List (ByteArray × Nat)}{k:ByteArray}{f:Nat}(h:Ab.cG l k=none):Ab.jH l k f=l++[(k,f)]:=by simp[Ab.jH,h]
theorem HR(bd:Nat)(D:Dk)(A:Ab)(hR:Rel D A)(name:ByteArray)(cF:A.aq.length≤1000000000) :
  aD Tryz.prog 89 [ptr bd,.string name] [gS bd D]
   (fun v H=>∃f D',f ∉ A.fs.map (·.1)∧Rel D' (A.create (isName name) name f).2∧H=[gS bd D']∧v = .int .i64 (A.create (isName name) name f).1):=by
 refine aD.enter Tryz.func89 ak rfl Tryz.ntmps89 zr zr ?_
 intro G F R hE
 refine go ?_
 refine bC zr zr bz ?_
 intro box
 refine go ?_
 refine al zr zr zr zr zr zr zr zr zr bz ?_
 intro b0
 refine go ?_
 refine cp [0] zr zr zr zr (jt _ _ [name] (Vw.ag rfl) (by simp)) rfl bG ?_
 rintro _ _⟨rfl,rfl⟩
 have e1:[name].all isName=isName name:=by simp
 rw[e1]
 refine go ?_
 refine cp [2] zr zr zr zr (xQ bd D A hR (isName name)) rfl bG ?_
 rintro _ _⟨D',fY,rfl,rfl⟩
 obtain⟨f0,hf0⟩:=fresh (A.fs.map (·.1))
 have hmf:=Iu A (isName name)
 refine go ?_
 refine fD zr zr ?_ ?_
 ·intro h0
  have nL:¬(A.meet (isName name)).1=0:=by have:=of_decide_eq_true h0;omega
  have hf:A.create (isName name) name f0=((A.meet (isName name)).1,(A.meet (isName name)).2):=by simp[Ab.create,nL]
  refine go ?_
  refine ae hE Tryz.func89 rfl _ rfl ⟨f0,D',hf0,by rw[hf];exact fY,rfl,by rw[hf];rfl⟩ (ao.fin [0] 2 zr zr)
 ·intro h0
  have nL:(A.meet (isName name)).1=0:=by have:=of_decide_eq_false h0;omega
  obtain⟨room,bm,kA,og,nA,off,maps,dS,files,gk,wl⟩:=D'
  have NP:gk.length≤1000000000:=by have:=fY.aq.1;simp only at this;rw[this,hmf.2.2.1];exact cF
  refine aj (iQ _ _ _ _ _ _ _ _ _ _ _ _ _) ?_
  refine aF (fun w=>Sat G w ([ag bd (cl [.int .i64 room,.map (some bm),kA,og,nA,.bool off] 76),aP kJ maps,ag box (cl [.string name] 9)])) (.st 0 (.st 1 (.st 2 (.st 3 (.st 4 (.st 5 (.st 6 (.st 7 (.st 8 (.st 9 (.st 10 .nil))))))))))) rfl ak ak ak (fun w hw=>hw.cy (ao.bp ([0,1,7]) rfl)) ?_
  refine go ?_
  refine qq (U:=aN) rfl vM zr zr zr zr zr zr zr (fun w hw=>jM (i:=1) hw rfl fY.names) ?_
  rw[oW]
  cases hl:Ab.cG (A.meet (isName name)).2.names name with
  | some fl =>
   have hf:A.create (isName name) name f0=(5,(A.meet (isName name)).2):=by simp[Ab.create,nL,Ab.look,hl]
   refine go ?_
   refine aj ((ao.pick [0,1,2,3,4,5] rfl).trans (dY _ _ _ _ _ _ _ _ _ _ _ _ _)) ?_
   refine ae hE Tryz.func89 rfl _ rfl ⟨f0,_,hf0,by rw[hf];exact fY,rfl,by rw[hf];rfl⟩ (ao.fin [0] 2 zr zr)
  | none =>
   refine go ?_
   refine LO (kv:=Value.string) (U:=aN) zr zr zr zr (fun w hw=>jM (i:=1) hw rfl fY.names) ?_
   have pT:(eK (A.meet (isName name)).2.names).length=(A.meet (isName name)).2.names.length:=by simp[eK]
   rw[pT]
   refine go ?_
   refine au zr zr ?_ ?_
   ·intro Ef
    have hf:A.create (isName name) name f0=(3,(A.meet (isName name)).2):=by simp[Ab.create,nL,Ab.look,hl];omega
    refine go ?_
    refine aj ((ao.pick [0,1,2,3,4,5] rfl).trans (dY _ _ _ _ _ _ _ _ _ _ _ _ _)) ?_
    refine ae hE Tryz.func89 rfl _ rfl ⟨f0,_,hf0,by rw[hf];exact fY,rfl,by rw[hf];rfl⟩ (ao.fin [0] 2 zr zr)
   ·intro Ef
    refine go ?_
    refine aG ((ao.pick [0,1,2,3,4,5] rfl).trans (dY _ _ _ _ _ _ _ _ _ _ _ _ _)) ?_
    refine cp [0,2] zr zr zr zr (l6 (α:=Nat) bd _ _ fY.names 150 #[ptr box] (ag box (cl [.string name] 9)) (fun f=>Ab.jH (A.meet (isName name)).2.names name f) (fun f=>eV (f,.slice none 0 0,.slice none 0 0)) (fun _=>True) (fun b'=>Fm b' box _ name) NP) rfl bG ?_
    rintro _ _⟨f,b',v,_,rfl⟩
    refine go ?_
    refine aj (iQ _ _ _ _ _ _ _ _ _ _ _ _ _) ?_
    refine aj (ao.pick [6,3] rfl) ?_
    refine rN fun⟨w,hw⟩=>?_
    have hff:f ∉ A.fs.map (·.1):=by have:=G' hw;have h2:=fY.abe;simp only at h2;rw[h2,hmf.1]at this;exact this
    clear hw
    refine aj (qy eV (f,.slice none 0 0,.slice none 0 0) files _) ?_
    have od:(A.meet (isName name)).2.look name=none:=hl
    have hf:A.create (isName name) name f=(0,{ (A.meet (isName name)).2.mV ((A.meet (isName name)).2.names++[(name,f)])with fs:=(f,[],[])::(A.meet (isName name)).2.fs }):=by
     simp only[Ab.create,nL,if_true,od,Option.isSome_none,Bool.false_eq_true,if_false]
     rw[if_neg ah]
    have gY:Ab.jH (A.meet (isName name)).2.names name f=(A.meet (isName name)).2.names++[(name,f)]:=MC hl
    have QU:name ∉ (A.meet (isName name)).2.names.map (·.1):=fun h=>by have:=oG.2 h;rw[hl]at this;cases this
    have Oy:=(fY.RA (f:=f) (by rw[hmf.1];exact hff)).mV (b':=b') (v:=v) (nm:=(A.meet (isName name)).2.names++[(name,f)])
     (fun x hx=>by
      rcases List.mem_append.1 hx with hx|hx
      ·exact List.mem_cons_of_mem _ (fY.known _ (List.mem_cons_self ..) x hx)
      ·simp only[List.mem_singleton]at hx;subst hx;exact List.mem_cons_self ..)
     (by
      rw[List.map_append,List.nodup_append]
      exact⟨fY.nodup _ (List.mem_cons_self ..),by simp,fun a ha b hb=>by simp at hb;subst hb;rintro rfl;exact QU ha⟩)
     (by rw[List.length_append];simp only[List.length_singleton];omega)
    rw[gY]
    refine aj (ao.pick [1,2,3,0,4,5] rfl) ?_
    refine aj (dY bd room b' _ og nA off _ dS _ (gk++[b']) wl _) ?_
    refine ae hE Tryz.func89 rfl _ rfl ⟨f,_,hff,by rw[hf];exact Oy,rfl,by rw[hf];rfl⟩ (ao.fin [0] 1 zr zr)
theorem O2(bd:Nat)(D:Dk)(A:Ab)(hR:Rel D A)(name:ByteArray) :
  aD Tryz.prog 130 [ptr bd,.string name] [gS bd D] (fun v H=>H=[gS bd D]∧v = .tuple #[.int .i64 (A.size name).1,.int .i64 (A.size name).2]):=by
 obtain⟨room,bm,kA,og,nA,off,maps,dS,files,gk,wl⟩:=D
 refine aD.enter Tryz.func130 ak rfl Tryz.ntmps130 zr zr ?_
 intro G F R hE
 refine aj (iQ _ _ _ _ _ _ _ _ _ _ _ _ _) ?_
 refine go ?_
 refine qs (U:=aN) rfl vM zr zr zr zr zr zr zr (fun w hw=>jM (i:=1) hw rfl hR.names) ?_
 rw[oW]
 cases hl:Ab.cG A.names name with
 | none =>
  have hs:A.size name=(0,4):=by simp[Ab.size,Ab.look,hl]
  rw[hs]at hE
  refine go ?_
  refine aj ((ao.pick [0,1,2,3,4,5] rfl).trans (dY _ _ _ _ _ _ _ _ _ _ _ _ _)) ?_
  refine ae hE Tryz.func130 rfl _ rfl ⟨rfl,rfl⟩ (ao.fin [0] 0 zr zr)
 | some fl =>
  have hs:A.size name=((A.now fl).length,0):=by simp[Ab.size,Ab.look,hl]
  rw[hs]at hE
  obtain⟨i,v1,v2,hi,nc,lS,uh⟩:=hR.file (f:=fl) (hR.known _ (List.mem_cons_self ..) _ (pM hl))
  obtain⟨a,cap,rfl,jl⟩:=lS.shape
  refine go ?_
  refine wJ (U:=aN) zr zr (fun w hw=>tF (i:=3) hw rfl hi) zr zr ?_
  refine go ?_
  refine aj ((ao.pick [0,1,2,3,4,5] rfl).trans (dY _ _ _ _ _ _ _ _ _ _ _ _ _)) ?_
  refine ae hE Tryz.func130 rfl _ rfl ⟨rfl,rfl⟩ (ao.fin [0] 0 zr zr)
theorem O5(bd:Nat)(D:Dk)(A:Ab)(hR:Rel D A)(name:ByteArray)(at_ n:Int) :
  aD Tryz.prog 62 [ptr bd,.string name,.int .i64 at_,.int .i64 n] [gS bd D]
   (fun v H=>∃r,H=[aB 5 1 r (A.read name at_ n).1.length (bV (A.read name at_ n).1),gS bd D]∧v = .tuple #[r,.int .i64 (A.read name at_ n).2]):=by
 obtain⟨room,bm,kA,og,nA,off,maps,dS,files,gk,wl⟩:=D
 have jN:=hR.off
 simp only at jN
 refine aD.enter Tryz.func62 ak rfl Tryz.ntmps62 zr zr ?_
 intro G F R hE
 refine aj (iQ _ _ _ _ _ _ _ _ _ _ _ _ _) ?_
 cases off with
 | true =>
  have hs:A.read name at_ n=([],7):=by simp[Ab.read,← jN]
  rw[hs]at hE
  refine go ?_
  refine aj ((ao.pick [0,1,2,3,4,5] rfl).trans (dY _ _ _ _ _ _ _ _ _ _ _ _ _)) ?_
  refine aj (bJ 5 1 none _) ?_
  refine ae hE Tryz.func62 rfl _ rfl ⟨_,rfl,rfl⟩ (ao.fin [0,1] 0 zr zr)
 | false =>
  refine go ?_
  refine qs (U:=aN) rfl vM zr zr zr zr zr zr zr (fun w hw=>jM (i:=1) hw rfl hR.names) ?_
  rw[oW]
  cases hl:Ab.cG A.names name with
  | none =>
   have hs:A.read name at_ n=([],4):=by simp[Ab.read,Ab.look,hl,← jN]
   rw[hs]at hE
   refine go ?_
   refine aj ((ao.pick [0,1,2,3,4,5] rfl).trans (dY _ _ _ _ _ _ _ _ _ _ _ _ _)) ?_
   refine aj (bJ 5 1 none _) ?_
   refine ae hE Tryz.func62 rfl _ rfl ⟨_,rfl,rfl⟩ (ao.fin [0,1] 0 zr zr)
  | some fl =>
   have hs:A.read name at_ n=if at_<0∨n<0∨((A.now fl).length:Int)<at_∨((A.now fl).length:Int)-at_<n then([],1)else(((A.now fl).drop at_.toNat).take n.toNat,0):=by simp[Ab.read,Ab.look,hl,← jN]
   obtain⟨i,v1,v2,hi,nc,lS,uh⟩:=hR.file (f:=fl) (hR.known _ (List.mem_cons_self ..) _ (pM hl))
   obtain⟨a,cap,rfl,jl⟩:=lS.shape
   have zE:=(hR.small fl).1
   have lp:∀(h:at_<0∨n<0∨((A.now fl).length:Int)<at_∨((A.now fl).length:Int)-at_<n),A.read name at_ n=([],1):=fun h=>by rw[hs,if_pos h]
   repeat'(first|(with_reducible intro qh)|refine gO ?_|refine iC zr zr zr zr ?_ ?_|refine au zr zr ?_ ?_|refine wJ (U:=aN) zr zr (fun w hw=>tF (i:=3) hw rfl hi) zr zr ?_)
   any_goals (
    have qZ:=lp ah
    rw[qZ]at hE
    refine aj ((ao.pick [0,1,2,3,4,5] rfl).trans (dY _ _ _ _ _ _ _ _ _ _ _ _ _)) ?_
    refine aj (bJ 5 1 none _) ?_
    refine ae hE Tryz.func62 rfl _ rfl ⟨_,rfl,rfl⟩ (ao.fin [0,1] 0 zr zr))
   refine bj zr zr zr zr zr zr zr ah ah (.inr ah) ?_
   have hr:A.read name at_ n=(((A.now fl).drop at_.toNat).take n.toNat,0):=by rw[hs,if_neg ah]
   have ll:=lS.cut at_.toNat n.toNat ah
   have hlen:(((A.now fl).drop at_.toNat).take n.toNat).length=n.toNat:=by rw[List.length_take,List.length_drop];omega
   refine az 61 (.slice (sliceAt a cap at_.toNat 1) (((A.now fl).drop at_.toNat).take n.toNat).length (cap-at_.toNat)) rfl (by rw[hlen];congr 1;omega) ?_
   have Sm:kz dS (.slice (sliceAt a cap at_.toNat 1) (((A.now fl).drop at_.toNat).take n.toNat).length (cap-at_.toNat)) (((A.now fl).drop at_.toNat).take n.toNat):=by rw[hlen];exact ll
   rw[hr]at hE
   clear ll hr hs lp
   generalize Yv:((A.now fl).drop at_.toNat).take n.toNat=bs at hE Sm hlen ⊢
   refine go ?_
   refine cp [2] zr zr zr zr (kT _ _ bs (Sm.view _) ah) rfl bG ?_
   rintro r _ rfl
   refine go ?_
   refine aj (ao.pick [2,3,1,4,5,6] rfl) ?_
   refine aj (dY bd room bm kA og nA false maps dS files gk wl _) ?_
   refine ae hE Tryz.func62 rfl _ rfl ⟨r,rfl,rfl⟩ (ao.fin [1,0] 0 zr zr)
def fK(name:ByteArray)(at_:Int)(b:List UInt8):Bool:=isName name && decide (0≤at_) && decide (at_≤1048576) && decide ((b.length:Int)≤1048576-at_)
theorem yz(A:Ab)(name:ByteArray):A.find name false=(1,none,A):=by simp[Ab.find,Ab.meet]
theorem zW(A:Ab)(name:ByteArray)(at_:Nat)(b:List UInt8):A.write false name at_ b=(1,A):=by simp[Ab.write,yz]
theorem P3{fs:List (Nat × List UInt8 × List UInt8)}(hn:(fs.map (·.1)).Nodup){i f:Nat}{x:List UInt8 × List UInt8}(hi:fs[i]?=some (f,x))(n:List UInt8):Ab.Bn fs f n=fs.set i (f,n,x.2):=by
 induction fs generalizing i with
 | nil=>simp at hi
 | cons y l ih =>
  simp only[List.map_cons,List.nodup_cons]at hn
  cases i with
  | zero =>
   simp at hi
   subst hi
   simp only[Ab.Bn,List.map_cons,if_true,List.set_cons_zero,List.cons.injEq,true_and]
   rw[List.map_congr_left (g:=id) (fun z hz=>?_),List.map_id]
   have:z.1≠f:=fun e=>hn.1 (List.mem_map.2 ⟨z,hz,e⟩)
   simp[this]
  | succ i =>
   simp at hi
   have bT:y.1≠f:=fun e=>hn.1 (List.mem_map.2 ⟨_,List.mem_of_getElem? hi,e.symm⟩)
   have:=ih hn.2 hi
   simp only[Ab.Bn]at this
   simp only[Ab.Bn,List.map_cons,bT,if_false,List.set_cons_succ,this]
theorem sK(fs:List (Nat × List UInt8 × List UInt8))(f:Nat)(n:List UInt8):(Ab.Bn fs f n).map (·.1)=fs.map (·.1):=by
 simp only[Ab.Bn,List.map_map]
 apply List.map_congr_left
 intro x _
 simp only[Function.comp]
 split <;> rfl
theorem Rel.wrote{D:Dk}{A:Ab}(h:Rel D A){i f at_:Nat}{v1 v2 v3 v4:Value}{n b:List UInt8}{arrs':fF}{w:Value}(hi:D.files[i]?=some (f,v1,v2))(ha:A.fs[i]?=some (f,A.now f,A.sure f))(er:∀x∈D.dS,x∈arrs')(hn:kz arrs' v3 n)(hb:kz arrs' v4 b)(D9:n.length≤1048576)(iD:at_+b.length≤1048576) :
  Rel { D with files:=D.files.set i (f,v3,v2),dS:=arrs',og:=w,wl:=D.wl++[(f,at_,v4)] } { A with fs:=Ab.Bn A.fs f n,writes:=A.writes++[(f,at_,b)] } where
 room:=h.room
 off:=h.off
 names:=h.names
 aq:=h.aq
 fs:=by
  rw[P3 h.ids ha]
  have h2:=h.fs.2 i _ _ hi ha
  exact eT.set (h.fs.mono fun x y zC=>⟨zC.1,zC.2.1.mono er,zC.2.2.mono er⟩) i ⟨rfl,hn,h2.2.2.mono er⟩
 writes:=eT.snoc (h.writes.mono fun x y zC=>⟨zC.1,zC.2.1,zC.2.2.mono er⟩) ⟨rfl,rfl,hb⟩
 ef:=h.ef.mono er
 ids:=by simp only[sK];exact h.ids
 known:=by simp only[sK];exact h.known
 gK:=by
  simp only[sK]
  intro x hx
  rcases List.mem_append.1 hx with hx|hx
  ·exact h.gK x hx
  ·simp only[List.mem_singleton]at hx;subst hx;exact List.mem_map.2 ⟨_,List.mem_of_getElem? ha,rfl⟩
 nodup:=h.nodup
 gl:=by
  intro x hx
  simp only[Ab.Bn,List.mem_map]at hx
  obtain⟨y,hy,rfl⟩:=hx
  have:=h.gl y hy
  split
  ·exact⟨D9,this.2⟩
  ·exact this
 gW:=by
  intro x hx
  rcases List.mem_append.1 hx with hx|hx
  ·exact h.gW x hx
  ·simp only[List.mem_singleton]at hx;subst hx;exact iD
 fj:=h.fj
 gX:=h.gX
 kf:=h.kf
 full:=h.full
theorem eP(old:List UInt8)(at_:Nat)(b:List UInt8):(bH old at_ b).length=max old.length (at_+b.length):=by
 unfold bH;simp;omega
theorem nN(A:Ab)(name:ByteArray)(ok:Bool):(A.find name ok).2.2.fs=A.fs∧(A.find name ok).2.2.names=A.names∧(A.find name ok).2.2.aq=A.aq∧(A.find name ok).2.2.writes=A.writes∧(A.find name ok).2.2.room=A.room:=by
 have:=Iu A ok
 unfold Ab.find
 split
 ·cases (A.meet ok).2.look name <;> exact this
 ·exact this
theorem Rel.v8{D:Dk}{A:Ab}(h:Rel D A):A.used≤209715200:=by
 rw[← xh (h.nodup _ (List.mem_cons_self ..))]
 have:=C2 (fun f=>(h.small f).1) (A.names.map (·.1))
 have h2:=h.fj _ (List.mem_cons_self ..)
 rw[List.length_map]at this
 omega
theorem Lj(e:TypeId)(v:Value)(bs:List UInt8)(M:fF):∀h,star (aB e 1 v bs.length (bV bs)) (aV e M) h→∃M',(kz M' v bs∧∀x∈M,x∈M')∧Sep [aV e M'] h:=fun h hs=>by
 obtain⟨M',h1,h2,h3⟩:=OU e v bs M h hs
 exact⟨M',⟨h1,h2⟩,fU h3⟩
theorem l5{A:Ab}{name:ByteArray}{ok:Bool}(h:(A.find name ok).1=0):ok=true∧∃fl,(A.find name ok).2.1=some fl∧(name,fl)∈(A.find name ok).2.2.names:=by
 unfold Ab.find at h ⊢
 split
 ·rename_i h0
  rw[if_pos h0]at h
  cases hl:(A.meet ok).2.look name with
  | none=>rw[hl]at h;cases h
  | some f =>
   refine⟨?_,f,rfl,pM hl⟩
   cases ok with
   | true=>rfl
   | false=>simp[Ab.meet]at h0
 ·rename_i h0
  rw[if_neg h0]at h
  exact absurd h h0
theorem Lr(bd:Nat)(D:Dk)(A:Ab)(hR:Rel D A)(name:ByteArray)(at_:Int)(X:HP)(bv:Value)(b:List UInt8)(hv:Vw X bv b.length (bV b))(eH:A.writes.length≤1000000000)(iD:b.length≤1000000000)(PY : -9223372036854775808≤at_∧at_≤9223372036854775807) :
  aD Tryz.prog 102 [ptr bd,.string name,.int .i64 at_,bv] [gS bd D,X]
   (fun v H=>∃D',Rel D' (A.write (fK name at_ b) name at_.toNat b).2∧H=[gS bd D',X]∧v = .int .i64 (A.write (fK name at_ b) name at_.toNat b).1):=by
 obtain⟨a0,c0,rfl⟩:=hv.shape
 refine aD.enter Tryz.func102 ak rfl Tryz.ntmps102 zr zr ?_
 intro G F R hE
 refine go ?_
 refine al zr zr zr zr zr zr zr zr zr bz ?_
 intro b0
 refine go ?_
 refine cp [0] zr zr zr zr (jt _ _ [name] (Vw.ag rfl) (by simp)) rfl bG ?_
 rintro _ _⟨rfl,rfl⟩
 have e1:[name].all isName=isName name:=by simp
 rw[e1]
 cases ld:isName name with
 | false =>
  have hm:fK name at_ b=false:=by simp[fK,ld]
  rw[hm,zW]at hE
  refine go ?_
  refine cp [1] zr zr zr zr (jQ bd D A hR name false) rfl bG ?_
  rw[yz]
  rintro _ _⟨D',fY,rfl,rfl⟩
  refine go ?_
  refine ae hE Tryz.func102 rfl _ rfl ⟨D',fY,rfl,rfl⟩ (ao.fin [0,2] 1 zr zr)
 | true =>
  repeat'(first|(with_reducible intro qh)|refine gO ?_|refine iC zr zr zr zr ?_ ?_|fail)
  any_goals (
   have hm:fK name at_ b=false:=by simp[fK,ld, *]
   rw[hm,zW]at hE
   refine cp [1] zr zr zr zr (jQ bd D A hR name false) rfl bG ?_
   rw[yz]
   rintro _ _⟨D',fY,rfl,rfl⟩
   refine go ?_
   refine ae hE Tryz.func102 rfl _ rfl ⟨D',fY,rfl,rfl⟩ (ao.fin [0,2] 1 zr zr))
  rename_i h2
  obtain⟨at_,rfl⟩:=Int.eq_ofNat_of_zero_le h2
  simp only[Int.toNat_natCast]at hE
  have hm:fK name at_ b=decide ((b.length:Int)≤1048576-at_):=by simp[fK,ld, *]
  refine az 31 (.bool (fK name at_ b)) rfl (congrArg Value.bool hm.symm) ?_
  refine cp [1] zr zr zr zr (jQ bd D A hR name (fK name at_ b)) rfl bG ?_
  generalize lC:fK name at_ b=ok at hE hm ⊢
  rintro _ _⟨D',fY,rfl,rfl⟩
  refine go ?_
  refine fD zr zr ?_ ?_
  ·intro h0
   have nL:¬(A.find name ok).1=0:=by have:=of_decide_eq_true h0;omega
   have hw:A.write ok name at_ b=((A.find name ok).1,(A.find name ok).2.2):=by simp[Ab.write,nL]
   rw[hw]at hE
   refine go ?_
   refine ae hE Tryz.func102 rfl _ rfl ⟨D',fY,rfl,rfl⟩ (ao.fin [0,2] 1 zr zr)
  ·intro h0
   have nL:(A.find name ok).1=0:=by have:=of_decide_eq_false h0;omega
   obtain⟨WL,fl,nJ,fg⟩:=l5 nL
   rw[WL]at hm
   have hlen:=of_decide_eq_true hm.symm
   have hw:A.write ok name at_ b=if(A.find name ok).2.2.room<(A.find name ok).2.2.used+(at_+b.length-((A.find name ok).2.2.now fl).length)then(3,(A.find name ok).2.2)
    else(0,{ (A.find name ok).2.2 with fs:=Ab.Bn (A.find name ok).2.2.fs fl (bH ((A.find name ok).2.2.now fl) at_ b),writes:=(A.find name ok).2.2.writes++[(fl,at_,b)] }):=by simp[Ab.write,nL,nJ]
   rw[nJ]
   have ab1:(A.find name ok).2.2.writes.length≤1000000000:=by rw[(nN A name ok).2.2.2.1];exact eH
   generalize (A.find name ok).2.2=A1 at *
   obtain⟨room,bm,kA,og,nA,off,maps,dS,files,gk,wl⟩:=D'
   obtain⟨i,v1,v2,hi,nc,lS,uh⟩:=fY.file (f:=fl) (fY.known _ (List.mem_cons_self ..) _ fg)
   obtain⟨a,cap,rfl,jl⟩:=lS.shape
   have zE:=(fY.small fl).1
   have pS:=fY.room
   have PN:=fY.gX
   simp only at pS
   refine aj (iQ _ _ _ _ _ _ _ _ _ _ _ _ _) ?_
   refine aF (fun w=>Sat G w ([ag bd (cl [.int .i64 room,.map (some bm),kA,og,nA,.bool off] 76),aP eV files])) (.st 0 (.st 2 (.st 3 (.st 4 (.st 5 (.st 6 (.st 7 (.st 8 (.st 9 (.st 10 (.st 11 (.st 12 (.st 14 (.st 15 (.st 16 (.st 17 (.act 1 (.st 13 (.st 18 .nil))))))))))))))))))) rfl ak ak ak (fun w hw=>hw.cy (ao.bp ([0,3]) rfl)) ?_
   refine go ?_
   refine lG zr zr (fun w hw=>tF (i:=1) hw rfl hi) zr zr ?_
   refine go ?_
   refine aG ((ao.pick [0,1,2,3,4,5] rfl).trans (dY _ _ _ _ _ _ _ _ _ _ _ _ _)) ?_
   have hul:=fY.v8
   refine cp [0] rfl rfl rfl rfl (OZ bd _ A1 fY) rfl (fun _ _ w hp hw=>by obtain⟨rfl,_⟩:=hp;exact hw.cy ((iQ _ _ _ _ _ _ _ _ _ _ _ _ _).trans (ao.bp [0,3] rfl))) ?_
   rintro _ _⟨rfl,rfl⟩
   refine go ?_
   refine au zr zr ?_ ?_
   ·intro Ef
    rw[if_pos ah]at hw
    rw[hw]at hE
    refine go ?_
    refine ae hE Tryz.func102 rfl _ rfl ⟨_,fY,rfl,rfl⟩ (ao.fin [0,2] 1 zr zr)
   ·intro Ef
    rw[if_neg ah]at hw
    rw[hw]at hE
    refine go ?_
    refine aG (iQ _ _ _ _ _ _ _ _ _ _ _ _ _) ?_
    refine go ?_
    refine aG (ao.pick [3] rfl) ?_
    refine aG (gU eV hi _) ?_
    refine go ?_
    refine aG (ao.pick [4,8] rfl) ?_
    refine aG (ao.join _ _ _) ?_
    refine cp [0] zr zr zr zr (ui (star (aV 5 dS) X) _ _ (A1.now fl) b at_ (lS.view _).left hv.right ah) rfl bG ?_
    rintro _ _⟨bl,oQ,rfl,El,rfl⟩
    refine aG (ao.pick [1] rfl) ?_
    refine aG (ao.part _ _ _) ?_
    refine aG (ao.pick [2,0] rfl) ?_
    refine aG (yT 5 bl _ dS _) ?_
    refine go ?_
    refine aj (ao.pick [2,3] rfl) ?_
    refine aj (nw eV (y:=(fl,.slice (some ⟨bl,0,none⟩) (bH (A1.now fl) at_ b).length oQ,v2)) hi _) ?_
    refine aF (fun w=>Sat G w ([ag bd (cl [.int .i64 room,.map (some bm),kA,og,nA,.bool off] 76)])) (.st 0 (.st 1 (.st 2 (.st 3 (.st 4 (.st 5 (.st 6 (.st 7 (.act 8 (.st 9 (.act 10 (.act 11 (.st 12 (.st 13 (.act 14 .nil))))))))))))))) rfl ak ak ak (fun w hw=>hw.cy (ao.bp ([3]) rfl)) ?_
    refine go ?_
    refine cp [2] rfl rfl rfl rfl (kT X _ b hv iD) rfl (fun _ _ w hp hw=>by subst hp;exact hw.cy (ao.bp [4] rfl)) ?_
    rintro r _ rfl
    refine aJ 0 rfl ?_
    rintro ar cr rfl
    refine go ?_
    refine al zr zr zr zr zr zr zr zr zr (fun _ w hw=>hw.cy (ao.bp ([5]) rfl)) ?_
    intro b1
    refine aO (mm:=1) (news:=[ptr fl,.int .i64 at_,.slice ar b.length cr]) 8 0 zr zr zr zr zr zr zr zr zr zr zr zr (Vw.ag rfl) rfl (by simp[Value.oneCell',ptr]) (by have:=fY.writes.1;simp only at this;omega) (by have:=fY.writes.1;simp only at this;show _*40≤_;omega) (fun _=>rfl) (fun _ w hw=>hw.cy (ao.bp ([5]) rfl)) ?_
    intro v'
    have e2:eW wl++[ptr fl,.int .i64 at_,.slice ar b.length cr]=eW (wl++[(fl,at_,.slice ar b.length cr)]):=by simp[eW]
    have e3:wl.length+1=(wl++[(fl,at_,Value.slice ar b.length cr)]).length:=by simp
    rw[e2,e3]
    refine aJ 8 rfl ?_
    rintro av cv rfl
    refine go ?_
    refine aT ?_;refine bZ 5 gE zr zr zr zr zr zr zr zr zr ?_
    refine go ?_
    refine aj (ao.pick [1,4] rfl) ?_
    refine aj (ao.join _ _ _) ?_
    refine eE (Lj 5 _ b _) ?_
    rintro arrs'⟨KU,er⟩
    have Oy:=fY.wrote (w := .slice av (wl++[(fl,at_,Value.slice ar b.length cr)]).length cv) hi nc (fun x hx=>er x (List.mem_cons_of_mem _ hx)) ((kz.row (cap:=oQ) El).mono er) KU (by rw[eP];omega) (by omega:at_+b.length≤1048576)
    refine aj (ao.pick [4,5,0,3,6,7] rfl) ?_
    refine aj (dY bd room bm kA _ nA off maps arrs' _ gk _ _) ?_
    refine ae hE Tryz.func102 rfl _ rfl ⟨_,Oy,rfl,rfl⟩ (ao.fin [0,2] 2 zr zr)
theorem EE{l:List (ByteArray × Nat)}{k:ByteArray}{x:ByteArray × Nat}(h:x∈Ab.dx l k):x∈l∧x.1≠k:=by
 simpa[Ab.dx]using h
theorem OF(l:List (ByteArray × Nat))(k:ByteArray):(Ab.dx l k).length≤l.length:=List.length_filter_le _ _
theorem yG{l:List (ByteArray × Nat)}(h:(l.map (·.1)).Nodup)(k:ByteArray):((Ab.dx l k).map (·.1)).Nodup:=(List.filter_sublist.map _).nodup h
theorem Rr{l:List (ByteArray × Nat)}{k:ByteArray}{f:Nat}(h:(k,f)∈l):(Ab.dx l k).length+1≤l.length:=by
 have:(Ab.dx l k).length<l.length:=by
  unfold Ab.dx
  rw[List.length_filter_lt_length_iff_exists]
  exact⟨_,h,by simp⟩
 omega
theorem ME(l:List (ByteArray × Nat))(k:ByteArray)(f:Nat):(Ab.jH l k f).length≤l.length+1:=by
 unfold Ab.jH
 split <;> simp
theorem MD{l:List (ByteArray × Nat)}{k:ByteArray}{f:Nat}{x:ByteArray × Nat}(h:x∈Ab.jH l k f):x=(k,f)∨x∈l:=by
 unfold Ab.jH at h
 split at h
 ·obtain⟨y,hy,rfl⟩:=List.mem_map.1 h
  split
  ·exact .inl rfl
  ·exact .inr hy
 ·rcases List.mem_append.1 h with h|h
  ·exact .inr h
  ·exact .inl (by simpa using h)
theorem F9{l:List (ByteArray × Nat)}(h:(l.map (·.1)).Nodup)(k:ByteArray)(f:Nat):((Ab.jH l k f).map (·.1)).Nodup:=by
 unfold Ab.jH
 split
 ·have:(l.map fun x=>if x.1=k then(k,f)else x).map (·.1)=l.map (·.1):=by
   rw[List.map_map]
   apply List.map_congr_left
   intro x _
   simp only[Function.comp]
   split
   ·rename_i e;exact e.symm
   ·rfl
  rw[this];exact h
 ·rename_i hk
  rw[List.map_append,List.nodup_append]
  exact⟨h,by simp,fun a ha b hb=>by simp at hb;subst hb;rintro rfl;exact hk (oG.2 ha)⟩
theorem HC(bd:Nat)(D:Dk)(A:Ab)(hR:Rel D A)(name:ByteArray)(cF:A.aq.length≤1000000000) :
  aD Tryz.prog 114 [ptr bd,.string name] [gS bd D]
   (fun v H=>∃D',Rel D' (A.remove (isName name) name).2∧H=[gS bd D']∧v = .int .i64 (A.remove (isName name) name).1):=by
 refine aD.enter Tryz.func114 ak rfl Tryz.ntmps114 zr zr ?_
 intro G F R hE
 refine go ?_
 refine bC zr zr bz ?_
 intro box
 refine go ?_
 refine aF (fun w=>Sat G w ([ag box (cl [.string name] 9)])) (.st 0 (.st 1 (.st 2 (.act 3 (.act 4 (.act 5 (.st 6 (.st 7 (.st 8 (.st 9 (.st 10 .nil))))))))))) rfl ak ak ak (fun w hw=>hw.cy (ao.bp ([0]) rfl)) ?_
 refine go ?_
 refine al zr zr zr zr zr zr zr zr zr (fun _ w hw=>hw.cy (ao.bp ([1]) rfl)) ?_
 intro b0
 refine cp [0] rfl rfl rfl rfl (jt _ _ [name] (Vw.ag rfl) (by simp)) rfl (fun _ _ w hp hw=>by obtain⟨_,rfl⟩:=hp;exact hw.cy (ao.bp [1] rfl)) ?_
 rintro _ _⟨rfl,rfl⟩
 have e1:[name].all isName=isName name:=by simp
 rw[e1]
 refine cp [2] rfl rfl rfl rfl (jQ bd D A hR name (isName name)) rfl (fun _ _ w hp hw=>by obtain⟨_,_,rfl,_⟩:=hp;exact hw.cy (ao.bp [2] rfl)) ?_
 generalize lC:isName name=ok at hE ⊢
 rintro _ _⟨D',fY,rfl,rfl⟩
 refine go ?_
 refine fD zr zr ?_ ?_
 ·intro h0
  have nL:¬(A.find name ok).1=0:=by have:=of_decide_eq_true h0;omega
  have hw:A.remove ok name=((A.find name ok).1,(A.find name ok).2.2):=by
   unfold Ab.remove
   generalize A.find name ok=z at nL ⊢
   obtain⟨e,fo,A1⟩:=z
   cases fo with
   | none=>cases e <;> rfl
   | some fl=>cases e with
    | zero=>exact absurd rfl nL
    | succ e=>rfl
  rw[hw]at hE
  refine go ?_
  refine ae hE Tryz.func114 rfl _ rfl ⟨D',fY,rfl,rfl⟩ (ao.fin [0] 2 zr zr)
 ·intro h0
  have nL:(A.find name ok).1=0:=by have:=of_decide_eq_false h0;omega
  obtain⟨WL,fl,nJ,fg⟩:=l5 nL
  have hw:A.remove ok name=(0,(A.find name ok).2.2.mV (Ab.dx (A.find name ok).2.2.names name)):=by
   unfold Ab.remove
   generalize A.find name ok=z at nL nJ ⊢
   obtain⟨e,fo,A1⟩:=z
   simp only at nL nJ
   subst nL nJ
   rfl
  have NP:(A.find name ok).2.2.aq.length≤1000000000:=by rw[(nN A name ok).2.2.1];exact cF
  rw[hw]at hE
  generalize (A.find name ok).2.2=A1 at *
  have NO:D'.gk.length≤1000000000:=by rw[fY.aq.1];exact NP
  refine go ?_
  refine cp [0,2] zr zr zr zr (l6 (α:=Unit) bd D' A1.names fY.names 176 #[ptr box] (ag box (cl [.string name] 9)) (fun _=>Ab.dx A1.names name) (fun _=>ag box (cl [.string name] 9)) (fun _=>True) (fun b'=>aD.post (E2 b' box A1.names name) (fun v H h=>⟨(),trivial,h⟩)) NO) rfl bG ?_
  rintro _ _⟨_,b',v,_,rfl⟩
  have Oy:=fY.mV (b':=b') (v:=v) (nm:=Ab.dx A1.names name) (fun x hx=>fY.known _ (List.mem_cons_self ..) x (EE hx).1) (yG (fY.nodup _ (List.mem_cons_self ..)) name) (Nat.le_trans (OF _ _) (fY.fj _ (List.mem_cons_self ..)))
  refine go ?_
  refine ae hE Tryz.func114 rfl _ rfl ⟨_,Oy,rfl,rfl⟩ (ao.fin [0] 2 zr zr)
abbrev E7:=Nat × Nat × Value
def xS(x:E7):List Value:=[ptr x.1,.int .i64 x.2.1,x.2.2]
theorem gi(l:List E7):eW l=l.flatMap xS:=rfl
theorem ep(x:E7):(xS x).length=3:=rfl
theorem zk(A X:HP)(v:Value)(l:List E7)(hv:Vw A v l.length (eW l))(hlen:l.length≤1000000000)(g:FuncId)(cap:List Value)(p:E7→Bool)(hf:∀x∈l,aD Tryz.prog g (.agg #[ptr x.1,.int .i64 x.2.1,x.2.2]::cap) [X] (fun v H=>v = .bool (p x)∧H=[X])) :
  aD Tryz.prog 206 [v,.func (.func g) #[] cap.toArray] [A,X] (fun r H=>r = .int .i64 (kj p l)∧H=[A,X]):=by
 obtain⟨a,c0,rfl⟩:=hv.shape
 refine aD.enter Tryz.func206 ak rfl Tryz.ntmps206 zr zr ?_
 intro G F R hR
 refine go ?_
 refine bu (fun i:Nat=>i≤l.length∧∀y∈l.take i,p y=false) (fun i=>l.length-i) (fun i=>[(0,.slice a l.length c0),(1,.func (.func g) #[] cap.toArray),(7,.int .i64 l.length),(8,.int .i64 i)]) (fun _=>[A,X]++F) 0 ⟨by simp,by simp⟩ rfl cu (ao.refl _) ?_
 rintro i⟨hi,hb⟩ ih
 refine go ?_
 refine au zr zr ?_ ?_
 ·intro cW
  refine go ?_
  have gw:i<l.length:=by omega
  have hx:l[i]?=some l[i]:=by simp[gw]
  generalize hxx:l[i]=x at hx
  obtain⟨b,o,gD,gb⟩:=hv.some (by rw[← List.length_pos_iff,gi,cH ep];omega)
  simp only[Value.slice.injEq]at gb
  obtain⟨rfl,_,rfl⟩:=gb
  refine cO i 3 zr zr zr zr zr zr zr zr gw ?_
  refine de (U:=aN) (es:=xS x) 0 (i*3) zr zr zr hv rfl (fun j v hj=>?_) zr zr zr ?_
  ·have wo:j<3:=by
    rcases Nat.lt_or_ge j 3 with h|h
    ·exact h
    ·rw[List.getElem?_eq_none (by rw[ep];exact h)]at hj;cases hj
   rw[gi,cY ep hx j wo];exact hj
  refine cp [1] zr zr zr zr (hf x (List.mem_of_getElem? hx)) rfl bG ?_
  rintro _ _⟨rfl,rfl⟩
  refine go ?_
  refine fD zr zr ?_ ?_
  ·intro hp
   refine go ?_
   refine ae hR Tryz.func206 rfl _ rfl ⟨by rw[nH hx hp hb];rfl,rfl⟩ (ao.fin [1,0] 0 zr zr)
  ·intro hp
   refine go ?_
   refine aL ih (i+1) rfl ⟨ah,tM hb hx hp⟩ ah cu (ao.pick [1,0] rfl)
 ·intro fq
  refine go ?_
  have:i=l.length:=by omega
  subst this
  refine ae hR Tryz.func206 rfl _ rfl ⟨by rw[qK (fun x hx=>hb x (by simpa using hx))];rfl,rfl⟩ (ao.fin [0,1] 0 zr zr)
theorem Lt(c5 f g at_:Nat)(bv:Value)(files:List (Nat × Value × Value))(hf:f∈files.map (·.1))(hg:g∈files.map (·.1))(gu:bv.oneCell'=true) :
  aD Tryz.prog 168 [.agg #[ptr g,.int .i64 at_,bv],ptr c5] [star (ag c5 (cl [ptr f] 107)) (aP eV files)] (fun v H=>v = .bool (decide (g=f))∧H=[star (ag c5 (cl [ptr f] 107)) (aP eV files)]):=by
 have row:∀ {G:cC} {w:World} {H:List HP} {i y:Nat},Sat G w H→cq H i=some (aP eV files)→y∈files.map (·.1)→Row w y:=by
  intro G w H i y hs hi hy
  obtain⟨⟨y',v1,v2⟩,hm,rfl⟩:=List.mem_map.1 hy
  obtain⟨j,hj⟩:=List.getElem?_of_mem hm
  exact⟨_,_,yB hs hi hj⟩
 refine aD.enter Tryz.func168 ak rfl Tryz.ntmps168 zr zr ?_
 intro G F R hE
 refine aj (ao.part _ _ _) ?_
 refine go ?_
 refine bC zr zr bz ?_
 intro bx
 refine go ?_
 refine RJ (U:=aN) zr zr zr zr zr zr zr (fun w hw=>row (i:=2) hw rfl hg) (fun w hw=>row (i:=2) hw rfl hf) ?_
 refine go ?_
 refine aj (ao.pick [1,2] rfl) ?_
 refine aj (ao.join _ _ _) ?_
 refine ae hE Tryz.func168 rfl _ rfl ⟨congrArg Value.bool (by simp),rfl⟩ (ao.fin [0] 1 zr zr)
theorem vZ(v:Value)(l:List E7)(X:HP)(g:FuncId)(cap:List Value)(p:E7→Bool)(hlen:l.length≤1000000000)(gb:∀x∈l,∃a n c,x.2.2 = .slice a n c)(hf:∀x∈l,aD Tryz.prog g (.agg #[ptr x.1,.int .i64 x.2.1,x.2.2]::cap) [X] (fun v H=>v = .bool (p x)∧H=[X])) :
  aD Tryz.prog 167 [v,.func (.func g) #[] cap.toArray] [aB 109 3 v l.length (eW l),X]
   (fun r H=>H=[aB 109 3 r (l.filter fun x => !p x).length (eW (l.filter fun x => !p x)),X]):=by
 refine aD.enter Tryz.func167 ak rfl Tryz.ntmps167 zr zr ?_
 intro G F R hE
 refine dv 0 rfl ?_
 rintro a0 c rfl
 refine go ?_
 refine iL 0 rfl ?_
 intro hv
 refine cp [0,1] zr zr zr zr (zk _ X _ l hv hlen g cap p hf) rfl bG ?_
 rintro _ _⟨rfl,rfl⟩
 refine go ?_
 refine au zr zr ?_ ?_
 ·intro h0
  have lY:l.any p=false:=nI.1 ah
  have nJ:(l.filter fun x => !p x)=l:=List.filter_eq_self.2 fun x hx=>by
   have:=List.any_eq_false.1 lY x hx
   simpa using this
  rw[nJ]at hE
  refine go ?_
  refine ae hE Tryz.func167 rfl _ zr zr (ao.fin [0,1] 0 zr zr)
 ·intro h0
  obtain⟨i0,x0,KL,Wk,IM,rD⟩:=x7 h0
  have acU:i0<l.length:=by
   rcases Nat.lt_or_ge i0 l.length with h|h
   ·exact h
   ·rw[List.getElem?_eq_none h]at Wk;cases Wk
  rw[KL]
  refine go ?_
  refine sA (fun a lk hn _=>by omega) ?_
  rintro b o c' pre bQ oK mz hnc jl ln
  simp only[Value.slice.injEq,true_and]at oK
  obtain⟨rfl,rfl⟩:=oK
  have h1:l.take (i0+1)=l.take i0++[x0]:=by rw[List.take_add_one,Wk];rfl
  have GY:(l.take i0).filter (fun x => !p x)=l.take i0:=List.filter_eq_self.2 fun x hx=>by simp[rD x hx]
  refine bu (fun s:Nat × Nat × List E7=>s.1<s.2.1∧s.2.1≤l.length∧s.2.2.length=l.length∧s.2.2.take s.1=(l.take s.2.1).filter (fun x => !p x)∧s.2.2.drop s.2.1=l.drop s.2.1) (fun s=>l.length-s.2.1)
   (fun s=>[(0,.slice (some ⟨b,o,none⟩) l.length c),(1,.func (.func g) #[] cap.toArray),(5,.int .i64 s.1),(6,.int .i64 s.2.1)])
   (fun s=>ag b (cl (pre++eW s.2.2++bQ) 109)::X::F) (i0,i0+1,l) ⟨by simp,by simp only;omega,rfl,by simp only[h1,List.filter_append,GY];simp[IM],rfl⟩ rfl cu (ao.refl _) ?_
  rintro⟨i,j,E⟩⟨AL,yg,PZ,Es,Rb⟩ ih
  simp only at AL yg PZ Es Rb
  have eH:(eW E).length=l.length*3:=by rw[gi,cH ep,PZ]
  have hvE:Vw (ag b (cl (pre++eW E++bQ) 109)) (.slice (some ⟨b,o,none⟩) l.length c) l.length (eW E):=Vw.ag (by rw[List.append_assoc,← mz,List.drop_left,List.take_left])
  refine go ?_
  refine au zr zr ?_ ?_
  ·intro cW
   simp only at cW
   have qL:j<l.length:=by omega
   obtain⟨⟨fx,ax,bx⟩,hx⟩:∃x,l[j]?=some x:=⟨l[j],by simp[qL]⟩
   have hEx:E[j]?=some (fx,ax,bx):=by
    have:=congrArg (·[0]?) Rb
    simp only[List.getElem?_drop,Nat.add_zero]at this
    rw[this];exact hx
   have fg:=List.mem_of_getElem? hx
   obtain⟨ab,nb,cb,vV⟩:=gb _ fg
   simp only at vV
   subst vV
   have W3:=hf _ fg
   refine go ?_
   refine cO j 3 zr zr zr zr zr zr zr zr qL ?_
   refine de (U:=aN) (es:=xS (fx,ax,.slice ab nb cb)) 0 (j*3) zr zr zr hvE rfl (fun q v hq=>?_) zr zr zr ?_
   ·have wo:q<3:=by
     rcases Nat.lt_or_ge q 3 with h|h
     ·exact h
     ·rw[List.getElem?_eq_none (by rw[ep];exact h)]at hq;cases hq
    rw[gi,cY ep hEx q wo];exact hq
   refine aw zr zr zr bz ?_
   intro bv
   refine go ?_
   refine dw 0 zr zr zr zr zr zr ?_
   refine cp [2] zr zr zr zr (W3) rfl bG ?_
   rintro _ _⟨rfl,rfl⟩
   refine go ?_
   refine fD zr zr ?_ ?_
   ·intro hp
    have sG:p (fx,ax,.slice ab nb cb)=false:=by simpa using hp
    refine go ?_
    refine dw 1 zr zr zr zr zr zr ?_
    refine go ?_
    refine cO i 3 zr zr zr zr zr zr zr zr ah ?_
    refine kr (U:=aN) (l':=pre++eW (E.set i (fx,ax,.slice ab nb cb))++bQ) 2 gE zr zr zr zr zr zr zr ?_ ?_ rfl ?_
    ·show o+i*3+3≤_
     rw[List.length_append,List.length_append,eH];omega
    ·show _=List.take (o+i*3) (pre++eW E++bQ)++xS (fx,ax,.slice ab nb cb)++List.drop (o+i*3+(xS (fx,ax,.slice ab nb cb)).length) (pre++eW E++bQ)
     rw[← mz,ot _ _ _ _ _ (by rw[ep,eH];omega),gi,uS ep ah]
     rfl
    refine go ?_
    refine aL ih (i+1,j+1,E.set i (fx,ax,.slice ab nb cb)) rfl ⟨by simp only;omega,by simp only;omega,by simp only[List.length_set];exact PZ,?_,?_⟩ (by simp only;omega) cu (ao.to [2,0] 1 zr zr zr)
    ·simp only
     rw[List.take_add_one,List.take_set_of_le (Nat.le_refl i),Es,List.take_add_one (l:=l),hx,List.getElem?_set_self ah]
     simp[List.filter_append,sG]
    ·simp only
     rw[List.drop_set_of_lt ah,← List.drop_drop,Rb,List.drop_drop]
   ·intro hp
    have sG:p (fx,ax,.slice ab nb cb)=true:=by simpa using hp
    refine go ?_
    refine aL ih (i,j+1,E) rfl ⟨by simp only;omega,by simp only;omega,PZ,by simp only;rw[Es,List.take_add_one,hx];simp[List.filter_append,sG],by simp only;rw[← List.drop_drop,Rb,List.drop_drop]⟩ (by simp only;omega) cu (ao.to [2,0] 1 zr zr zr)
  ·intro fq
   refine go ?_
   simp only at fq
   have IU:j=l.length:=by omega
   subst IU
   rw[List.take_length]at Es
   have ye:(l.filter fun x => !p x).length=i:=by rw[← Es,List.length_take];omega
   refine lF zr zr zr zr zr zr zr ah ah (.inl rfl) ?_
   intro o1 N3 Yh
   simp only[Int.toNat_natCast]at N3 Yh
   have N2:i≠c→o1=o+i*3:=N3
   have hL:(pre++eW E++bQ).length=o+l.length*3+bQ.length:=by rw[List.length_append,List.length_append,eH,mz]
   obtain⟨ry,Oa,acQ⟩:∃ry,(pre++eW E++bQ).take o1++(List.replicate (((l.length:Int).toNat-(i:Int).toNat)) [Value.pointer none,.int .i64 0,.slice none 0 0]).flatten++(pre++eW E++bQ).drop (o1+((l.length:Int).toNat-(i:Int).toNat)*3)=pre++eW (E.take i)++ry∧c*3≤i*3+ry.length:=by
    have W0:i≠c:=by omega
    rw[N2 W0,← mz,List.append_assoc pre,List.take_length_add_append,List.take_append_of_le_length (by rw[eH];omega),gi,gi,Hi ep E i ah]
    refine⟨_,by rw[List.append_assoc],?_⟩
    rw[List.length_append,List.length_drop,lZ]
    simp only[List.length_append,List.length_cons,List.length_nil,cH ep,PZ,Int.toNat_natCast]
    have:=ln
    omega
   refine Jr (U:=aN) (l':=pre++eW (E.take i)++ry) 0 gE zr zr zr zr zr zr zr zr ?_ ?_ rfl ?_
   ·have W0:i≠c:=by omega
    show o1+((l.length:Int).toNat-(i:Int).toNat)*3≤_
    rw[N2 W0,hL];omega
   ·rw[← Oa];rfl
   refine go ?_
   refine lF zr zr zr zr zr zr zr ah ah (.inr ah) ?_
   intro o2 ho3 ho4
   have WM:o2=o:=by
    by_cases sj:(0:Int).toNat=c
    ·exact ho4 sj
    ·have:=ho3 sj;rw[this];simp
   subst WM
   refine go ?_
   refine aj (lL (sz:=3) (nn:=i) (c:=c) mz ah (by rw[gi,cH ep,List.length_take];omega) (by rw[gi,cH ep,List.length_take];omega) _) ?_
   rw[← Es,Es,ye,← Es]at hE
   refine ae hE Tryz.func167 rfl _ zr zr (ao.fin [0,1] 0 zr zr)
theorem zP(bd:Nat)(D:Dk)(A:Ab)(hR:Rel D A) :
    aD Tryz.prog 75 [ptr bd] [gS bd D] (fun v H=>∃D',Rel D' A.cf.2∧H=[gS bd D']∧v = .int .i64 A.cf.1):=by
  refine aD.enter Tryz.func75 ak rfl Tryz.ntmps75 zr zr ?_
  intro G F R hE
  refine go ?_
  refine cp [0] zr zr zr zr (xQ bd D A hR true) rfl bG ?_
  rintro _ _⟨D',fY,rfl,rfl⟩
  refine go ?_
  refine fD zr zr ?_ ?_
  · intro h0
    have nL:¬(A.meet true).1=0:=by have:=of_decide_eq_true h0;omega
    have hf:A.cf=((A.meet true).1,(A.meet true).2):=by simp[Ab.cf,nL]
    rw[hf]at hE
    refine go ?_
    refine ae hE Tryz.func75 rfl _ rfl ⟨D',fY,rfl,rfl⟩ (ao.fin [0] 0 zr zr)
  · intro h0
    have nL:(A.meet true).1=0:=by have:=of_decide_eq_false h0;omega
    have hf:A.cf=(0,{ (A.meet true).2 with aq:=[(A.meet true).2.names] }):=by simp[Ab.cf,nL]
    rw[hf]at hE
    obtain⟨room,bm,kA,og,nA,off,maps,dS,files,gk,wl⟩:=D'
    refine aj (iQ _ _ _ _ _ _ _ _ _ _ _ _ _) ?_
    refine go ?_
    refine al zr zr zr zr zr zr zr zr zr bz ?_
    intro b0
    refine go ?_
    refine aj (eL 72 1 b0 1 1 [.map (some bm)] [] _ rfl (Nat.le_refl _) (by simp)) ?_
    refine aj (ao.pick [1,2,3,4,0,6] rfl) ?_
    refine aj (dY bd room bm _ og nA off maps dS files [bm] wl _) ?_
    have Oy:Rel ⟨room,bm,.slice (some ⟨b0,0,none⟩) 1 1,og,nA,off,maps,dS,files,[bm],wl⟩ { (A.meet true).2 with aq:=[(A.meet true).2.names] } :=
      { room:=fY.room,off:=fY.off,names:=fY.names,aq:=eT.one fY.names,fs:=fY.fs,writes:=fY.writes,ef:=fY.ef,ids:=fY.ids
        known:=fun st cF=>fY.known st (by simp only[List.mem_cons,List.not_mem_nil,or_false]at cF;rcases cF with rfl|rfl <;> exact List.mem_cons_self ..)
        gK:=fY.gK
        nodup:=fun st cF=>fY.nodup st (by simp only[List.mem_cons,List.not_mem_nil,or_false]at cF;rcases cF with rfl|rfl <;> exact List.mem_cons_self ..)
        gl:=fY.gl,gW:=fY.gW
        fj:=fun st cF=>fY.fj st (by simp only[List.mem_cons,List.not_mem_nil,or_false]at cF;rcases cF with rfl|rfl <;> exact List.mem_cons_self ..)
        gX:=fY.gX,kf:=fY.kf,full:=by simp }
    refine ae hE Tryz.func75 rfl _ rfl ⟨_,Oy,rfl,rfl⟩ (ao.fin [0] 1 zr zr)
theorem eT.filter{α β:Type}{q:α→β→Prop}{l:List α}{r:List β}(h:eT q l r){p1:α→Bool}{p2:β→Bool}(hp:∀x y,q x y→p1 x=p2 y):eT q (l.filter p1) (r.filter p2):=by
 induction l generalizing r with
 | nil =>
  have:r=[]:=List.eq_nil_of_length_eq_zero h.1.symm
  subst this;exact eT.nil
 | cons x l ih =>
  cases r with
  | nil=>exact absurd h.1 (by simp)
  | cons y r =>
   have h0:=h.2 0 x y zr zr
   have ht:eT q l r:=⟨by have:=h.1;simpa using this,fun i a b ha hb=>h.2 (i+1) a b (by simpa using ha) (by simpa using hb)⟩
   rw[List.filter_cons,List.filter_cons,hp x y h0]
   split
   ·exact(ih ht).cons h0
   ·exact ih ht
theorem Mk{fs:List (Nat × List UInt8 × List UInt8)}(hn:(fs.map (·.1)).Nodup){i f:Nat}{x:List UInt8 × List UInt8}(hi:fs[i]?=some (f,x)):Ab.nu fs f=fs.set i (f,x.1,x.1):=by
 induction fs generalizing i with
 | nil=>simp at hi
 | cons y l ih =>
  simp only[List.map_cons,List.nodup_cons]at hn
  cases i with
  | zero =>
   simp at hi
   subst hi
   simp only[Ab.nu,List.map_cons,if_true,List.set_cons_zero,List.cons.injEq,true_and]
   rw[List.map_congr_left (g:=id) (fun z hz=>?_),List.map_id]
   have:z.1≠f:=fun e=>hn.1 (List.mem_map.2 ⟨z,hz,e⟩)
   simp[this]
  | succ i =>
   simp at hi
   have bT:y.1≠f:=fun e=>hn.1 (List.mem_map.2 ⟨_,List.mem_of_getElem? hi,e.symm⟩)
   have:=ih hn.2 hi
   simp only[Ab.nu]at this
   simp only[Ab.nu,List.map_cons,bT,if_false,List.set_cons_succ,this]
theorem wU(fs:List (Nat × List UInt8 × List UInt8))(f:Nat):(Ab.nu fs f).map (·.1)=fs.map (·.1):=by
 simp only[Ab.nu,List.map_map]
 apply List.map_congr_left
 intro x _
 simp only[Function.comp]
 split <;> rfl
theorem Rel.synced{D:Dk}{A:Ab}(h:Rel D A){i f:Nat}{v1 v2 w:Value}(hi:D.files[i]?=some (f,v1,v2))(ha:A.fs[i]?=some (f,A.now f,A.sure f)) :
  Rel { D with files:=D.files.set i (f,v1,v1),og:=w,wl:=D.wl.filter fun x => !decide (x.1=f) } { A with fs:=Ab.nu A.fs f,writes:=A.writes.filter fun x => !decide (x.1=f) } where
 room:=h.room
 off:=h.off
 names:=h.names
 aq:=h.aq
 fs:=by
  rw[Mk h.ids ha]
  have h2:=h.fs.2 i _ _ hi ha
  exact eT.set h.fs i ⟨rfl,h2.2.1,h2.2.1⟩
 writes:=eT.filter h.writes (fun x y zC=>by rw[zC.1])
 ef:=h.ef
 ids:=by simp only[wU];exact h.ids
 known:=by simp only[wU];exact h.known
 gK:=by
  simp only[wU]
  exact fun x hx=>h.gK x (List.mem_filter.1 hx).1
 nodup:=h.nodup
 gl:=by
  intro x hx
  simp only[Ab.nu,List.mem_map]at hx
  obtain⟨y,hy,rfl⟩:=hx
  have:=h.gl y hy
  split
  ·exact⟨this.1,this.1⟩
  ·exact this
 gW:=fun x hx=>h.gW x (List.mem_filter.1 hx).1
 fj:=h.fj
 gX:=h.gX
 kf:=h.kf
 full:=h.full
theorem O1(bd:Nat)(D:Dk)(A:Ab)(hR:Rel D A)(name:ByteArray)(eH:A.writes.length≤1000000000) :
  aD Tryz.prog 104 [ptr bd,.string name] [gS bd D]
   (fun v H=>∃D',Rel D' (A.sync (isName name) name).2∧H=[gS bd D']∧v = .int .i64 (A.sync (isName name) name).1):=by
 refine aD.enter Tryz.func104 ak rfl Tryz.ntmps104 zr zr ?_
 intro G F R hE
 refine go ?_
 refine al zr zr zr zr zr zr zr zr zr bz ?_
 intro b0
 refine go ?_
 refine cp [0] zr zr zr zr (jt _ _ [name] (Vw.ag rfl) (by simp)) rfl bG ?_
 rintro _ _⟨rfl,rfl⟩
 have e1:[name].all isName=isName name:=by simp
 rw[e1]
 refine go ?_
 refine cp [1] zr zr zr zr (jQ bd D A hR name (isName name)) rfl bG ?_
 generalize lC:isName name=ok at hE ⊢
 rintro _ _⟨D',fY,rfl,rfl⟩
 by_cases nL:(A.find name ok).1=0
 ·obtain⟨WL,fl,nJ,fg⟩:=l5 nL
  have hw:A.sync ok name=(0,{ (A.find name ok).2.2 with fs:=Ab.nu (A.find name ok).2.2.fs fl,writes:=(A.find name ok).2.2.writes.filter fun x => !decide (x.1=fl) }):=by simp[Ab.sync,nL,nJ]
  rw[hw]at hE
  rw[nJ,nL]
  have ab1:(A.find name ok).2.2.writes.length≤1000000000:=by rw[(nN A name ok).2.2.2.1];exact eH
  generalize (A.find name ok).2.2=A1 at *
  obtain⟨room,bm,kA,og,nA,off,maps,dS,files,gk,wl⟩:=D'
  obtain⟨i,v1,v2,hi,nc,lS,uh⟩:=fY.file (f:=fl) (fY.known _ (List.mem_cons_self ..) _ fg)
  obtain⟨a,cap,rfl,jl⟩:=lS.shape
  refine go ?_
  refine aw zr zr zr bz ?_
  intro c5
  refine go ?_
  refine aj (ao.pick [1] rfl) ?_
  refine aj (iQ _ _ _ _ _ _ _ _ _ _ _ _ _) ?_
  refine aj (ao.pick [3] rfl) ?_
  refine aj (gU eV hi _) ?_
  refine aF (fun w=>Sat G w ([ag c5 (cl [ptr fl] 107),ag fl (cl [.slice a (A1.now fl).length cap,v2] 113)])) (.st 0 (.st 1 (.st 2 (.st 3 (.st 4 (.st 5 (.st 6 (.act 7 .nil)))))))) rfl ak ak ak (fun w hw=>hw.cy (ao.bp ([7,0]) rfl)) ?_
  refine go ?_
  refine aG (nw eV (y:=(fl,.slice a (A1.now fl).length cap,.slice a (A1.now fl).length cap)) hi _) ?_
  refine aG (ao.pick [6,0] rfl) ?_
  refine aG (ao.join _ _ _) ?_
  have Eb:(files.set i (fl,.slice a (A1.now fl).length cap,.slice a (A1.now fl).length cap)).map (·.1)=files.map (·.1):=by
   rw[List.map_set]
   apply List.ext_getElem?
   intro j
   rw[List.getElem?_set]
   split
   ·rename_i AL
    subst AL
    simp only[List.getElem?_map,hi,Option.map_some,List.length_map]
    rw[if_pos (by
     rcases Nat.lt_or_ge i files.length with h|h
     ·exact h
     ·rw[List.getElem?_eq_none h]at hi;cases hi)]
   ·rfl
  have hfi:=fY.abe
  simp only at hfi
  have hwx:∀x∈wl,(∃a n c,x.2.2 = .slice a n c)∧x.1∈files.map (·.1):=fun x hx=>by
   obtain⟨j,hj⟩:=List.getElem?_of_mem hx
   obtain⟨y,hy,h1,_,h3⟩:=fY.writes.left hj
   obtain⟨a,c,h4,_⟩:=h3.shape
   refine⟨⟨_,_,_,h4⟩,?_⟩
   rw[hfi,h1]
   exact fY.gK y (List.mem_of_getElem? hy)
  refine cp [5,0] zr zr zr zr (vZ og wl (star (ag c5 (cl [ptr fl] 107)) (aP eV (files.set i (fl,.slice a (A1.now fl).length cap,.slice a (A1.now fl).length cap)))) 168 [ptr c5] (fun x=>decide (x.1=fl)) (by have:=fY.writes.1;simp only at this;omega) (fun x hx=>(hwx x hx).1)
   (fun x hx=>Lt c5 fl x.1 x.2.1 x.2.2 _ (by rw[Eb,hfi];exact List.mem_map.2 ⟨_,List.mem_of_getElem? nc,rfl⟩) (by rw[Eb];exact(hwx x hx).2) (by obtain⟨⟨a,n,c,h⟩,_⟩:=hwx x hx;rw[h];rfl))) rfl bG ?_
  rintro r _ rfl
  refine aJ 0 rfl ?_
  rintro ar cr rfl
  refine go ?_
  refine aj (ao.pick [1] rfl) ?_
  refine aj (ao.part _ _ _) ?_
  refine aj (ao.pick [3,4,5,1,6,2] rfl) ?_
  refine aj (dY bd room bm kA _ nA off maps dS _ gk _ _) ?_
  refine ae hE Tryz.func104 rfl _ rfl ⟨_,fY.synced hi nc,rfl,rfl⟩ (ao.fin [0] 2 zr zr)
 ·have hw:A.sync ok name=((A.find name ok).1,(A.find name ok).2.2):=by simp[Ab.sync,nL]
  rw[hw]at hE
  cases CH:(A.find name ok).2.1 with
  | none =>
   refine go ?_
   refine aw zr zr zr bz ?_
   intro c5
   refine go ?_
   refine fD zr zr ?_ ?_
   ·intro _
    refine go ?_
    refine ae hE Tryz.func104 rfl _ rfl ⟨D',fY,rfl,rfl⟩ (ao.fin [1] 2 zr zr)
   ·intro h;exfalso;have:=of_decide_eq_false h;omega
  | some fl =>
   refine go ?_
   refine aw zr zr zr bz ?_
   intro c5
   refine go ?_
   refine fD zr zr ?_ ?_
   ·intro _
    refine go ?_
    refine ae hE Tryz.func104 rfl _ rfl ⟨D',fY,rfl,rfl⟩ (ao.fin [1] 2 zr zr)
   ·intro h;exfalso;have:=of_decide_eq_false h;omega
abbrev Mb:=List (Nat × List UInt8 × List UInt8)
structure jW(A0 dS:fF)(files:List (Nat × Value × Value))(fs:Mb)(ids:List Nat):Prop where
 all:eT (fun x y=>x.1=y.1∧kz dS x.2.1 y.2.1∧kz dS x.2.2 y.2.2) files fs
 sub:∀x∈A0,x∈dS
 ids:fs.map (·.1)=ids
 small:∀x∈fs,x.2.1.length≤1048576∧x.2.2.length≤1048576
def rQ(stay:List UInt8)(i:Nat):Bool:=decide (i/8<stay.length∧((stay.getD (i/8) 0).toNat/2 ^ (i%8))%2=1)
theorem Iw(g:Nat × List UInt8 × List UInt8→Nat × List UInt8 × List UInt8){fs:Mb}(hn:(fs.map (·.1)).Nodup){i f:Nat}{x:List UInt8 × List UInt8}(hi:fs[i]?=some (f,x)):(fs.map fun y=>if y.1=f then g y else y)=fs.set i (g (f,x)):=by
 induction fs generalizing i with
 | nil=>simp at hi
 | cons y l ih =>
  simp only[List.map_cons,List.nodup_cons]at hn
  cases i with
  | zero =>
   simp at hi
   subst hi
   simp only[List.map_cons,if_true,List.set_cons_zero,List.cons.injEq,true_and]
   rw[List.map_congr_left (g:=id) (fun z hz=>?_),List.map_id]
   have:z.1≠f:=fun e=>hn.1 (List.mem_map.2 ⟨z,hz,e⟩)
   simp[this]
  | succ i =>
   simp at hi
   have bT:y.1≠f:=fun e=>hn.1 (List.mem_map.2 ⟨_,List.mem_of_getElem? hi,e.symm⟩)
   have:=ih hn.2 hi
   simp only[List.map_cons,bT,if_false,List.set_cons_succ,this]
theorem jW.get{A0 dS:fF}{files:List (Nat × Value × Value)}{fs:Mb}{ids:List Nat}(h:jW A0 dS files fs ids)(hn:ids.Nodup){f:Nat}(hf:f∈ids) :
  ∃(j:Nat) (v1 v2:Value) (n s:List UInt8),files[j]?=some (f,v1,v2)∧fs[j]?=some (f,n,s)∧kz dS v1 n∧kz dS v2 s∧n.length≤1048576∧s.length≤1048576∧(fs.find? fun x=>decide (x.1=f))=some (f,n,s):=by
 rw[← h.ids]at hf hn
 obtain⟨⟨f',n,s⟩,hm,rfl⟩:=List.mem_map.1 hf
 obtain⟨i,hi⟩:=List.getElem?_of_mem hm
 obtain⟨⟨f2,v1,v2⟩,hx,h1,h2,h3⟩:=h.all.right hi
 simp only at h1 h2 h3
 subst h1
 exact⟨i,v1,v2,n,s,hx,hi,h2,h3,(h.small _ hm).1,(h.small _ hm).2,sn hn hi⟩
theorem jW.put{A0 dS arrs':fF}{files:List (Nat × Value × Value)}{fs:Mb}{ids:List Nat}(h:jW A0 dS files fs ids)(hs:∀x∈dS,x∈arrs'){j f:Nat}{v1 v2:Value}{n s:List UInt8}{y:List UInt8 × List UInt8}(hj:fs[j]?=some (f,y))(h1:kz arrs' v1 n)(h2:kz arrs' v2 s)(hl:n.length≤1048576∧s.length≤1048576):jW A0 arrs' (files.set j (f,v1,v2)) (fs.set j (f,n,s)) ids where
 all:=eT.set (h.all.mono fun x y zC=>⟨zC.1,zC.2.1.mono hs,zC.2.2.mono hs⟩) j ⟨rfl,h1,h2⟩
 sub x hx:=hs x (h.sub x hx)
 ids:=by
  rw[← h.ids,List.map_set]
  apply List.ext_getElem?
  intro i
  rw[List.getElem?_set]
  split
  ·rename_i e;subst e;rw[List.getElem?_map,hj]
   have:j<(fs.map (·.1)).length:=by
    rw[List.length_map]
    rcases Nat.lt_or_ge j fs.length with h|h
    ·exact h
    ·rw[List.getElem?_eq_none h]at hj;cases hj
   simp[this]
   rcases Nat.lt_or_ge j fs.length with h|h
   ·exact h
   ·rw[List.getElem?_eq_none h]at hj;cases hj
  ·rfl
 small x hx:=by
  rcases List.mem_or_eq_of_mem_set hx with h'|rfl
  ·exact h.small x h'
  ·exact hl
theorem drop_cons{α:Type}{l:List α}{i:Nat}{x:α}(h:l[i]?=some x):l.drop i=x::l.drop (i+1):=by
 have cW:i<l.length:=by
  rcases Nat.lt_or_ge i l.length with h'|h'
  ·exact h'
  ·rw[List.getElem?_eq_none h']at h;cases h
 rw[List.drop_eq_getElem_cons cW]
 rw[List.getElem?_eq_getElem cW]at h;cases h;rfl
theorem xT{stay:List UInt8}{dD cut:Int}{i:Nat}{ws:List (Nat × Nat × List UInt8)}{fs:Mb}{f a j:Nat}{b c n s:List UInt8}(h:ws[i]?=some (f,a,b))(hn:(fs.map (·.1)).Nodup)(hj:fs[j]?=some (f,n,s))(hk:Ab.kept stay dD cut i b=some c):Ab.jv stay dD cut i (ws.drop i) fs=Ab.jv stay dD cut (i+1) (ws.drop (i+1)) (fs.set j (f,n,bH s a c)):=by
 rw[drop_cons h]
 simp only[Ab.jv,hk]
 rw[sn hn hj]
 have:=Iw (fun y=>(y.1,y.2.1,bH s a c)) hn hj
 unfold Ab.sL
 simp only[Option.map_some,Option.getD_some]
 rw[this]
theorem xU{stay:List UInt8}{dD cut:Int}{i:Nat}{ws:List (Nat × Nat × List UInt8)}{fs:Mb}{f a:Nat}{b:List UInt8}(h:ws[i]?=some (f,a,b))(hk:Ab.kept stay dD cut i b=none):Ab.jv stay dD cut i (ws.drop i) fs=Ab.jv stay dD cut (i+1) (ws.drop (i+1)) fs:=by
 rw[drop_cons h]
 simp only[Ab.jv,hk]
theorem AA{stay:List UInt8}{dD cut:Int}{i c:Nat}{b:List UInt8}(hi:(i:Int)=dD)(hc:max 0 (min cut b.length)=(c:Int)):Ab.kept stay dD cut i b=if c=0 then none else some (b.take c):=by
 unfold Ab.kept
 rw[if_pos hi]
 have e:(max 0 (min cut (b.length:Int))).toNat=c:=by omega
 simp only[e]
 have Yu:c≤b.length:=by omega
 by_cases h0:c=0
 ·simp[h0]
 ·have hlen:(b.take c).length=c:=by rw[List.length_take];omega
  have:b.take c≠[]:=fun he=>by rw[he]at hlen;simp at hlen;omega
  rw[if_neg this,if_neg h0]
theorem Km{stay:List UInt8}{dD cut:Int}{i:Nat}{b:List UInt8}(hi:(i:Int)≠dD):Ab.kept stay dD cut i b=if rQ stay i=true then some b else none:=by
 unfold Ab.kept rQ
 rw[if_neg hi]
 simp only[decide_eq_true_eq]
def mark(S:List Nat)(fs:Mb):Mb:=fs.map fun x=>if x.1∈S then(x.1,x.2.2,x.2.2)else x
theorem Nm(fs:Mb):mark [] fs=fs:=by simp[mark]
theorem No{S S':List Nat}(fs:Mb)(h:∀x,x∈S↔x∈S'):mark S fs=mark S' fs:=by
 unfold mark;apply List.map_congr_left;intro x _;simp only[h]
theorem Nn(S:List Nat)(fs:Mb):(mark S fs).map (·.1)=fs.map (·.1):=by
 unfold mark;rw[List.map_map];apply List.map_congr_left;intro x _;simp only[Function.comp];split <;> rfl
theorem Nl{S:List Nat}{fs:Mb}(hn:(fs.map (·.1)).Nodup){j f:Nat}{n s:List UInt8}(hj:(mark S fs)[j]?=some (f,n,s)):(mark S fs).set j (f,s,s)=mark (f::S) fs:=by
 have h1:=Iw (fun y=>(y.1,y.2.2,y.2.2)) (by rw[Nn];exact hn) hj
 rw[← h1]
 unfold mark
 rw[List.map_map]
 apply List.map_congr_left
 intro x _
 simp only[Function.comp,List.mem_cons]
 by_cases hx:x.1∈S <;> by_cases hf:x.1=f <;> simp only[hx,hf,if_true,if_false,or_true,true_or,or_false,false_or,if_pos,if_neg,not_false_eq_true] <;> simp_all
theorem Rel.crashed{D:Dk}{A:Ab}(h:Rel D A){last dD cut:Int}{stay:List UInt8}{q b1 b0:Nat}{nm:List (ByteArray × Nat)}{arrs':fF}{OA:List (Nat × Value × Value)}{w p:Value}(hw:w = .slice none 0 0)(hp:p = .slice none 0 0)(hq:max 0 (min last ((A.aq.length:Int)-1))=q)(ld:A.aq[q]?=some nm)(hb:(b1,eK nm)∈D.maps)(hF:jW D.dS arrs' OA (mark (Ab.reach (A.aq++[nm])) (Ab.jv stay dD cut 0 A.writes A.fs)) (A.fs.map (·.1))) :
    Rel ⟨D.room,b1,.slice (some ⟨b0,0,none⟩) 1 1,w,p,false,D.maps,arrs',OA,[b1],[]⟩ (A.dp last stay dD cut):=by
  subst hw hp
  have cF:nm∈A.aq:=List.mem_of_getElem? ld
  have e:A.dp last stay dD cut={ A with names:=nm,aq:=[nm],writes:=[],ef:=[],off:=false,fs:=mark (Ab.reach (A.aq++[nm])) (Ab.jv stay dD cut 0 A.writes A.fs) }:=by
    have e1:(max 0 (min last ((A.aq.length:Int)-1))).toNat=q:=by omega
    have e2:A.aq.getD (max 0 (min last ((A.aq.length:Int)-1))).toNat []=nm:=by rw[e1,List.getD_eq_getElem?_getD,ld];rfl
    simp only[Ab.dp,e2];rfl
  rw[e]
  have er:∀st∈nm::[nm],st∈A.names::A.aq:=fun st hs=>by
    simp only[List.mem_cons,List.not_mem_nil,or_false]at hs
    rcases hs with rfl|rfl <;> exact List.mem_cons_of_mem _ cF
  exact
  { room:=h.room,off:=rfl,names:=hb,aq:=eT.one hb,fs:=hF.all,writes:=eT.nil,ef:=kz.nil _ _ _
    ids:=by simp only;rw[hF.ids];exact h.ids
    known:=fun st hs x hx=>by simp only;rw[hF.ids];exact h.known st (er st hs) x hx
    gK:=by simp
    nodup:=fun st hs=>h.nodup st (er st hs)
    gl:=hF.small
    gW:=by simp
    fj:=fun st hs=>h.fj st (er st hs)
    gX:=h.gX,kf:=by simp,full:=by simp }
set_option maxRecDepth 20000 in
theorem LS(bd:Nat)(D:Dk)(A:Ab)(hR:Rel D A)(last dD cut:Int)(X:HP)(bv:Value)(stay:List UInt8)(hv:Vw X bv stay.length (bV stay))(gb:stay.length≤9223372036854775807)(cF:A.aq.length≤1000000000)(eH:A.writes.length≤1000000000)(h1 : -9223372036854775808≤last∧last≤9223372036854775807)(h2 : -9223372036854775808≤dD∧dD≤9223372036854775807)(h3 : -9223372036854775808≤cut∧cut≤9223372036854775807) :
  aD Tryz.prog 16 [ptr bd,.int .i64 last,bv,.int .i64 dD,.int .i64 cut] [gS bd D,X] (fun v H=>∃D',Rel D' (A.dp last stay dD cut)∧H=[gS bd D',X]):=by
 obtain⟨a0,c0,rfl⟩:=hv.shape
 obtain⟨room,bm,kA,og,nA,off,maps,dS,files,gk,wl⟩:=D
 have hlen:=hR.aq.1
 have aah:=hR.writes.1
 have Ef:=hR.full
 have kX:0<A.aq.length:=List.length_pos_iff.2 Ef
 simp only at hlen aah
 refine aD.enter Tryz.func16 ak rfl Tryz.ntmps16 zr zr ?_
 intro G F R hE
 refine aj (iQ _ _ _ _ _ _ _ _ _ _ _ _ _) ?_
 refine dv 4 rfl ?_
 rintro sa cs rfl
 refine aF (fun w=>Sat G w ([ag bd (cl [.int .i64 room,.map (some bm),.slice sa gk.length cs,og,nA,.bool off] 76),aB 72 1 (.slice sa gk.length cs) gk.length (gk.map fun b => .map (some b))])) (.st 0 (.st 1 (.st 2 (.st 3 (.st 4 (.st 5 (.st 6 (.st 7 (.st 8 (.st 9 (.st 10 (.st 11 (.st 12 (.st 13 (.st 14 (.st 15 (.st 16 (.st 17 (.act 18 .nil))))))))))))))))))) rfl ak ak ak (fun w hw=>hw.cy (ao.bp ([0,4]) rfl)) ?_
 refine go ?_
 refine Jm 4 rfl ah ?_
 rintro bs os j6 hs hvs
 simp only[Value.slice.injEq,true_and]at hs
 obtain⟨rfl,rfl⟩:=hs
 obtain⟨q,hq⟩:∃q:Nat,max 0 (min last ((gk.length:Int)-1))=q:=Int.eq_ofNat_of_zero_le ah
 have hqs:q<gk.length:=by omega
 refine bK q zr zr zr zr zr zr zr hq hqs ?_
 obtain⟨b1,nK⟩:∃b1,gk[q]?=some b1:=⟨gk[q],by simp⟩
 refine cJ 1 q zr zr zr hvs rfl (c := .map (some b1)) (by simp[nK]) zr zr ?_
 refine go ?_
 refine aG (ao.pick [5] rfl) ?_
 refine aJ 0 rfl ?_
 rintro wa wc rfl
 refine go ?_
 refine bu (fun s:Nat × fF × List (Nat × Value × Value) × List (Nat × List UInt8 × List UInt8)=>s.1≤wl.length∧jW dS s.2.1 s.2.2.1 s.2.2.2 (A.fs.map (·.1))∧Ab.jv stay dD cut s.1 (A.writes.drop s.1) s.2.2.2=Ab.jv stay dD cut 0 A.writes A.fs) (fun s=>wl.length-s.1)
  (fun s=>[(0,ptr bd),(2,.slice a0 stay.length c0),(3,.int .i64 dD),(4,.int .i64 cut),(38,.slice wa wl.length wc),(39,.int .i64 wl.length),(40,.int .i64 s.1)])
  (fun s=>aB 109 3 (.slice wa wl.length wc) wl.length (eW wl)::ag bd (cl [.int .i64 room,.map (some b1),.slice (some ⟨bs,os,none⟩) gk.length cs,.slice wa wl.length wc,nA,.bool off] 76)::aP kJ maps::aV 5 s.2.1::aP eV s.2.2.1::aB 72 1 (.slice (some ⟨bs,os,none⟩) gk.length cs) gk.length (gk.map fun b => .map (some b))::X::F)
  (0,dS,files,A.fs) ⟨by simp,⟨hR.fs,fun x h=>h,rfl,hR.gl⟩,rfl⟩ rfl cu (ao.refl _) ?_
 rintro⟨i,l8,G9,Su⟩⟨hi,hF,hL⟩ ih
 simp only at hi hF hL
 refine go ?_
 refine au zr zr ?_ ?_
 ·intro cW
  simp only at cW
  have gw:i<wl.length:=by omega
  obtain⟨⟨fx,ax,bx⟩,hx⟩:∃x,wl[i]?=some x:=⟨wl[i],by simp[gw]⟩
  obtain⟨⟨fy,ay,rJ⟩,hy,aaf,aae,Wj⟩:=hR.writes.left hx
  simp only at aaf aae Wj
  subst aaf aae
  have PX:=Wj.mono hF.sub
  obtain⟨ba,bc,rfl,Oq⟩:=Wj.shape
  refine go ?_
  refine iL 0 rfl ?_
  intro dK
  obtain⟨bw,ow,cw,hsw⟩:=dK.some (by rw[← List.length_pos_iff,gi,cH ep];omega)
  simp only[Value.slice.injEq,true_and]at hsw
  obtain⟨rfl,rfl⟩:=hsw
  refine cO i 3 zr zr zr zr zr zr zr zr gw ?_
  refine de (U:=aN) (es:=xS (fx,ax,.slice ba rJ.length bc)) 0 (i*3) zr zr zr dK rfl (fun q v hq=>?_) zr zr zr ?_
  ·have wo:q<3:=by
    rcases Nat.lt_or_ge q 3 with h|h
    ·exact h
    ·rw[List.getElem?_eq_none (by rw[ep];exact h)]at hq;cases hq
   rw[gi,cY ep hx q wo];exact hq
  refine aw zr zr zr bz ?_
  intro bw1
  refine go ?_
  refine iW zr zr zr ah ?_
  refine az 46 (.int .i64 ((i/8:Nat):Int)) rfl (congrArg (Value.int .i64) (by show(i:Int)/8=((i/8:Nat):Int);omega)) ?_
  refine go ?_
  refine iC zr zr zr zr ?_ ?_
  case' refine_2 =>
   intro zF
   refine go ?_
   refine bB 12 (.bool (rQ stay i)) rfl (congrArg Value.bool (by
    unfold rQ
    exact(decide_eq_false ah).symm)) ?_
  case' refine_1 =>
   intro zF
   obtain⟨bst,ost,cst,aak⟩:=hv.some (by rw[← List.length_pos_iff,bt];omega)
   simp only[Value.slice.injEq,true_and]at aak
   obtain⟨rfl,rfl⟩:=aak
   refine go ?_
   refine iW zr zr zr ah ?_
   refine az 53 (.int .i64 ((i/8:Nat):Int)) rfl (congrArg (Value.int .i64) (by show(i:Int)/8=((i/8:Nat):Int);omega)) ?_
   have FI:i/8<stay.length:=by omega
   refine go ?_
   refine bK (i/8) zr zr zr zr zr zr zr zr FI ?_
   refine go ?_
   obtain⟨sx,Kv⟩:∃x,stay[i/8]?=some x:=⟨stay[i/8]'FI,by simp⟩
   refine tW (U:=aN) 7 zr zr zr (hv.cell (oU Kv)) zr zr ?_
   refine go ?_
   refine az 57 (.int .i64 ((i%2 ^ 3:Nat):Int)) rfl (congrArg (Value.int .i64) (oV i 3 ah ah)) ?_
   refine go ?_
   refine iW zr zr zr ah ?_
   have hsh:(sx.toNat:Int)/2 ^ (min (((i%2 ^ 3:Nat):Int).toNat) IntKind.u8.bits)=((sx.toNat/2 ^ (i%8):Nat):Int):=by
    have e1:min (((i%2 ^ 3:Nat):Int).toNat) IntKind.u8.bits=i%8:=by show min (i%8) 8=i%8;omega
    rw[e1];simp
   refine az 58 (.int .u8 ((sx.toNat/2 ^ (i%8):Nat):Int)) rfl (congrArg (Value.int .u8) hsh) ?_
   have hsb:sx.toNat/2 ^ (i%8)<256:=Nat.lt_of_le_of_lt (Nat.div_le_self _ _) sx.toNat_lt
   refine go ?_
   refine bB 12 (.bool (rQ stay i)) rfl (congrArg Value.bool (by
    have:=Ht _ hsb
    unfold rQ
    rw[decide_eq_decide,List.getD_eq_getElem?_getD,Kv]
    show IntKind.u8.wrap _=1↔_
    rw[this]
    simp only[Option.getD_some]
    omega)) ?_
  all_goals(
   generalize QM:rQ stay i=told
   clear zF
   refine go ?_
   refine au zr zr ?_ ?_
   ·intro IH
    refine go ?_
    obtain⟨c,hc⟩:∃c:Nat,max 0 (min cut (rJ.length:Int))=c:=Int.eq_ofNat_of_zero_le ah
    have Yu:c≤rJ.length:=by omega
    refine bj (p:=0) (q:=max 0 (min cut (rJ.length:Int))) zr zr zr zr zr zr zr (Int.le_refl _) ah (.inr ah) ?_
    refine az 73 (.slice (sliceAt ba bc 0 1) c bc) rfl (by simp only[hc];rfl) ?_
    refine go ?_
    refine au zr zr ?_ ?_
    ·intro sj
     have Xj:c≠0:=by intro e;subst e;simp at sj
     have hk:Ab.kept stay dD cut i rJ=some (rJ.take c):=by rw[AA IH hc,if_neg Xj]
     have KU:kz l8 (.slice (sliceAt ba bc 0 1) c bc) (rJ.take c):=PX.cut 0 c ah
     have iD:(rJ.take c).length=c:=by rw[List.length_take];omega
     (obtain⟨j,v1,v2,n,s,hj,Si,Q7,G5,D9,QN,yk⟩:=hF.get hR.ids (hR.gK _ (List.mem_of_getElem? hy));have RX:=hR.gW _ (List.mem_of_getElem? hy);simp only at RX;have WQ:(Su.map (·.1)).Nodup:=(by rw[hF.ids];exact hR.ids);have ab0:=eP s ax (rJ.take c);refine aj (ao.pick [5] rfl) ?_;refine aj (gU eV hj _) ?_;refine aF (fun w=>Sat G w ([ag bw1 (cl [ptr fx,.int .i64 ax,(.slice (sliceAt ba bc 0 1) c bc)] 109),ag fx (cl [v1,v2] 113)])) (.st 0 (.st 1 (.st 2 (.st 3 (.st 4 (.st 5 (.st 6 (.st 7 (.st 8 (.st 9 (.st 10 (.act 11 (.st 12 (.st 13 (.act 14 .nil))))))))))))))) rfl ak ak ak (fun w hw=>hw.cy (ao.bp ([2,0]) rfl)) ?_;refine go ?_;refine cp [6] rfl rfl rfl rfl (ui (aV 5 l8) v2 _ s (rJ.take c) ax (G5.view _) (KU.view _) ah) rfl (fun _ _ w hp hw=>by obtain⟨_,_,_,_,rfl⟩:=hp;exact hw.cy (ao.bp [4,2] rfl)) ?_;rintro _ _⟨bl,oQ,rfl,El,rfl⟩;refine go ?_;refine aj (ao.pick [2,3] rfl) ?_;refine aj (nw eV (y:=(fx,v1,.slice (some ⟨bl,0,none⟩) (bH s ax (rJ.take c)).length oQ)) hj _) ?_;refine aj (ao.pick [1,2] rfl) ?_;refine aj (yT 5 bl _ l8 _) ?_;have Sq:=hF.put (arrs':=(bl,bV (bH s ax (rJ.take c)))::l8) (v1:=v1) (v2 := .slice (some ⟨bl,0,none⟩) (bH s ax (rJ.take c)).length oQ) (n:=n) (s:=bH s ax (rJ.take c)) (fun x h=>List.mem_cons_of_mem _ h) Si (Q7.mono fun x h=>List.mem_cons_of_mem _ h) (kz.row El) ⟨D9,ah⟩;refine aL ih (i+1,_,_,_) rfl ⟨gw,Sq,by rw[← hL];exact(xT hy WQ Si hk).symm⟩ (by show _-(_+1)<_;omega) cu (ao.to [3,4,5,0,1,6,7] 1 zr zr zr))
    ·intro sj
     have Xj:c=0:=by rcases Nat.eq_zero_or_pos c with h|h;exact h;exact absurd (by simp;exact h) sj
     have hk:Ab.kept stay dD cut i rJ=none:=by rw[AA IH hc,if_pos Xj]
     refine go ?_
     (refine aL ih (i+1,l8,G9,Su) rfl ⟨gw,hF,by rw[← hL];exact(xU hy hk).symm⟩ (by show _-(_+1)<_;omega) cu (ao.drop _ _))
   ·intro IH
    refine go ?_
    have Ym:=Km (stay:=stay) (cut:=cut) (b:=rJ) IH
    cases told with
    | false => 
     have hk:Ab.kept stay dD cut i rJ=none:=by rw[Ym,QM];rfl
     refine go ?_
     (refine aL ih (i+1,l8,G9,Su) rfl ⟨gw,hF,by rw[← hL];exact(xU hy hk).symm⟩ (by show _-(_+1)<_;omega) cu (ao.drop _ _))
    | true =>
     have hk:Ab.kept stay dD cut i rJ=some rJ:=by rw[Ym,QM];rfl
     have KU:kz l8 (.slice ba rJ.length bc) rJ:=PX
     have iD:rJ.length=rJ.length:=rfl
     have Yu:rJ.length≤rJ.length:=Nat.le_refl _
     refine go ?_
     (obtain⟨j,v1,v2,n,s,hj,Si,Q7,G5,D9,QN,yk⟩:=hF.get hR.ids (hR.gK _ (List.mem_of_getElem? hy));have RX:=hR.gW _ (List.mem_of_getElem? hy);simp only at RX;have WQ:(Su.map (·.1)).Nodup:=(by rw[hF.ids];exact hR.ids);have ab0:=eP s ax rJ;refine aj (ao.pick [5] rfl) ?_;refine aj (gU eV hj _) ?_;refine aF (fun w=>Sat G w ([ag bw1 (cl [ptr fx,.int .i64 ax,(.slice ba rJ.length bc)] 109),ag fx (cl [v1,v2] 113)])) (.st 0 (.st 1 (.st 2 (.st 3 (.st 4 (.st 5 (.st 6 (.st 7 (.st 8 (.st 9 (.st 10 (.act 11 (.st 12 (.st 13 (.act 14 .nil))))))))))))))) rfl ak ak ak (fun w hw=>hw.cy (ao.bp ([2,0]) rfl)) ?_;refine go ?_;refine cp [6] rfl rfl rfl rfl (ui (aV 5 l8) v2 _ s rJ ax (G5.view _) (KU.view _) ah) rfl (fun _ _ w hp hw=>by obtain⟨_,_,_,_,rfl⟩:=hp;exact hw.cy (ao.bp [4,2] rfl)) ?_;rintro _ _⟨bl,oQ,rfl,El,rfl⟩;refine go ?_;refine aj (ao.pick [2,3] rfl) ?_;refine aj (nw eV (y:=(fx,v1,.slice (some ⟨bl,0,none⟩) (bH s ax rJ).length oQ)) hj _) ?_;refine aj (ao.pick [1,2] rfl) ?_;refine aj (yT 5 bl _ l8 _) ?_;have Sq:=hF.put (arrs':=(bl,bV (bH s ax rJ))::l8) (v1:=v1) (v2 := .slice (some ⟨bl,0,none⟩) (bH s ax rJ).length oQ) (n:=n) (s:=bH s ax rJ) (fun x h=>List.mem_cons_of_mem _ h) Si (Q7.mono fun x h=>List.mem_cons_of_mem _ h) (kz.row El) ⟨D9,ah⟩;refine aL ih (i+1,_,_,_) rfl ⟨gw,Sq,by rw[← hL];exact(xT hy WQ Si hk).symm⟩ (by show _-(_+1)<_;omega) cu (ao.to [3,4,5,0,1,6,7] 1 zr zr zr)))
 ·intro fq
  simp only at fq
  have hiw:i=wl.length:=by omega
  subst hiw
  have acY:Su=Ab.jv stay dD cut 0 A.writes A.fs:=by rw[← hL,List.drop_of_length_le ah];rfl
  obtain⟨nm,ld,hbm⟩:=hR.aq.left nK
  have eZ:eT (fun b es=>(b,eK es)∈maps) (gk++[b1]) (A.aq++[nm]):=eT.snoc hR.aq hbm
  refine aF (fun w=>Sat G w ([ag bd (cl [.int .i64 room,.map (some b1),.slice (some ⟨bs,os,none⟩) gk.length cs,.slice wa wl.length wc,nA,.bool off] 76)])) (.st 0 (.st 1 (.st 2 (.st 3 (.st 4 (.st 5 (.st 6 (.st 7 (.st 11 (.act 8 (.act 9 (.st 10 .nil)))))))))))) rfl ak ak ak (fun w hw=>hw.cy (ao.bp ([1]) rfl)) ?_
  refine go ?_
  refine al zr zr zr zr zr zr zr zr zr (fun _ w hw=>hw.cy (ao.bp ([2]) rfl)) ?_
  intro b0
  refine aO (mm:=1) (news:=[.map (some b1)]) 6 0 zr zr zr zr zr zr zr zr zr zr zr zr (Vw.ag rfl) rfl (by simp[Value.oneCell']) ah (by show _*8≤_;omega) (fun _=>rfl) (fun _ w hw=>hw.cy (ao.bp ([2]) rfl)) ?_
  intro v'
  have e1:(gk.map fun b=>Value.map (some b))++[.map (some b1)]=(gk++[b1]).map fun b=>Value.map (some b):=by simp
  have e2:gk.length+1=(gk++[b1]).length:=by simp
  have e3:(gk++[b1]).length≤1000000001:=by rw[← e2];omega
  rw[e1,e2]
  refine aJ 6 rfl ?_
  rintro av cv rfl
  refine go ?_
  refine bu (fun s:Nat × List (Nat × Value × Value) × List Nat=>s.1≤(gk++[b1]).length∧jW dS l8 s.2.1 (mark s.2.2 Su) (A.fs.map (·.1))∧∀x,x∈s.2.2↔x∈Ab.reach ((A.aq++[nm]).take s.1)) (fun s=>(gk++[b1]).length-s.1)
   (fun s=>[(0,ptr bd),(104,.slice av (gk++[b1]).length cv),(105,.int .i64 (gk++[b1]).length),(106,.int .i64 s.1)])
   (fun s=>aB 72 1 (.slice av (gk++[b1]).length cv) (gk++[b1]).length ((gk++[b1]).map fun b => .map (some b))::ag bd (cl [.int .i64 room,.map (some b1),.slice (some ⟨bs,os,none⟩) gk.length cs,.slice wa wl.length wc,nA,.bool off] 76)::aP kJ maps::aV 5 l8::aP eV s.2.1::X::F)
   (0,G9,[]) ⟨Nat.zero_le _,by rw[Nm];exact hF,by simp[Ab.reach]⟩ rfl cu (ao.to [6,2,3,4,5,7] 2 zr zr zr) ?_
  rintro⟨i,Oz,S⟩⟨hi2,Sq,Sp⟩ GM
  simp only at hi2 Sq Sp
  refine go ?_
  refine au zr zr ?_ ?_
  ·intro cW
   simp only at cW
   have vR:i<(gk++[b1]).length:=by omega
   obtain⟨bi,hbi⟩:∃x,(gk++[b1])[i]?=some x:=⟨(gk++[b1])[i],by rw[List.getElem?_eq_getElem]⟩
   obtain⟨es,rh,hm⟩:=eZ.left hbi
   have aaX:es∈A.names::A.aq:=by
    rcases List.mem_append.1 (List.mem_of_getElem? rh)with h|h
    ·exact List.mem_cons_of_mem _ h
    ·simp only[List.mem_singleton]at h;subst h;exact List.mem_cons_of_mem _ (List.mem_of_getElem? ld)
   refine go ?_
   refine Jm 0 rfl ah ?_
   rintro bn on cn PL IG
   simp only[Value.slice.injEq,true_and]at PL
   obtain⟨rfl,rfl⟩:=PL
   refine bK i zr zr zr zr zr zr zr zr vR ?_
   refine bg 0 i zr zr zr IG rfl (c := .map (some bi)) (by simp only[List.getElem?_map,hbi,Option.map_some]) zr zr ?_
   refine go ?_
   obtain⟨jm,Yn⟩:=List.getElem?_of_mem hm
   refine aG (ao.pick [2] rfl) ?_
   refine aG (gU kJ Yn _) ?_
   refine wG (kv:=Value.string) (es:=eK es) (U:=aN) 0 zr zr zr zr zr (fun _=>rfl) bz ?_
   intro it
   refine go ?_
   have aax:=hR.nodup _ aaX
   have AI:(eK es).map (·.1)=es.map (·.1):=by simp[eK,Function.comp_def]
   refine bu (fun s:List ByteArray × List (Nat × Value × Value) × List Nat=>(s.1.Nodup∧∀x∈s.1,x∈es.map (·.1))∧jW dS l8 s.2.1 (mark s.2.2 Su) (A.fs.map (·.1))∧∀x,x∈s.2.2↔x∈S∨∃k∈s.1,(k,x)∈es) (fun s=>es.length-s.1.length)
    (fun s=>[(111,.pointer (some ⟨it,0,none⟩)),(0,ptr bd),(104,.slice (some ⟨bn,on,none⟩) (gk++[b1]).length cv),(105,.int .i64 (gk++[b1]).length),(106,.int .i64 i)])
    (fun s=>bN Value.string bi it (eK es) s.1::aP kJ (maps.eraseIdx jm)::aB 72 1 (.slice (some ⟨bn,on,none⟩) (gk++[b1]).length cv) (gk++[b1]).length ((gk++[b1]).map fun b => .map (some b))::ag bd (cl [.int .i64 room,.map (some b1),.slice (some ⟨bs,os,none⟩) gk.length cs,.slice wa wl.length wc,nA,.bool off] 76)::aV 5 l8::aP eV s.2.1::X::F)
    ([],Oz,S) ⟨⟨List.nodup_nil,by simp⟩,Sq,by simp⟩ rfl cu (ao.refl _) ?_
   rintro⟨dn,XA,S3⟩⟨⟨ym,R1⟩,hF3,hS3⟩ ih3
   simp only at ym R1 hF3 hS3
   refine go ?_
   refine Cu (kv:=Value.string) (es:=eK es) 0 rfl vM.inj zr zr (fun _=>rfl) gE bz ?_ ?_
   ·intro aa8
    refine go ?_
    refine aj ((ao.head (B:=[kJ (bi,eK es)]) (fun h hs=>by obtain⟨h',s,hm⟩:=qF h hs;exact⟨h',s,fU hm⟩)).trans (pz kJ Yn _)) ?_
    have hS4:∀x,x∈S3↔x∈Ab.reach ((A.aq++[nm]).take (i+1)):=by
     intro x
     rw[hS3 x,Sp x,List.take_add_one,rh]
     simp only[Ab.reach,Option.toList_some,List.flatMap_append,List.flatMap_cons,List.flatMap_nil,List.append_nil,List.mem_append]
     apply or_congr Iff.rfl
     constructor
     ·rintro⟨k,_,hk⟩;exact List.mem_map.2 ⟨_,hk,rfl⟩
     ·intro hx
      obtain⟨⟨k,x'⟩,hk,rfl⟩:=List.mem_map.1 hx
      exact⟨k,aa8 (k,ptr x') (List.mem_map.2 ⟨_,hk,rfl⟩),hk⟩
    refine go ?_
    have ih:=GM
    refine aL ih (i+1,XA,S3) rfl ⟨vR,hF3,hS4⟩ (by show _-(_+1)<_;omega) cu (ao.to [1,2,0,3,4,5] 0 zr zr zr)
   ·intro key v fg vP
    obtain⟨⟨k',f⟩,hx,NM⟩:=List.mem_map.1 fg
    simp only[Prod.mk.injEq]at NM
    obtain⟨rfl,rfl⟩:=NM
    refine go ?_
    refine wK (kv:=Value.string) (es:=eK es) 0 rfl vM.inj zr zr fg ?_
    refine go ?_
    obtain⟨j,v1,v2,n,s,hj,Si,Q7,G5,D9,QN,yk⟩:=hF3.get hR.ids (hR.known _ aaX _ hx)
    obtain⟨a2,c2,rfl,_⟩:=G5.shape
    refine aG (ao.pick [5] rfl) ?_
    refine aG (gU eV hj _) ?_
    refine go ?_
    refine aj (nw eV (y:=(f,.slice a2 s.length c2,.slice a2 s.length c2)) hj _) ?_
    have hF4:=hF3.put (v1 := .slice a2 s.length c2) (v2 := .slice a2 s.length c2) (n:=s) (s:=s) (fun _ h=>h) Si G5 G5 ⟨QN,QN⟩
    rw[Nl (by rw[hF.ids];exact hR.ids) Si]at hF4
    have QX:k'∈es.map (·.1):=List.mem_map.2 ⟨_,hx,rfl⟩
    have Oi:(k'::dn).Nodup:=List.nodup_cons.2 ⟨vP,ym⟩
    have qZ:∀x∈k'::dn,x∈es.map (·.1):=fun x hx=>by
     rcases List.mem_cons.1 hx with rfl|h
     ·exact QX
     ·exact R1 x h
    have ye:=uF Oi qZ
    rw[List.length_map,List.length_cons]at ye
    have hS4:∀x,x∈f::S3↔x∈S∨∃k∈k'::dn,(k,x)∈es:=by
     intro x
     rw[List.mem_cons,hS3 x]
     constructor
     ·rintro(rfl|h|⟨k,hk,hkx⟩)
      ·exact .inr ⟨k',List.mem_cons_self ..,hx⟩
      ·exact .inl h
      ·exact .inr ⟨k,List.mem_cons_of_mem _ hk,hkx⟩
     ·rintro(h|⟨k,hk,hkx⟩)
      ·exact .inr (.inl h)
      ·rcases List.mem_cons.1 hk with rfl|hk
       ·left
        have h1:=oF aax hx
        rw[oF aax hkx]at h1
        simpa using h1
       ·exact .inr (.inr ⟨k,hk,hkx⟩)
    have ih:=ih3
    refine aL ih (k'::dn,_,f::S3) rfl ⟨⟨Oi,qZ⟩,hF4,hS4⟩ (by simp only[List.length_cons];omega) cu (ao.to [1,2,3,4,5,0,6] 0 zr zr zr)
  ·intro aaS
   simp only at aaS
   have sH:i=(gk++[b1]).length:=by omega
   subst sH
   rw[eZ.1,List.take_length]at Sp
   rw[No Su Sp,acY]at Sq
   refine go ?_
   refine al zr zr zr zr zr zr zr zr zr bz ?_
   intro b2
   refine go ?_
   refine aj (eL 72 1 b2 1 1 [.map (some b1)] [] _ rfl (Nat.le_refl _) (by simp)) ?_
   refine aj (bJ 109 3 none _) ?_
   refine aj (ao.pick [3,4,5,6,1,0,7] rfl) ?_
   refine aj (dY bd room b1 (.slice (some ⟨b2,0,none⟩) 1 1) (.slice none 0 0) (.slice none 0 0) false maps l8 Oz [b1] [] _) ?_
   have Oy:=hR.crashed (b0:=b2) zr zr (by rw[← hlen];exact hq) ld hbm Sq
   refine bS hE Tryz.func16 rfl _ rfl ⟨_,Oy,rfl⟩ (ao.fin [0,1] 1 zr zr)
theorem HB(bd:Nat)(D:Dk)(A:Ab)(hR:Rel D A)(old name:ByteArray)(cF:A.aq.length≤1000000000) :
  aD Tryz.prog 173 [ptr bd,.string old,.string name] [gS bd D]
   (fun v H=>∃D',Rel D' (A.rename ([old,name].all isName) old name).2∧H=[gS bd D']∧v = .int .i64 (A.rename ([old,name].all isName) old name).1):=by
 refine aD.enter Tryz.func173 ak rfl Tryz.ntmps173 zr zr ?_
 intro G F R hE
 refine go ?_
 refine bC zr zr bz ?_
 intro yQ
 refine bC zr zr bz ?_
 intro yP
 refine go ?_
 cases CH:(A.find old ([old,name].all isName)).2.1 with
 | none =>
  refine aF (fun w=>Sat G w ([ag yP (cl [.string name] 9),ag yQ (cl [.string old] 9)])) (.st 0 (.st 1 (.st 2 (.st 3 (.fork (.act 4 (.fork (.act 5 (.fork (.act 6 (.st 7 (.st 8 (.st 9 (.act 10 (.act 11 (.st 12 .nil))))))) (.act 10 (.act 6 (.st 7 (.st 8 (.st 9 (.act 11 (.st 12 .nil))))))))) (.act 10 (.act 5 (.act 6 (.st 7 (.st 8 (.st 9 (.act 11 (.st 12 .nil)))))))))) (.act 10 (.act 4 (.act 5 (.act 6 (.st 7 (.st 8 (.st 9 (.act 11 (.st 12 .nil)))))))))))))) rfl ak ak ak (fun w hw=>hw.cy (ao.bp ([0,1]) rfl)) ?_
  repeat'(first|(with_reducible intro qh)|refine gO ?_|refine qt ?_ ?_|refine au zr zr ?_ ?_|(refine al zr zr zr zr zr zr zr zr zr (fun _ w hw=>hw.cy (by first|exact ao.bp [1,2] rfl|exact ao.bp [2,3] rfl)) ?_;intro _)|(refine aw zr zr zr (fun _ w hw=>hw.cy (by first|exact ao.bp [1,2] rfl|exact ao.bp [2,3] rfl|exact ao.bp [3,4] rfl)) ?_;intro _)|(refine cp [0] rfl rfl rfl rfl (jt _ _ [old,name] (Vw.ag rfl) (by simp)) rfl (fun _ _ w hp hw=>by obtain⟨_,rfl⟩:=hp;exact(fun _ w hw=>hw.cy (by first|exact ao.bp [1,2] rfl|exact ao.bp [2,3] rfl)) 0 w hw) ?_;rintro _ _⟨rfl,rfl⟩)|(refine cp [1] rfl rfl rfl rfl (jt _ _ [old,name] (Vw.ag rfl) (by simp)) rfl (fun _ _ w hp hw=>by obtain⟨_,rfl⟩:=hp;exact(fun _ w hw=>hw.cy (by(exact ao.bp [2,3] rfl))) 0 w hw) ?_;rintro _ _⟨rfl,rfl⟩)|(refine cp [3] rfl rfl rfl rfl (jQ bd D A hR old ([old,name].all isName)) rfl (fun _ _ w hp hw=>by obtain⟨_,_,rfl,_⟩:=hp;exact(fun _ w hw=>hw.cy (by(exact ao.bp [2,3] rfl))) 0 w hw) ?_;rintro _ _⟨D',fY,rfl,rfl⟩;rw[CH])|(refine cp [4] rfl rfl rfl rfl (jQ bd D A hR old ([old,name].all isName)) rfl (fun _ _ w hp hw=>by obtain⟨_,_,rfl,_⟩:=hp;exact(fun _ w hw=>hw.cy (by(exact ao.bp [3,4] rfl))) 0 w hw) ?_;rintro _ _⟨D',fY,rfl,rfl⟩;rw[CH])|(refine aT ?_;first|refine bZ 0 (fun w hw=>(fun _ w hw=>hw.cy (by(exact ao.bp [3,4] rfl))) 0 w hw) zr zr zr zr zr zr zr zr zr ?_|refine bZ 1 (fun w hw=>(fun _ w hw=>hw.cy (by(exact ao.bp [3,4] rfl))) 0 w hw) zr zr zr zr zr zr zr zr zr ?_|refine bZ 2 (fun w hw=>(fun _ w hw=>hw.cy (by(exact ao.bp [3,4] rfl))) 0 w hw) zr zr zr zr zr zr zr zr zr ?_))
  all_goals(
   have nL:¬(A.find old ([old,name].all isName)).1=0:=fun h=>by obtain⟨_,fl,h1,_⟩:=l5 h;rw[CH]at h1;cases h1
   have hw:A.rename ([old,name].all isName) old name=((A.find old ([old,name].all isName)).1,(A.find old ([old,name].all isName)).2.2):=by
    unfold Ab.rename
    generalize A.find old ([old,name].all isName)=z at nL CH ⊢
    obtain⟨e,fo,A1⟩:=z
    simp only at CH
    subst CH
    cases e <;> rfl
   rw[hw]at hE
   first|(exfalso;omega)|refine ae hE Tryz.func173 rfl _ rfl ⟨D',fY,rfl,rfl⟩ (ao.fin [0] 4 zr zr)|refine ae hE Tryz.func173 rfl _ rfl ⟨D',fY,rfl,rfl⟩ (ao.fin [1] 4 zr zr))
 | some fl =>
  refine aF (fun w=>Sat G w ([ag yP (cl [.string name] 9),ag yQ (cl [.string old] 9)])) (.st 0 (.st 1 (.st 2 (.st 3 (.fork (.act 4 (.fork (.act 5 (.fork (.act 6 (.st 7 (.st 8 (.st 9 (.act 10 (.act 11 (.st 12 .nil))))))) (.act 10 (.act 6 (.st 7 (.st 8 (.st 9 (.act 11 (.st 12 .nil))))))))) (.act 10 (.act 5 (.act 6 (.st 7 (.st 8 (.st 9 (.act 11 (.st 12 .nil)))))))))) (.act 10 (.act 4 (.act 5 (.act 6 (.st 7 (.st 8 (.st 9 (.act 11 (.st 12 .nil)))))))))))))) rfl ak ak ak (fun w hw=>hw.cy (ao.bp ([0,1]) rfl)) ?_
  repeat'(first|(with_reducible intro qh)|refine gO ?_|refine qt ?_ ?_|refine au zr zr ?_ ?_|(refine al zr zr zr zr zr zr zr zr zr (fun _ w hw=>hw.cy (by first|exact ao.bp [1,2] rfl|exact ao.bp [2,3] rfl)) ?_;intro _)|(refine aw zr zr zr (fun _ w hw=>hw.cy (by first|exact ao.bp [1,2] rfl|exact ao.bp [2,3] rfl|exact ao.bp [3,4] rfl)) ?_;intro _)|(refine cp [0] rfl rfl rfl rfl (jt _ _ [old,name] (Vw.ag rfl) (by simp)) rfl (fun _ _ w hp hw=>by obtain⟨_,rfl⟩:=hp;exact(fun _ w hw=>hw.cy (by first|exact ao.bp [1,2] rfl|exact ao.bp [2,3] rfl)) 0 w hw) ?_;rintro _ _⟨rfl,rfl⟩)|(refine cp [1] rfl rfl rfl rfl (jt _ _ [old,name] (Vw.ag rfl) (by simp)) rfl (fun _ _ w hp hw=>by obtain⟨_,rfl⟩:=hp;exact(fun _ w hw=>hw.cy (by(exact ao.bp [2,3] rfl))) 0 w hw) ?_;rintro _ _⟨rfl,rfl⟩)|(refine cp [3] rfl rfl rfl rfl (jQ bd D A hR old ([old,name].all isName)) rfl (fun _ _ w hp hw=>by obtain⟨_,_,rfl,_⟩:=hp;exact(fun _ w hw=>hw.cy (by(exact ao.bp [2,3] rfl))) 0 w hw) ?_;rintro _ _⟨D',fY,rfl,rfl⟩;rw[CH])|(refine cp [4] rfl rfl rfl rfl (jQ bd D A hR old ([old,name].all isName)) rfl (fun _ _ w hp hw=>by obtain⟨_,_,rfl,_⟩:=hp;exact(fun _ w hw=>hw.cy (by(exact ao.bp [3,4] rfl))) 0 w hw) ?_;rintro _ _⟨D',fY,rfl,rfl⟩;rw[CH])|(refine aT ?_;first|refine bZ 0 (fun w hw=>(fun _ w hw=>hw.cy (by(exact ao.bp [3,4] rfl))) 0 w hw) zr zr zr zr zr zr zr zr zr ?_|refine bZ 1 (fun w hw=>(fun _ w hw=>hw.cy (by(exact ao.bp [3,4] rfl))) 0 w hw) zr zr zr zr zr zr zr zr zr ?_|refine bZ 2 (fun w hw=>(fun _ w hw=>hw.cy (by(exact ao.bp [3,4] rfl))) 0 w hw) zr zr zr zr zr zr zr zr zr ?_))
  all_goals(
   have nL:(A.find old ([old,name].all isName)).1=0:=by
    rcases Nat.eq_zero_or_pos (A.find old ([old,name].all isName)).1 with h|h
    ·exact h
    ·exfalso
     unfold Ab.find at CH h
     split at CH
     ·rename_i h1
      rw[if_pos h1]at h
      cases hl:(A.meet ([old,name].all isName)).2.look old with
      | none=>rw[hl]at CH;cases CH
      | some f=>rw[hl]at h;simp at h
     ·cases CH)
  any_goals (exfalso;omega)
  all_goals(
   obtain⟨_,fl',aaV,fg⟩:=l5 nL
   rw[CH]at aaV
   cases aaV
   have hw:A.rename ([old,name].all isName) old name=(0,(A.find old ([old,name].all isName)).2.2.mV (Ab.jH (Ab.dx (A.find old ([old,name].all isName)).2.2.names old) name fl)):=by
    unfold Ab.rename
    generalize A.find old ([old,name].all isName)=z at nL CH ⊢
    obtain⟨e,fo,A1⟩:=z
    simp only at nL CH
    subst nL CH
    rfl
   rw[hw]at hE
   have NP:(A.find old ([old,name].all isName)).2.2.aq.length≤1000000000:=by rw[(nN A old _).2.2.1];exact cF
   generalize (A.find old ([old,name].all isName)).2.2=A1 at *
   have NO:D'.gk.length≤1000000000:=by rw[fY.aq.1];exact NP
   have hN:=fY.fj _ (List.mem_cons_self ..)
   have cW:=Rr fg
   have vS:=ME (Ab.dx A1.names old) name fl
   have Xg:∀b' v,Rel { D' with bm:=b',maps:=(b',eK (Ab.jH (Ab.dx A1.names old) name fl))::D'.maps,kA:=v,gk:=D'.gk++[b'] } (A1.mV (Ab.jH (Ab.dx A1.names old) name fl)):=fun b' v=>fY.mV
    (fun x hx=>by
     rcases MD hx with rfl|hx
     ·have:=fY.known _ (List.mem_cons_self ..) _ fg;exact this
     ·exact fY.known _ (List.mem_cons_self ..) _ (EE hx).1)
    (F9 (yG (fY.nodup _ (List.mem_cons_self ..)) old) name fl) ah
   first|(refine aG (ao.pick ([4,0,3,1]) rfl) ?_;refine aG (ao.bP [_,_,_] _) ?_;refine cp [1,0] zr zr zr zr (l6 (α:=Unit) bd D' A1.names fY.names 209 #[ptr yQ,ptr _,ptr yP] _ (fun _=>Ab.jH (Ab.dx A1.names old) name fl) (fun _=>emp) (fun _=>True) (fun b'=>aD.post (qi b' yQ _ yP fl A1.names old name) (fun v H h=>⟨(),trivial,h⟩)) NO) rfl bG ?_;rintro _ _⟨_,b',v,_,rfl⟩;refine go ?_;refine ae hE Tryz.func173 rfl _ rfl ⟨_,Xg b' v,rfl,rfl⟩ (ao.fin [0] 2 zr zr))|(refine aG (ao.pick ([4,1,3,0]) rfl) ?_;refine aG (ao.bP [_,_,_] _) ?_;refine cp [1,0] zr zr zr zr (l6 (α:=Unit) bd D' A1.names fY.names 209 #[ptr yQ,ptr _,ptr yP] _ (fun _=>Ab.jH (Ab.dx A1.names old) name fl) (fun _=>emp) (fun _=>True) (fun b'=>aD.post (qi b' yQ _ yP fl A1.names old name) (fun v H h=>⟨(),trivial,h⟩)) NO) rfl bG ?_;rintro _ _⟨_,b',v,_,rfl⟩;refine go ?_;refine ae hE Tryz.func173 rfl _ rfl ⟨_,Xg b' v,rfl,rfl⟩ (ao.fin [0] 2 zr zr))|(refine aG (ao.pick ([4,2,3,0]) rfl) ?_;refine aG (ao.bP [_,_,_] _) ?_;refine cp [1,0] zr zr zr zr (l6 (α:=Unit) bd D' A1.names fY.names 209 #[ptr yQ,ptr _,ptr yP] _ (fun _=>Ab.jH (Ab.dx A1.names old) name fl) (fun _=>emp) (fun _=>True) (fun b'=>aD.post (qi b' yQ _ yP fl A1.names old name) (fun v H h=>⟨(),trivial,h⟩)) NO) rfl bG ?_;rintro _ _⟨_,b',v,_,rfl⟩;refine go ?_;refine ae hE Tryz.func173 rfl _ rfl ⟨_,Xg b' v,rfl,rfl⟩ (ao.fin [0] 2 zr zr)))
end Go.Proofs.YtedjnjkijiddlaaGreatDoor
namespace Go.SL
def CL(M:fF)(s:Nat)(v:Value)(n:Nat)(cs:List Value):Prop :=
 cs.length=n*s∧∃a cap,v = .slice a n cap∧n≤cap∧(n=0∨∃b o row,a=Option.some ⟨b,o,none⟩∧(b,row)∈M∧(row.drop o).take cs.length=cs)
theorem CL.mono{M M':fF}{s n:Nat}{v:Value}{cs:List Value}(h:CL M s v n cs)(hs:∀x∈M,x∈M'):CL M' s v n cs:=by
 obtain⟨hl,a,cap,hv,hc,h0|⟨b,o,row,ha,hm,ht⟩⟩:=h
 ·exact⟨hl,a,cap,hv,hc,.inl h0⟩
 ·exact⟨hl,a,cap,hv,hc,.inr ⟨b,o,row,ha,hs _ hm,ht⟩⟩
theorem CL.nil(M:fF)(s:Nat)(a:Option Addr)(cap:Nat):CL M s (.slice a 0 cap) 0 []:=⟨by simp,a,cap,rfl,Nat.zero_le _,.inl rfl⟩
theorem CL.shape{M:fF}{s n:Nat}{v:Value}{cs:List Value}(h:CL M s v n cs):∃a cap,v = .slice a n cap∧n≤cap:=by
 obtain⟨_,a,cap,hv,hc,_⟩:=h;exact⟨a,cap,hv,hc⟩
theorem CL.view{M:fF}{s n:Nat}{v:Value}{cs:List Value}(h:CL M s v n cs)(e:TypeId):Vw (aV e M) v n cs:=by
 obtain⟨hl,a,cap,rfl,hc,h0|⟨b,o,row,ha,hm,ht⟩⟩:=h
 ·have:cs=[]:=List.eq_nil_of_length_eq_zero (by rw[hl,h0,Nat.zero_mul])
  subst h0 this;exact⟨a,cap,rfl,.inl rfl⟩
 ·have h1:Vw (ag b (cl row e)) (.slice a n cap) n cs:=by rw[ha];exact Vw.ag ht
  exact h1.mono fun h hs=>Ck (List.mem_map.2 ⟨(b,row),hm,rfl⟩) hs
theorem Df(e:TypeId)(s n:Nat)(v:Value)(cs:List Value)(M:fF):∀h,star (aB e s v n cs) (aV e M) h→∃M',(CL M' s v n cs∧∀x∈M,x∈M')∧Sep [aV e M'] h:=by
 rintro h⟨h1,h2,⟨hl,⟨a,rfl,hn,he⟩|⟨b,o,cap,pre,bQ,rfl,hp,hn,hc,wm⟩⟩,hM,hd,hj⟩
 ·have:cs=[]:=List.eq_nil_of_length_eq_zero (by rw[hl,hn,Nat.zero_mul])
  subst hn this
  exact⟨M,⟨CL.nil M s a 0,fun _ h=>h⟩,fU (yE ⟨h1,h2,he,hM,hd,hj⟩)⟩
 ·refine⟨(b,pre++cs++bQ)::M,⟨⟨hl,_,cap,rfl,hn,.inr ⟨b,o,pre++cs++bQ,rfl,by simp,?_⟩⟩,fun x hx=>by simp[hx]⟩,fU ⟨h1,h2,wm,hM,hd,hj⟩⟩
  subst hp
  rw[List.append_assoc,List.drop_left,List.take_left]
theorem aD.conv{P:Program}{f:FuncId}{args:List Value}{Pre O6:List HP}{Post vH:Value→List HP→Prop}(c:aD P f args Pre Post)(h:ao O6 Pre)(hp:∀v H,Post v H→∃H',vH v H'∧ao H H'):aD P f args O6 vH :=
 ⟨c.1,fun G w F hw=>(c.2 G w F (hw.cy (ao.append F h))).mono fun e w' h'=>let ⟨v,H,he,QR,hs⟩:=h';let ⟨H',hq,hE⟩:=hp v H QR;⟨v,H',he,hq,hs.cy (ao.append F hE)⟩⟩
theorem aD.frame{P:Program}{f:FuncId}{args:List Value}{Pre:List HP}{Post:Value→List HP→Prop}(X:List HP)(c:aD P f args Pre Post):aD P f args (Pre++X) (fun v H=>∃H',Post v H'∧H=H'++X) :=
 ⟨c.1,fun G w F hw=>(c.2 G w (X++F) (by rw[List.append_assoc]at hw;exact hw)).mono fun e w' h'=>let ⟨v,H,he,QR,hs⟩:=h';⟨v,H++X,he,⟨H,QR,rfl⟩,by rw[List.append_assoc];exact hs⟩⟩
end Go.SL
namespace Go.Proofs.YtedjnjkijiddlaaGreatDoor
open Go Go.SL
def iA{σ:Type}:List (σ→Nat→σ→Prop)→σ→Nat→σ→Prop
 | [],x,e,y=>e=0∧y=x
 | s::ss,x,e,y=>∃e1 x1,s x e1 x1∧((e1≠0∧e=e1∧y=x1)∨(e1=0∧iA ss x1 e y))
attribute [local irreducible] J K aD Ends ag aB aM bN aZ aP aV
def aC(bd:Nat)(A:Ab):HP:=fun h=>∃D,Rel D A∧gS bd D h
theorem gR{bd:Nat}{D:Dk}{A:Ab}(h:Rel D A)(H:List HP):ao (gS bd D::H) (aC bd A::H):=ao.fold (B:=[_]) fun h' hs=>⟨h',sub.refl h',D,h,eN hs⟩
theorem JP{G:cC}{w:World}{bd:Nat}{A:Ab}{H:List HP}(hs:Sat G w (aC bd A::H)):∃D,Rel D A∧Sat G w (gS bd D::H):=by
 obtain⟨t,o,u,hp,Ky,h1,h2,⟨D,hR,hA⟩,hH,hd,he⟩:=hs
 exact⟨D,hR,t,o,u,hp,Ky,h1,h2,hA,hH,hd,he⟩
end Go.Proofs.YtedjnjkijiddlaaGreatDoor
namespace Go.Proofs.YtedjnjkijiddlaaGreatDoor
open Go Go.SL
theorem iw{P:Program}{f:FuncId}{args:List Value}{bd:Nat}{A:Ab}{Pre:List HP}{Post vH:Value→List HP→Prop}(hc:P.funcs[f]?.map nU=some true)(h:∀D,Rel D A→aD P f args (gS bd D::Pre) Post)(hp:∀v H,Post v H→∃H',vH v H'∧ao H H'):aD P f args (aC bd A::Pre) vH :=
  ⟨hc,fun G w F hw=>by
    obtain⟨D,hR,AF⟩:=JP hw
    exact((h D hR).2 G w F AF).mono fun e w' h'=>let ⟨v,H,he,QR,hs⟩:=h';let ⟨H',hq,hE⟩:=hp v H QR;⟨v,H',he,hq,hs.cy (ao.append F hE)⟩⟩
attribute [local irreducible] J K aD Ends ag aB aM bN aZ aP aV
theorem O'(bd:Nat)(A:Ab):aD Tryz.prog 65 [ptr bd] [aC bd A] (fun v H=>v = .bool A.off∧H=[aC bd A]):=by
 refine iw ak (Post:=fun v H=>v = .bool A.off∧H=[aC bd A]) (fun D hR=>?_) (fun v H h=>⟨H,h,ao.refl _⟩)
 obtain⟨room,bm,kA,og,nA,off,maps,dS,files,gk,wl⟩:=D
 have jN:=hR.off
 simp only at jN
 subst jN
 refine aD.enter Tryz.func65 ak rfl Tryz.ntmps65 zr zr ?_
 intro G F R hE
 refine aj (iQ _ _ _ _ _ _ _ _ _ _ _ _ _) ?_
 refine go ?_
 refine aj ((ao.pick [0,1,2,3,4,5] rfl).trans (dY _ _ _ _ _ _ _ _ _ _ _ _ _)) ?_
 refine aj (gR hR _) ?_
 ((refine ae hE Tryz.func65 rfl _ rfl ⟨rfl,rfl⟩ ad))
theorem HF(room:Nat)(h1:1≤room)(h2:room≤1073741824):aD Tryz.prog 7 [.int .i64 room] [] (fun v H=>∃bd,v = .tuple #[ptr bd,.int .i64 0]∧H=[aC bd (Ab.new room)]) :=
 (Pb room h1 h2).conv (ao.refl _) (by rintro v H⟨bd,D,hR,rfl,rfl⟩;exact⟨_,⟨bd,rfl,rfl⟩,gR hR _⟩)
theorem tP(bd:Nat)(A:Ab)(name:ByteArray):aD Tryz.prog 130 [ptr bd,.string name] [aC bd A] (fun v H=>H=[aC bd A]∧v = .tuple #[.int .i64 (A.size name).1,.int .i64 (A.size name).2]) :=
 iw ak (Post:=fun v H=>∃D,Rel D A∧H=[gS bd D]∧v = .tuple #[.int .i64 (A.size name).1,.int .i64 (A.size name).2]) (fun D hR=>(O2 bd D A hR name).conv (ao.refl _) (by rintro v H⟨rfl,rfl⟩;exact⟨_,⟨D,hR,rfl,rfl⟩,ao.refl _⟩)) (by rintro v H⟨D,hR,rfl,rfl⟩;exact⟨_,⟨rfl,rfl⟩,gR hR _⟩)
theorem Co(bd:Nat)(A:Ab)(name:ByteArray)(at_ n:Int):aD Tryz.prog 62 [ptr bd,.string name,.int .i64 at_,.int .i64 n] [aC bd A]
  (fun v H=>∃r,H=[aC bd A,aB 5 1 r (A.read name at_ n).1.length (bV (A.read name at_ n).1)]∧v = .tuple #[r,.int .i64 (A.read name at_ n).2]) :=
 iw ak (Post:=fun v H=>∃D r,Rel D A∧H=[aB 5 1 r (A.read name at_ n).1.length (bV (A.read name at_ n).1),gS bd D]∧v = .tuple #[r,.int .i64 (A.read name at_ n).2])
  (fun D hR=>(O5 bd D A hR name at_ n).conv (ao.refl _) (by rintro v H⟨r,rfl,rfl⟩;exact⟨_,⟨D,r,hR,rfl,rfl⟩,ao.refl _⟩)) (by rintro v H⟨D,r,hR,rfl,rfl⟩;exact⟨_,⟨r,rfl,rfl⟩,(ao.pick [1,0] rfl).trans (gR hR _)⟩)
theorem u4(bd:Nat)(A:Ab)(name:ByteArray)(cF:A.aq.length≤1000000000):aD Tryz.prog 89 [ptr bd,.string name] [aC bd A]
  (fun v H=>∃f,f ∉ A.fs.map (·.1)∧H=[aC bd (A.create (isName name) name f).2]∧v = .int .i64 (A.create (isName name) name f).1) :=
 iw ak (fun D hR=>HR bd D A hR name cF) (by rintro v H⟨f,D',hf,hR,rfl,rfl⟩;exact⟨_,⟨f,hf,rfl,rfl⟩,gR hR _⟩)
theorem uZ(bd:Nat)(A:Ab)(name:ByteArray)(cF:A.aq.length≤1000000000):aD Tryz.prog 114 [ptr bd,.string name] [aC bd A]
  (fun v H=>H=[aC bd (A.remove (isName name) name).2]∧v = .int .i64 (A.remove (isName name) name).1) :=
 iw ak (fun D hR=>HC bd D A hR name cF) (by rintro v H⟨D',hR,rfl,rfl⟩;exact⟨_,⟨rfl,rfl⟩,gR hR _⟩)
theorem tN(bd:Nat)(A:Ab)(name:ByteArray)(at_:Int)(X:HP)(bv:Value)(b:List UInt8)(hv:Vw X bv b.length (bV b))(eH:A.writes.length≤1000000000)(iD:b.length≤1000000000)(PY : -9223372036854775808≤at_∧at_≤9223372036854775807) :
  aD Tryz.prog 102 [ptr bd,.string name,.int .i64 at_,bv] [aC bd A,X]
   (fun v H=>H=[aC bd (A.write (fK name at_ b) name at_.toNat b).2,X]∧v = .int .i64 (A.write (fK name at_ b) name at_.toNat b).1) :=
 iw ak (fun D hR=>Lr bd D A hR name at_ X bv b hv eH iD PY) (by rintro v H⟨D',hR,rfl,rfl⟩;exact⟨_,⟨rfl,rfl⟩,gR hR _⟩)
theorem tO(bd:Nat)(A:Ab)(name:ByteArray)(eH:A.writes.length≤1000000000):aD Tryz.prog 104 [ptr bd,.string name] [aC bd A]
  (fun v H=>H=[aC bd (A.sync (isName name) name).2]∧v = .int .i64 (A.sync (isName name) name).1) :=
 iw ak (fun D hR=>O1 bd D A hR name eH) (by rintro v H⟨D',hR,rfl,rfl⟩;exact⟨_,⟨rfl,rfl⟩,gR hR _⟩)
theorem oY(bd:Nat)(A:Ab):aD Tryz.prog 75 [ptr bd] [aC bd A]
  (fun v H=>H=[aC bd A.cf.2]∧v = .int .i64 A.cf.1) :=
 iw ak (fun D hR=>zP bd D A hR) (by rintro v H⟨D',hR,rfl,rfl⟩;exact⟨_,⟨rfl,rfl⟩,gR hR _⟩)
theorem Bb(bd:Nat)(A:Ab)(old name:ByteArray)(cF:A.aq.length≤1000000000):aD Tryz.prog 173 [ptr bd,.string old,.string name] [aC bd A]
  (fun v H=>H=[aC bd (A.rename ([old,name].all isName) old name).2]∧v = .int .i64 (A.rename ([old,name].all isName) old name).1) :=
 iw ak (fun D hR=>HB bd D A hR old name cF) (by rintro v H⟨D',hR,rfl,rfl⟩;exact⟨_,⟨rfl,rfl⟩,gR hR _⟩)
theorem Fo(bd:Nat)(A:Ab)(last dD cut:Int)(X:HP)(bv:Value)(stay:List UInt8)(hv:Vw X bv stay.length (bV stay))(gb:stay.length≤9223372036854775807)(cF:A.aq.length≤1000000000)(eH:A.writes.length≤1000000000)(h1 : -9223372036854775808≤last∧last≤9223372036854775807)(h2 : -9223372036854775808≤dD∧dD≤9223372036854775807)(h3 : -9223372036854775808≤cut∧cut≤9223372036854775807) :
  aD Tryz.prog 16 [ptr bd,.int .i64 last,bv,.int .i64 dD,.int .i64 cut] [aC bd A,X] (fun v H=>H=[aC bd (A.dp last stay dD cut),X]) :=
 iw ak (fun D hR=>LS bd D A hR last dD cut X bv stay hv gb cF eH h1 h2 h3) (by rintro v H⟨D',hR,rfl⟩;exact⟨_,rfl,gR hR _⟩)
end Go.Proofs.YtedjnjkijiddlaaGreatDoor
namespace Go.Proofs.YtedjnjkijiddlaaGreatDoor
open Go Go.SL
def jV(A B:Ab):Prop:=B.aq.length≤A.aq.length+1∧B.writes.length≤A.writes.length+1
theorem qO(A:Ab)(n:ByteArray)(ok:Bool):(A.find n ok).2.2.aq.length=A.aq.length∧(A.find n ok).2.2.writes.length=A.writes.length:=by
 have h:=nN A n ok
 rw[h.2.2.1,h.2.2.2.1];exact⟨rfl,rfl⟩
theorem AP(A:Ab)(ok:Bool):(A.meet ok).2.aq.length=A.aq.length∧(A.meet ok).2.writes.length=A.writes.length:=by
 unfold Ab.meet
 split
 ·exact⟨rfl,rfl⟩
 split
 ·exact⟨rfl,rfl⟩
 split
 ·exact⟨rfl,rfl⟩
 ·split
  ·exact⟨rfl,rfl⟩
  split <;> exact⟨rfl,rfl⟩
theorem p8(A:Ab)(ok:Bool)(n:ByteArray):jV A (A.remove ok n).2:=by
 have h:=qO A n ok
 unfold Ab.remove
 split
 ·rename_i f A1 he
  rw[he]at h
  simp only at h
  constructor <;> simp[Ab.mV] <;> omega
 ·rename_i e o A1 _ he
  rw[he]at h
  simp only at h
  constructor <;> simp only <;> omega
theorem p7(A:Ab)(ok:Bool)(o n:ByteArray):jV A (A.rename ok o n).2:=by
 have h:=qO A o ok
 unfold Ab.rename
 split
 ·rename_i f A1 he
  rw[he]at h
  simp only at h
  constructor <;> simp[Ab.mV] <;> omega
 ·rename_i e o A1 _ he
  rw[he]at h
  simp only at h
  constructor <;> simp only <;> omega
theorem p9(A:Ab)(ok:Bool)(n:ByteArray)(f:Nat):jV A (A.create ok n f).2:=by
 have h:=AP A ok
 unfold Ab.create
 split
 ·split
  ·constructor <;> simp only <;> omega
  split
  ·constructor <;> simp only <;> omega
  ·constructor <;> simp[Ab.mV] <;> omega
 ·constructor <;> simp only <;> omega
theorem km(A:Ab)(ok:Bool)(n:ByteArray)(at_:Nat)(b:List UInt8):jV A (A.write ok n at_ b).2:=by
 have h:=qO A n ok
 unfold Ab.write
 split
 ·split
  ·split
   ·constructor <;> simp only <;> omega
   ·constructor <;> simp <;> omega
  ·constructor <;> simp only <;> omega
 ·constructor <;> simp only <;> omega
theorem ko(A:Ab)(ok:Bool)(n:ByteArray):jV A (A.sync ok n).2:=by
 have h:=qO A n ok
 unfold Ab.sync
 split
 ·split
  ·constructor
   ·simp only;omega
   ·simp only
    refine Nat.le_trans (List.length_filter_le _ _) ?_
    omega
  ·constructor <;> simp only <;> omega
 ·constructor <;> simp only <;> omega
theorem jP(A:Ab):jV A A.cf.2:=by
 have h:=AP A true
 unfold Ab.cf
 split
 ·constructor <;> simp only[List.length_singleton] <;> omega
 ·constructor <;> simp only <;> omega
instance abT(n:ByteArray)(K:List ByteArray):Decidable (n∈K):=decidable_of_iff (K.any (fun x=>decide (x=n))=true) (by rw[List.any_eq_true];exact⟨fun⟨x,hx,h⟩=>of_decide_eq_true h ▸ hx,fun h=>⟨n,h,decide_eq_true rfl⟩⟩)
def dU(A:Ab):List ByteArray:=A.names.map (·.1)
theorem Gz{α:Type}{a b:List α}(ha:a.Nodup)(hb:b.Nodup)(h:∀n,n∈a↔n∈b):a.length=b.length :=
 ((List.perm_ext_iff_of_nodup ha hb).2 h).length_eq
def pC(l:List ByteArray):List (List UInt8):=(l.map fun b=>b.data.toList).mergeSort fun x y=>decide (x≤y)
theorem sP(l:List ByteArray):(pC l).Pairwise (·≤·) :=
 (List.pairwise_mergeSort (le:=fun x y:List UInt8=>decide (x≤y)) (fun a b c h1 h2=>decide_eq_true (List.le_trans (of_decide_eq_true h1) (of_decide_eq_true h2))) (fun a b=>by simpa using List.le_total a b) _).imp fun h=>of_decide_eq_true h
theorem mJ(l:List ByteArray):(pC l).Perm (l.map fun b=>b.data.toList):=List.mergeSort_perm _ _
theorem F8{a b:List ByteArray}(h:a.Perm b):pC a=pC b :=
 List.Perm.eq_of_pairwise (fun x y _ _ h1 h2=>List.le_antisymm h1 h2) (sP a) (sP b) ((mJ a).trans ((h.map _).trans (mJ b).symm))
theorem uw(l:List ByteArray):(pC l).length=l.length:=by rw[(mJ l).length_eq,List.length_map]
def kS:List UInt8:=[115,45]
def kB:List UInt8:=[98,45]
def kN:List UInt8:=[110,45]
def kI:List UInt8:=[105,45]
def sl(A:Ab)(nm:ByteArray):Bool:=(A.look nm).isSome
def e9(A:Ab)(nm:ByteArray):Option (List UInt8):=match A.look nm with
 | none=>none
 | some f=>if A.off then none else some (A.now f)
def na(A:Ab)(d:Dg):Option (List Bl):=(e9 A (du kI d)).bind yH
def jf(A:Ab)(d:Dg):Bool:=match e9 A (du kB d)with
 | none=>false
 | some b=>decide (dM b=d)
def fM(A:Ab)(d:Dg):Bool:=match na A d with
 | none=>false
 | some x=>decide (xM x=d) && x.all fun y=>jf A y.d
def rk(A:Ab):Nat:=(A.names.map fun x=>if(jx kB x.1).isSome then(A.now x.2).length else 0).sum
def fJ(A:Ab):List ByteArray:=(pC (dU A)).map strOf
abbrev Ba:=Ab→Nat→Ab→Prop
def ij(nm:ByteArray):Ba:=fun A e B=>∃f,f ∉ A.fs.map (·.1)∧(e,B)=A.create (isName nm) nm f
def iU(nm:ByteArray):Ba:=fun A e B=>(e,B)=A.remove (isName nm) nm
def fz(nm:ByteArray)(at_:Nat)(b:List UInt8):Ba:=fun A e B=>(e,B)=A.write (fK nm at_ b) nm at_ b
def eX(nm:ByteArray):Ba:=fun A e B=>(e,B)=A.sync (isName nm) nm
def kH(o n:ByteArray):Ba:=fun A e B=>(e,B)=A.rename ([o,n].all isName) o n
def dE:Ba:=fun A e B=>(e,B)=A.cf
def mg(kind:List UInt8)(right:Ab→Dg→Bool):List ByteArray→Ba
 | [],A,e,B=>e=0∧B=A
 | nm::l,A,e,B=>match jx kind nm with
  | none=>mg kind right l A e B
  | some d=>if right A d then mg kind right l A e B else ∃e1 A1,iU nm A e1 A1∧((e1≠0∧e=e1∧B=A1)∨(e1=0∧mg kind right l A1 e B))
def eu(kind:List UInt8)(right:Ab→Dg→Bool):Ba:=fun A=>mg kind right (fJ A) A
def qj:Ba:=fun A e B=>∃e1 A1,iA [eu kB jf,eu kN (fun _ _=>false),eu kI fM] A e1 A1 ∧
 if e1=0∧A1.names.length<A.names.length then dE A1 e B else e=e1∧B=A1
structure eU where
 A:Ab
 aY:List (Dg × Bl)
 brk:Bool
def gz(l:List (Dg × Bl))(d:Dg):Option Bl:=(l.find? fun x=>decide (x.1=d)).map (·.2)
def tj(s:eU)(x:Bl):Bool:=decide (gz s.aY x.d=some x)
def jF(s:eU):Int:=rk s.A+(s.aY.map (·.2.size)).sum
def Ca(ss:List Ba)(s:eU)(e:Nat)(t:eU):Prop:=∃B,iA ss s.A e B∧t=⟨B,s.aY,s.brk || decide (e≠0)⟩
def iV(s:eU)(x:Bl):Nat:=if s.brk then 10 else if tj s x then 0 else 4
def fS(x:Bl):ByteArray:=du kS x.d
def fB(x:Bl):ByteArray:=du kB x.d
def DK(o n:ByteArray):List Ba:=[eX o,kH o n,dE]
def dJ(q:Int)(x:Bl)(s:eU)(e:Nat)(t:eU):Prop :=
 if s.brk then e=10∧t=s else if bo x=false then e=1∧t=s else if(gz s.aY x.d).isSome∨sl s.A (fB x)then e=5∧t=s
 else if q<jF s+x.size then e=11∧t=s
 else if sl s.A (fS x)then e=0∧t=⟨s.A,s.aY++[(x.d,x)],s.brk⟩
 else ∃e1 s1,Ca [ij (fS x),dE] s e1 s1∧((e1≠0∧e=e1∧t=s1)∨(e1=0∧e=0∧t=⟨s1.A,s1.aY++[(x.d,x)],s1.brk⟩))
def mF(x:Bl)(i:Int)(b:List UInt8)(s:eU)(e:Nat)(t:eU):Prop :=
 if iV s x≠0 then e=iV s x∧t=s else match cP x i with
  | none=>e=1∧t=s
  | some (at_,n)=>if(b.length:Int)≠n then e=1∧t=s else Ca [fz (fS x) at_.toNat b] s e t
def j8(x:Bl)(s:eU)(e:Nat)(t:eU):Prop:=if iV s x≠0 then e=iV s x∧t=s else Ca [eX (fS x)] s e t
def nR(l:List (Dg × Bl))(d:Dg):List (Dg × Bl):=l.filter fun x => !decide (x.1=d)
def gN(x:Bl)(s:eU)(e:Nat)(t:eU):Prop :=
 if iV s x≠0 then e=iV s x∧t=s else ∃s1,Ca [iU (fS x)] s e s1∧t=if e≠0 then s1 else⟨s1.A,nR s1.aY x.d,s1.brk⟩
def dI(x:Bl)(s:eU)(e:Nat)(t:eU):Prop :=
 if iV s x≠0 then e=iV s x∧t=s
 else if dP x ((e9 s.A (fS x)).getD [])=false then ∃e1,gN x s e1 t∧e=if e1≠0 then e1 else 8
 else ∃s1,Ca (DK (fS x) (fB x)) s e s1∧t=if e≠0 then s1 else⟨s1.A,nR s1.aY x.d,s1.brk⟩
end Go.Proofs.YtedjnjkijiddlaaGreatDoor
namespace Go.SL
section
variable{P:Program}{U:Tr}[hU:fT P U]{f:FuncId}{n:Nat}{R:Ending→World→Prop}{G:cC}{k:List Item}{L:fC}{H H':List HP}{S:World→Prop}{all:Array Oper}{rest:Pl}{ty:TypeId}{pos:String}{af:Array Edge}{gd:Option (Nat × Bool)}{m:Bool}{d:Tmp}
theorem gI{Hs:List HP}{t:TypeId}{x:Operand}{b o off nn cap:Nat}{bM:Ty}{es cs:List Value}{A:HP}(i idx:Nat)(hd:Nat.blt d n=true)(hx:ev L x=some (.pointer (some ⟨b,off,none⟩)))(hi:cq Hs i=some A)(hv:Vw A (.slice (some ⟨b,o,none⟩) nn cap) nn cs)(jN:off=o+idx)(rh:∀j v,es[j]?=some v→cs[idx+j]?=some v)(ht:U.get t=some bM)(hg:bM.isAgg=true)(hl:Nat.beq es.length bM.info.size=true)(h:J P f n R G (fun w=>Sat G w Hs) all rest k ((d,.agg es.toArray)::L) H):J P f n R G (fun w=>Sat G w Hs) all (.cons true true ⟨some d,.load t x,ty,pos,af,gd⟩ rest) k L H :=
 lr hd (fun a w ha hw=>by
  have hc:∀j v,es[j]?=some v→w.cell? ⟨b,off+j,none⟩=some v:=fun j v hj=>by
   obtain⟨h,hh,hA⟩:=Sat.kQ hw hi
   have:=hv.cell (rh j v hj) h hA
   rw[jN,show o+idx+j=o+(idx+j) by omega]
   exact dO hh this
  simp[execOp,ha.ev hx,im (P:=P) ht hg (Nat.eq_of_beq_eq_true hl) hc]) h
end
end Go.SL
