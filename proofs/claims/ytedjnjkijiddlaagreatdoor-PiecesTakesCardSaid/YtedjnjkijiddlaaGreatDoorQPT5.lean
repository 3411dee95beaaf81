import Derived.Test.YtedjnjkijiddlaaGreatDoorQPT2
import Derived.Test.YtedjnjkijiddlaaGreatDoorQPT3
import Derived.Test.YtedjnjkijiddlaaGreatDoorQPT4
set_option linter.unusedSimpArgs false
set_option linter.unusedVariables false
set_option linter.defProp false
namespace Go.Proofs.YtedjnjkijiddlaaGreatDoor
open Go Go.SL
variable{A:Ab}{k:ByteArray}{D:Dk}{dN:Int}{files:List (Nat × Value × Value)}{b n s stay:List UInt8}{x:List UInt8 × List UInt8}{f i j:Nat}{v1 v2 w:Value}{arrs':fU}
attribute [local irreducible] J K aE Ends ae aB aP bP bq aS aZ
def z7(b:Nat)(es:List (ByteArray × Value)) :
  aE Tryz.prog 202 [.map (some b)] [aP Value.string b es] (fun v H=>∃b',v = .map (some b')∧H=[aP Value.string b' es,aP Value.string b es]):=by
 refine aE.enter Tryz.func202 ak rfl Tryz.ntmps202 zr zr ?_
 intro G F R hR
 refine go ?_
 refine Mh (U:=aQ) zr zr zr zr ?_
 refine FL (kv:=Value.string) (es:=es) 0 rfl Tryz.func222 ak ak ak ak zr zr bD ?_
 intro b'
 refine Qa (U:=aQ) zr zr zr zr (go ?_)
 refine aL hR Tryz.func202 rfl _ rfl ⟨b',rfl,rfl⟩ (al.fin [0,1] 0 zr zr)
def my{α:Type}(bd:Nat)(D:Dk)(nm:List (ByteArray × Nat))(hm:(D.bm,eS nm)∈D.maps)(g:FuncId)(cap:Array Value)(E:HP)(nm':α→List (ByteArray × Nat))(E':α→HP)(q:α→Prop)(hc:∀b',aE Tryz.prog g (.map (some b')::cap.toList) [aP Value.string b' (eS nm),E] (fun _ H=>∃x,q x∧H=[aP Value.string b' (eS (nm' x)),E' x]))(hlen:D.gF.length≤1000000000) :
  aE Tryz.prog 149 [ptr bd,.func (.func g) #[] cap] [hJ bd D,E]
   (fun _ H=>∃x b' v,q x∧H=[hJ bd { D with bm:=b',maps:=(b',eS (nm' x))::D.maps,kM:=v,gF:=D.gF++[b'] },E' x]):=by
 obtain⟨room,bm,kM,oH,nK,off,maps,ec,files,gF,wl⟩:=D
 simp only at hm hlen ⊢
 refine aE.ao Tryz.func149 Tryz.ntmps149 fun G F R hE=>?_
 refine ai (iY _ _ _ _ _ _ _ _ _ _ _ _ _) (go ?_)
 obtain⟨j,hj⟩:=List.getElem?_of_mem hm
 refine aI (al.pick [1] rfl) ?_
 refine aI (ig kX hj _) ?_
 refine cF [0] zr zr zr zr (z7 bm (eS nm)) rfl mM ?_
 rintro _ _⟨b',rfl,rfl⟩
 refine aI (al.pick [1,2] rfl) ?_
 refine aI (pV kX hj _) (go ?_)
 refine cF [1,7] zr zr zr zr (hc b') rfl mM ?_
 rintro _ _⟨x,hq,rfl⟩
 refine aI (al.pick [0,2] rfl) ?_
 refine aI (qO kX (b',eS (nm' x)) maps _) (go ?_)
 refine aF (fun w=>Sat G w ([ae bd (cl [.int .i64 room,.map (some b'),kM,oH,nK,.bool off] 76)])) (cZ 0 9 (.act 9 (.act 10 (.st 11 (.st 12 (.act 13 .nil)))))) rfl ak ak ak (fun w hw=>hw.cV (al.bE ([2]) rfl)) ?_
 refine go ?_
 refine aj zr zr zr zr zr zr zr zr zr (fun _ w hw=>hw.cV (al.bE ([3]) rfl)) ?_
 intro b0
 refine aR (mm:=1) (news:=[.map (some b')]) 6 0 zr zr zr zr zr zr zr zr zr zr zr zr (Vw.ae rfl) rfl (by simp[Value.oneCell']) ag (by show _*8≤_;omega) (fun _=>rfl) (fun _ w hw=>hw.cV (al.bE ([3]) rfl)) ?_
 intro v'
 have e1:(gF.map fun b=>Value.map (some b))++[.map (some b')]=(gF++[b']).map fun b=>Value.map (some b):=by simp
 have e2:gF.length+1=(gF++[b']).length:=by simp
 rw[e1,e2]
 refine aO 6 rfl ?_
 rintro av cv rfl
 refine go ?_
 refine ai (al.pick [3,1,4,5,6,7,2] rfl) ?_
 refine ai (ek bd room b' _ oH nK off _ ec files (gF++[b']) wl _) ?_
 refine bW hE Tryz.func149 rfl _ rfl ⟨x,b',_,hq,rfl⟩ (al.fin [0,1] 1 zr zr)
def Rel.new(room bm Sj:Nat)(v:Value)(h:room≤1073741824):Rel ⟨room,bm,v,.slice none 0 0,.slice none 0 0,false,[(Sj,[]),(bm,[])],[],[],[Sj],[]⟩ (Ab.new room) where
 room:=rfl
 off:=rfl
 names:=by simp[Ab.new,eS]
 aw:=eZ.one (by simp[eS])
 fs:=eZ.nil
 writes:=eZ.nil
 er:=kK.nil _ _ _
 ids:=by simp[Ab.new]
 known:=by simp[Ab.new]
 gW:=by simp[Ab.new]
 nodup:=by simp[Ab.new]
 gG:=by simp[Ab.new]
 im:=by simp[Ab.new]
 fE:=by simp[Ab.new]
 iq:=h
 kr:=by simp[Ab.new]
 full:=by simp[Ab.new]
def PY(room:Nat)(h1:1≤room)(h2:room≤1073741824) :
  aE Tryz.prog 7 [.int .i64 room] [] (fun v H=>∃bd D,Rel D (Ab.new room)∧v = .tuple #[ptr bd,.int .i64 0]∧H=[hJ bd D]):=by
 refine aE.ao Tryz.func7 Tryz.ntmps7 fun G F R hE=>?_
 repeat'(first|(with_reducible intro pM)|refine gy ?_|refine ie zr zr zr zr ?_ ?_|refine aq zr zr ?_ ?_)
 ·omega
 ·omega
 refine oy rfl bD ?_
 intro bm
 refine aI (al.head (B:=[kX (bm,[])]) (fun h hs=>⟨h,sub.refl h,gm (qe _ _ h hs)⟩)) ?_
 refine oy rfl bD ?_
 intro Sj
 refine aI (al.head (B:=[kX (Sj,[])]) (fun h hs=>⟨h,sub.refl h,gm (qe _ _ h hs)⟩)) ?_
 refine aj zr zr zr zr zr zr zr zr zr bD ?_
 intro b0
 refine go ?_
 refine bG zr zr bD ?_
 intro bd
 refine go ?_
 refine ai (AI kX _) ?_
 refine ai (al.pick [4,0] rfl) ?_
 refine ai (qO kX (bm,[]) [] _) ?_
 refine ai (al.pick [3,0] rfl) ?_
 refine ai (qO kX (Sj,[]) [(bm,[])] _) ?_
 refine ai (al.pick [2] rfl) ?_
 refine ai (eJ 72 1 b0 1 1 [.map (some Sj)] [] _ rfl (Nat.le_refl _) (by simp)) ?_
 refine ai (bN 109 3 none _) ?_
 refine ai (zv 5 _) ?_
 refine ai (AI e9 _) ?_
 refine ai (al.pick [5,4,1,0,3,2] rfl) ?_
 refine ai (ek bd room bm (.slice (some ⟨b0,0,none⟩) 1 1) (.slice none 0 0) (.slice none 0 0) false [(Sj,[]),(bm,[])] [] [] [Sj] [] _) ?_
 refine aL hE Tryz.func7 rfl _ rfl ⟨bd,_,Rel.new room bm Sj _ h2,rfl,rfl⟩ (al.fin [0] 0 zr zr)
def oW{l:List (ByteArray × Nat)}:(Ab.cP l k).isSome=true↔k∈l.map (·.1):=by
 unfold Ab.cP
 rw[Option.isSome_map,List.find?_isSome]
 simp only[decide_eq_true_eq,List.mem_map]
def Bz(l:List (ByteArray × Nat))(k:ByteArray):rL (eS l) k=eS (Ab.dI l k):=by
 unfold rL eS Ab.dI
 rw[List.filter_map]
 rfl
def Bw(l:List (ByteArray × Nat))(k:ByteArray)(f:Nat):nA (eS l) k (ptr f)=eS (Ab.jQ l k f):=by
 have hk:(eS l).map (·.1)=l.map (·.1):=by simp[eS,Function.comp_def]
 unfold nA Ab.jQ
 rw[hk]
 by_cases h:(Ab.cP l k).isSome=true
 ·rw[if_pos (oW.1 h),if_pos h]
  simp only[eS,List.map_map]
  apply List.map_congr_left
  intro x _
  simp only[Function.comp]
  split <;> rfl
 ·rw[if_neg (fun h'=>h (oW.2 h')),if_neg h]
  simp[eS]
def FB(b box:Nat)(l:List (ByteArray × Nat))(k:ByteArray) :
  aE Tryz.prog 176 [.map (some b),ptr box] [aP Value.string b (eS l),ae box (cl [.string k] 9)] (fun _ H=>H=[aP Value.string b (eS (Ab.dI l k)),ae box (cl [.string k] 9)]):=by
 refine aE.ao Tryz.func176 Tryz.ntmps176 fun G F R hE=>?_
 refine go ?_
 refine mK 0 wy gB zr zr zr zr zr zr zr ?_
 rw[Bz]
 refine go ?_
 refine bW hE Tryz.func176 rfl _ zr zr (al.fin [0,1] 0 zr zr)
def qB(b zt zq acg f:Nat)(l:List (ByteArray × Nat))(k k2:ByteArray) :
  aE Tryz.prog 209 [.map (some b),ptr zt,ptr zq,ptr acg] [aP Value.string b (eS l),Sep [ae zt (cl [.string k] 9),ae zq (cl [ptr f] 107),ae acg (cl [.string k2] 9)]]
   (fun _ H=>H=[aP Value.string b (eS (Ab.jQ (Ab.dI l k) k2 f)),emp]):=by
 refine aE.ao Tryz.func209 Tryz.ntmps209 fun G F R hE=>?_
 refine ai (al.pick [1] rfl) ?_
 refine ai (al.cD _ _) (go ?_)
 refine mK 3 wy gB zr zr zr zr zr zr zr ?_
 rw[Bz]
 refine go ?_
 refine jo 3 wy gB zr zr zr zr zr zr zr zr ?_
 rw[Bw]
 refine go ?_
 refine ai (al.qA _) ?_
 refine bW hE Tryz.func209 rfl _ zr zr (al.fin [4,0] 3 zr zr)
def FV(b box:Nat)(l:List (ByteArray × Nat))(k:ByteArray) :
  aE Tryz.prog 150 [.map (some b),ptr box] [aP Value.string b (eS l),ae box (cl [.string k] 9)]
   (fun _ H=>∃f,True∧H=[aP Value.string b (eS (Ab.jQ l k f)),e9 (f,.slice none 0 0,.slice none 0 0)]):=by
 refine aE.ao Tryz.func150 Tryz.ntmps150 fun G F R hE=>?_
 refine go ?_
 refine bG zr zr bD ?_
 intro f
 refine go ?_
 refine jo (v:=ptr f) 1 wy gB zr zr zr zr zr zr zr zr ?_
 rw[Bw]
 refine go ?_
 refine bW hE Tryz.func150 rfl _ rfl ⟨f,trivial,rfl⟩ (al.fin [1,0] 1 zr zr)
def fresh(l:List Nat):∃n,n ∉ l:=by
  suffices h:∃n,∀x∈l,x<n from let ⟨n,hn⟩:=h;⟨n,fun hx=>Nat.lt_irrefl _ (hn n hx)⟩
  induction l with
  | nil=>exact⟨0,by simp⟩
  | cons a l ih =>
    obtain⟨n,hn⟩:=ih
    exact⟨max n (a+1),fun x hx=>by
      rcases List.mem_cons.1 hx with rfl|h
      · omega
      · have:=hn x h;omega⟩
def HL{G:cJ}{w:World}{H:List HP}{x:Nat × Value × Value}(hs:Sat G w (e9 x::aS e9 files::H)):x.1 ∉ files.map (·.1):=by
 intro hx
 obtain⟨y,hy,he⟩:=List.mem_map.1 hx
 obtain⟨i,hi⟩:=List.getElem?_of_mem hy
 have h1:=hs.cV ((al.perm (List.Perm.swap _ _ _)).trans ((ig e9 hi _).trans (al.pick [2,0] rfl)))
 unfold e9 at h1
 exact h1.ne he.symm
def I0(A:Ab)(may:Bool):(A.meet may).2.fs=A.fs∧(A.meet may).2.names=A.names∧(A.meet may).2.aw=A.aw∧(A.meet may).2.writes=A.writes∧(A.meet may).2.room=A.room:=by
 unfold Ab.meet
 split
 ·simp
 split
 ·simp
 split
 ·simp
 split
 ·simp
 split <;> simp
def Rel.ng(h:Rel D A){b':Nat}{v:Value}{nm:List (ByteArray × Nat)}(hk:∀x∈nm,x.2∈A.fs.map (·.1))(hn:(nm.map (·.1)).Nodup)(hl:nm.length≤200) :
  Rel { D with bm:=b',maps:=(b',eS nm)::D.maps,kM:=v,gF:=D.gF++[b'] } (A.ng nm) where
 room:=h.room
 off:=h.off
 names:=by simp[Ab.ng]
 aw:=eZ.snoc (h.aw.mono fun b es hb=>List.mem_cons_of_mem _ hb) (by simp)
 fs:=h.fs
 writes:=h.writes
 er:=h.er
 ids:=h.ids
 known:=by
  intro st cK
  simp only[Ab.ng,List.mem_cons,List.mem_append,List.not_mem_nil,or_false]at cK
  rcases cK with rfl|cK|rfl
  ·exact hk
  ·exact h.known _ (List.mem_cons_of_mem _ cK)
  ·exact hk
 gW:=h.gW
 nodup:=by
  intro st cK
  simp only[Ab.ng,List.mem_cons,List.mem_append,List.not_mem_nil,or_false]at cK
  rcases cK with rfl|cK|rfl
  ·exact hn
  ·exact h.nodup _ (List.mem_cons_of_mem _ cK)
  ·exact hn
 gG:=h.gG
 im:=h.im
 fE:=by
  intro st cK
  simp only[Ab.ng,List.mem_cons,List.mem_append,List.not_mem_nil,or_false]at cK
  rcases cK with rfl|cK|rfl
  ·exact hl
  ·exact h.fE _ (List.mem_cons_of_mem _ cK)
  ·exact hl
 iq:=h.iq
 kr:=h.kr
 full:=by simp[Ab.ng]
def Rel.Sp(h:Rel D A)(hf:f ∉ A.fs.map (·.1)):Rel { D with files:=(f,.slice none 0 0,.slice none 0 0)::D.files } { A with fs:=(f,[],[])::A.fs } where
 room:=h.room
 off:=h.off
 names:=h.names
 aw:=h.aw
 fs:=h.fs.cons ⟨rfl,kK.nil _ _ _,kK.nil _ _ _⟩
 writes:=h.writes
 er:=h.er
 ids:=by simp only[List.map_cons,List.nodup_cons];exact⟨hf,h.ids⟩
 known:=fun st cK x hx=>List.mem_cons_of_mem _ (h.known st cK x hx)
 gW:=fun x hx=>List.mem_cons_of_mem _ (h.gW x hx)
 nodup:=h.nodup
 gG:=fun x hx=>by
  rcases List.mem_cons.1 hx with rfl|hx
  ·simp
  ·exact h.gG x hx
 im:=h.im
 fE:=h.fE
 iq:=h.iq
 kr:=h.kr
 full:=h.full
def eZ.ids{q:Nat × Value × Value→Nat × List UInt8 × List UInt8→Prop}{l:List (Nat × Value × Value)}{r:List (Nat × List UInt8 × List UInt8)}(h:eZ q l r)(hq:∀x y,q x y→x.1=y.1):l.map (·.1)=r.map (·.1):=by
 apply List.ext_getElem?
 intro i
 simp only[List.getElem?_map]
 cases hx:l[i]? with
 | none =>
  have:r[i]?=none:=by rw[List.getElem?_eq_none_iff]at hx ⊢;rw[← h.1];exact hx
  rw[this];rfl
 | some x =>
  obtain⟨y,hy,Ac⟩:=h.left hx
  rw[hy]
  simp[hq x y Ac]
def Rel.ab7(h:Rel D A):D.files.map (·.1)=A.fs.map (·.1):=eZ.ids h.fs fun x y Ac=>Ac.1
def Ng{l:List (ByteArray × Nat)}(h:Ab.cP l k=none):Ab.jQ l k f=l++[(k,f)]:=by simp[Ab.jQ,h]
def Iu(bd:Nat)(D:Dk)(A:Ab)(hR:Rel D A)(name:ByteArray)(cK:A.aw.length≤1000000000) :
  aE Tryz.prog 89 [ptr bd,.string name] [hJ bd D]
   (fun v H=>∃f D',f ∉ A.fs.map (·.1)∧Rel D' (A.create (isName name) name f).2∧H=[hJ bd D']∧v = .int .i64 (A.create (isName name) name f).1):=by
 refine aE.ao Tryz.func89 Tryz.ntmps89 fun G F R hE=>?_
 refine go ?_
 refine bG zr zr bD ?_
 intro box
 refine go ?_
 refine aj zr zr zr zr zr zr zr zr zr bD ?_
 intro b0
 refine go ?_
 refine cF [0] zr zr zr zr (jE _ _ [name] (Vw.ae rfl) (by simp)) rfl mM ?_
 rintro _ _⟨rfl,rfl⟩
 have e1:[name].all isName=isName name:=by simp
 rw[e1]
 refine go ?_
 refine cF [2] zr zr zr zr (ys bd D A hR (isName name)) rfl mM ?_
 rintro _ _⟨D',gx,rfl,rfl⟩
 obtain⟨f0,hf0⟩:=fresh (A.fs.map (·.1))
 have hmf:=I0 A (isName name)
 refine go ?_
 refine fR zr zr ?_ ?_
 ·intro h0
  have nZ:¬(A.meet (isName name)).1=0:=by have:=of_decide_eq_true h0;omega
  have hf:A.create (isName name) name f0=((A.meet (isName name)).1,(A.meet (isName name)).2):=by simp[Ab.create,nZ]
  refine go ?_
  refine aL hE Tryz.func89 rfl _ rfl ⟨f0,D',hf0,by rw[hf];exact gx,rfl,by rw[hf];rfl⟩ (al.fin [0] 2 zr zr)
 ·intro h0
  have nZ:(A.meet (isName name)).1=0:=by have:=of_decide_eq_false h0;omega
  obtain⟨room,bm,kM,oH,nK,off,maps,ec,files,gF,wl⟩:=D'
  have OA:gF.length≤1000000000:=by have:=gx.aw.1;simp only at this;rw[this,hmf.2.2.1];exact cK
  refine ai (iY _ _ _ _ _ _ _ _ _ _ _ _ _) ?_
  refine aF (fun w=>Sat G w ([ae bd (cl [.int .i64 room,.map (some bm),kM,oH,nK,.bool off] 76),aS kX maps,ae box (cl [.string name] 9)])) (cZ 0 11 .nil) rfl ak ak ak (fun w hw=>hw.cV (al.bE ([0,1,7]) rfl)) ?_
  refine go ?_
  refine qJ (U:=aQ) rfl wy zr zr zr zr zr zr zr (fun w hw=>jU (i:=1) hw rfl gx.names) ?_
  rw[pq]
  cases hl:Ab.cP (A.meet (isName name)).2.names name with
  | some fl =>
   have hf:A.create (isName name) name f0=(5,(A.meet (isName name)).2):=by simp[Ab.create,nZ,Ab.look,hl]
   refine go ?_
   refine ai ((al.pick [0,1,2,3,4,5] rfl).trans (ek _ _ _ _ _ _ _ _ _ _ _ _ _)) ?_
   refine aL hE Tryz.func89 rfl _ rfl ⟨f0,_,hf0,by rw[hf];exact gx,rfl,by rw[hf];rfl⟩ (al.fin [0] 2 zr zr)
  | none =>
   refine go ?_
   refine Mk (kv:=Value.string) (U:=aQ) zr zr zr zr (fun w hw=>jU (i:=1) hw rfl gx.names) ?_
   have nV:(eS (A.meet (isName name)).2.names).length=(A.meet (isName name)).2.names.length:=by simp[eS]
   rw[nV]
   refine go ?_
   refine aq zr zr ?_ ?_
   ·intro EP
    have hf:A.create (isName name) name f0=(3,(A.meet (isName name)).2):=by simp[Ab.create,nZ,Ab.look,hl];omega
    refine go ?_
    refine ai ((al.pick [0,1,2,3,4,5] rfl).trans (ek _ _ _ _ _ _ _ _ _ _ _ _ _)) ?_
    refine aL hE Tryz.func89 rfl _ rfl ⟨f0,_,hf0,by rw[hf];exact gx,rfl,by rw[hf];rfl⟩ (al.fin [0] 2 zr zr)
   ·intro EP
    refine go ?_
    refine aI ((al.pick [0,1,2,3,4,5] rfl).trans (ek _ _ _ _ _ _ _ _ _ _ _ _ _)) ?_
    refine cF [0,2] zr zr zr zr (my (α:=Nat) bd _ _ gx.names 150 #[ptr box] (ae box (cl [.string name] 9)) (fun f=>Ab.jQ (A.meet (isName name)).2.names name f) (fun f=>e9 (f,.slice none 0 0,.slice none 0 0)) (fun _=>True) (fun b'=>FV b' box _ name) OA) rfl mM ?_
    rintro _ _⟨f,b',v,_,rfl⟩
    refine go ?_
    refine ai (iY _ _ _ _ _ _ _ _ _ _ _ _ _) ?_
    refine ai (al.pick [6,3] rfl) ?_
    refine sk fun⟨w,hw⟩=>?_
    have hff:f ∉ A.fs.map (·.1):=by have:=HL hw;have h2:=gx.ab7;simp only at h2;rw[h2,hmf.1]at this;exact this
    clear hw
    refine ai (qO e9 (f,.slice none 0 0,.slice none 0 0) files _) ?_
    have oE:(A.meet (isName name)).2.look name=none:=hl
    have hf:A.create (isName name) name f=(0,{ (A.meet (isName name)).2.ng ((A.meet (isName name)).2.names++[(name,f)])with fs:=(f,[],[])::(A.meet (isName name)).2.fs }):=by
     simp only[Ab.create,nZ,if_true,oE,Option.isSome_none,Bool.false_eq_true,if_false]
     rw[if_neg ag]
    have ir:Ab.jQ (A.meet (isName name)).2.names name f=(A.meet (isName name)).2.names++[(name,f)]:=Ng hl
    have RF:name ∉ (A.meet (isName name)).2.names.map (·.1):=fun h=>by have:=oW.2 h;rw[hl]at this;cases this
    have Pb:=(gx.Sp (f:=f) (by rw[hmf.1];exact hff)).ng (b':=b') (v:=v) (nm:=(A.meet (isName name)).2.names++[(name,f)])
     (fun x hx=>by
      rcases List.mem_append.1 hx with hx|hx
      ·exact List.mem_cons_of_mem _ (gx.known _ (List.mem_cons_self ..) x hx)
      ·simp only[List.mem_singleton]at hx;subst hx;exact List.mem_cons_self ..)
     (by
      rw[List.map_append,List.nodup_append]
      exact⟨gx.nodup _ (List.mem_cons_self ..),by simp,fun a ha b hb=>by simp at hb;subst hb;rintro rfl;exact RF ha⟩)
     (by rw[List.length_append];simp only[List.length_singleton];omega)
    rw[ir]
    refine ai (al.pick [1,2,3,0,4,5] rfl) ?_
    refine ai (ek bd room b' _ oH nK off _ ec _ (gF++[b']) wl _) ?_
    refine aL hE Tryz.func89 rfl _ rfl ⟨f,_,hff,by rw[hf];exact Pb,rfl,by rw[hf];rfl⟩ (al.fin [0] 1 zr zr)
def PL(bd:Nat)(D:Dk)(A:Ab)(hR:Rel D A)(name:ByteArray) :
  aE Tryz.prog 130 [ptr bd,.string name] [hJ bd D] (fun v H=>H=[hJ bd D]∧v = .tuple #[.int .i64 (A.size name).1,.int .i64 (A.size name).2]):=by
 obtain⟨room,bm,kM,oH,nK,off,maps,ec,files,gF,wl⟩:=D
 refine aE.ao Tryz.func130 Tryz.ntmps130 fun G F R hE=>?_
 refine ai (iY _ _ _ _ _ _ _ _ _ _ _ _ _) (go ?_)
 refine qK (U:=aQ) rfl wy zr zr zr zr zr zr zr (fun w hw=>jU (i:=1) hw rfl hR.names) ?_
 rw[pq]
 cases hl:Ab.cP A.names name with
 | none =>
  have hs:A.size name=(0,4):=by simp[Ab.size,Ab.look,hl]
  rw[hs]at hE
  refine go ?_
  refine ai ((al.pick [0,1,2,3,4,5] rfl).trans (ek _ _ _ _ _ _ _ _ _ _ _ _ _)) ?_
  refine aL hE Tryz.func130 rfl _ rfl ⟨rfl,rfl⟩ (al.fin [0] 0 zr zr)
 | some fl =>
  have hs:A.size name=((A.now fl).length,0):=by simp[Ab.size,Ab.look,hl]
  rw[hs]at hE
  obtain⟨i,v1,v2,hi,nr,mf,rW⟩:=hR.file (f:=fl) (hR.known _ (List.mem_cons_self ..) _ (qf hl))
  obtain⟨a,cap,rfl,jz⟩:=mf.shape
  refine go ?_
  refine xz (U:=aQ) zr zr (fun w hw=>tY (i:=3) hw rfl hi) zr zr ?_
  refine go ?_
  refine ai ((al.pick [0,1,2,3,4,5] rfl).trans (ek _ _ _ _ _ _ _ _ _ _ _ _ _)) ?_
  refine aL hE Tryz.func130 rfl _ rfl ⟨rfl,rfl⟩ (al.fin [0] 0 zr zr)
def PR(bd:Nat)(D:Dk)(A:Ab)(hR:Rel D A)(name:ByteArray)(at_ n:Int) :
  aE Tryz.prog 62 [ptr bd,.string name,.int .i64 at_,.int .i64 n] [hJ bd D]
   (fun v H=>∃r,H=[aB 5 1 r (A.read name at_ n).1.length (bV (A.read name at_ n).1),hJ bd D]∧v = .tuple #[r,.int .i64 (A.read name at_ n).2]):=by
 obtain⟨room,bm,kM,oH,nK,off,maps,ec,files,gF,wl⟩:=D
 have jV:=hR.off
 simp only at jV
 refine aE.ao Tryz.func62 Tryz.ntmps62 fun G F R hE=>?_
 refine ai (iY _ _ _ _ _ _ _ _ _ _ _ _ _) ?_
 cases off with
 | true =>
  have hs:A.read name at_ n=([],7):=by simp[Ab.read,← jV]
  rw[hs]at hE
  refine go ?_
  refine ai ((al.pick [0,1,2,3,4,5] rfl).trans (ek _ _ _ _ _ _ _ _ _ _ _ _ _)) ?_
  refine ai (bN 5 1 none _) ?_
  refine aL hE Tryz.func62 rfl _ rfl ⟨_,rfl,rfl⟩ (al.fin [0,1] 0 zr zr)
 | false =>
  refine go ?_
  refine qK (U:=aQ) rfl wy zr zr zr zr zr zr zr (fun w hw=>jU (i:=1) hw rfl hR.names) ?_
  rw[pq]
  cases hl:Ab.cP A.names name with
  | none =>
   have hs:A.read name at_ n=([],4):=by simp[Ab.read,Ab.look,hl,← jV]
   rw[hs]at hE
   refine go ?_
   refine ai ((al.pick [0,1,2,3,4,5] rfl).trans (ek _ _ _ _ _ _ _ _ _ _ _ _ _)) ?_
   refine ai (bN 5 1 none _) ?_
   refine aL hE Tryz.func62 rfl _ rfl ⟨_,rfl,rfl⟩ (al.fin [0,1] 0 zr zr)
  | some fl =>
   have hs:A.read name at_ n=if at_<0∨n<0∨((A.now fl).length:Int)<at_∨((A.now fl).length:Int)-at_<n then([],1)else(((A.now fl).drop at_.toNat).take n.toNat,0):=by simp[Ab.read,Ab.look,hl,← jV]
   obtain⟨i,v1,v2,hi,nr,mf,rW⟩:=hR.file (f:=fl) (hR.known _ (List.mem_cons_self ..) _ (qf hl))
   obtain⟨a,cap,rfl,jz⟩:=mf.shape
   have Ae:=(hR.small fl).1
   have lL:∀(h:at_<0∨n<0∨((A.now fl).length:Int)<at_∨((A.now fl).length:Int)-at_<n),A.read name at_ n=([],1):=fun h=>by rw[hs,if_pos h]
   repeat'(first|(with_reducible intro pM)|refine gy ?_|refine ie zr zr zr zr ?_ ?_|refine aq zr zr ?_ ?_|refine xz (U:=aQ) zr zr (fun w hw=>tY (i:=3) hw rfl hi) zr zr ?_)
   any_goals (
    have uH:=lL ag
    rw[uH]at hE
    refine ai ((al.pick [0,1,2,3,4,5] rfl).trans (ek _ _ _ _ _ _ _ _ _ _ _ _ _)) ?_
    refine ai (bN 5 1 none _) ?_
    refine aL hE Tryz.func62 rfl _ rfl ⟨_,rfl,rfl⟩ (al.fin [0,1] 0 zr zr))
   refine bh zr zr zr zr zr zr zr ag ag (.inr ag) ?_
   have hr:A.read name at_ n=(((A.now fl).drop at_.toNat).take n.toNat,0):=by rw[hs,if_neg ag]
   have lK:=mf.cut at_.toNat n.toNat ag
   have hlen:(((A.now fl).drop at_.toNat).take n.toNat).length=n.toNat:=by rw[List.length_take,List.length_drop];omega
   refine au 61 (.slice (sliceAt a cap at_.toNat 1) (((A.now fl).drop at_.toNat).take n.toNat).length (cap-at_.toNat)) rfl (by rw[hlen];congr 1;omega) ?_
   have Tt:kK ec (.slice (sliceAt a cap at_.toNat 1) (((A.now fl).drop at_.toNat).take n.toNat).length (cap-at_.toNat)) (((A.now fl).drop at_.toNat).take n.toNat):=by rw[hlen];exact lK
   rw[hr]at hE
   clear lK hr hs lL
   generalize O5:((A.now fl).drop at_.toNat).take n.toNat=bs at hE Tt hlen ⊢
   refine go ?_
   refine cF [2] zr zr zr zr (lk _ _ bs (Tt.view _) ag) rfl mM ?_
   rintro r _ rfl
   refine go ?_
   refine ai (al.pick [2,3,1,4,5,6] rfl) ?_
   refine ai (ek bd room bm kM oH nK false maps ec files gF wl _) ?_
   refine aL hE Tryz.func62 rfl _ rfl ⟨r,rfl,rfl⟩ (al.fin [1,0] 0 zr zr)
def fZ(name:ByteArray)(at_:Int)(b:List UInt8):Bool:=isName name && decide (0≤at_) && decide (at_≤1048576) && decide ((b.length:Int)≤1048576-at_)
def y9(A:Ab)(name:ByteArray):A.find name false=(1,none,A):=by simp[Ab.find,Ab.meet]
def Aw(A:Ab)(name:ByteArray)(at_:Nat)(b:List UInt8):A.write false name at_ b=(1,A):=by simp[Ab.write,y9]
def QL{fs:List (Nat × List UInt8 × List UInt8)}(hn:(fs.map (·.1)).Nodup)(hi:fs[i]?=some (f,x))(n:List UInt8):Ab.BP fs f n=fs.set i (f,n,x.2):=by
 induction fs generalizing i with
 | nil=>simp at hi
 | cons y l ih =>
  simp only[List.map_cons,List.nodup_cons]at hn
  cases i with
  | zero =>
   simp at hi
   subst hi
   simp only[Ab.BP,List.map_cons,if_true,List.set_cons_zero,List.cons.injEq,true_and]
   rw[List.map_congr_left (g:=id) (fun z hz=>?_),List.map_id]
   have:z.1≠f:=fun e=>hn.1 (List.mem_map.2 ⟨z,hz,e⟩)
   simp[this]
  | succ i =>
   simp at hi
   have bY:y.1≠f:=fun e=>hn.1 (List.mem_map.2 ⟨_,List.mem_of_getElem? hi,e.symm⟩)
   have:=ih hn.2 hi
   simp only[Ab.BP]at this
   simp only[Ab.BP,List.map_cons,bY,if_false,List.set_cons_succ,this]
def tn(fs:List (Nat × List UInt8 × List UInt8))(f:Nat)(n:List UInt8):(Ab.BP fs f n).map (·.1)=fs.map (·.1):=by
 simp only[Ab.BP,List.map_map]
 apply List.map_congr_left
 intro x _
 simp only[Function.comp]
 split <;> rfl
def Rel.wrote(h:Rel D A){at_:Nat}{v3 v4:Value}(hi:D.files[i]?=some (f,v1,v2))(ha:A.fs[i]?=some (f,A.now f,A.sure f))(eF:∀x∈D.ec,x∈arrs')(hn:kK arrs' v3 n)(hb:kK arrs' v4 b)(EJ:n.length≤1048576)(iC:at_+b.length≤1048576) :
  Rel { D with files:=D.files.set i (f,v3,v2),ec:=arrs',oH:=w,wl:=D.wl++[(f,at_,v4)] } { A with fs:=Ab.BP A.fs f n,writes:=A.writes++[(f,at_,b)] } where
 room:=h.room
 off:=h.off
 names:=h.names
 aw:=h.aw
 fs:=by
  rw[QL h.ids ha]
  have h2:=h.fs.2 i _ _ hi ha
  exact eZ.set (h.fs.mono fun x y Ac=>⟨Ac.1,Ac.2.1.mono eF,Ac.2.2.mono eF⟩) i ⟨rfl,hn,h2.2.2.mono eF⟩
 writes:=eZ.snoc (h.writes.mono fun x y Ac=>⟨Ac.1,Ac.2.1,Ac.2.2.mono eF⟩) ⟨rfl,rfl,hb⟩
 er:=h.er.mono eF
 ids:=by simp only[tn];exact h.ids
 known:=by simp only[tn];exact h.known
 gW:=by
  simp only[tn]
  intro x hx
  rcases List.mem_append.1 hx with hx|hx
  ·exact h.gW x hx
  ·simp only[List.mem_singleton]at hx;subst hx;exact List.mem_map.2 ⟨_,List.mem_of_getElem? ha,rfl⟩
 nodup:=h.nodup
 gG:=by
  intro x hx
  simp only[Ab.BP,List.mem_map]at hx
  obtain⟨y,hy,rfl⟩:=hx
  have:=h.gG y hy
  split
  ·exact⟨EJ,this.2⟩
  ·exact this
 im:=by
  intro x hx
  rcases List.mem_append.1 hx with hx|hx
  ·exact h.im x hx
  ·simp only[List.mem_singleton]at hx;subst hx;exact iC
 fE:=h.fE
 iq:=h.iq
 kr:=h.kr
 full:=h.full
def eW(old:List UInt8)(at_:Nat)(b:List UInt8):(bK old at_ b).length=max old.length (at_+b.length):=by
 unfold bK;simp;omega
def n6(A:Ab)(name:ByteArray)(ok:Bool):(A.find name ok).2.2.fs=A.fs∧(A.find name ok).2.2.names=A.names∧(A.find name ok).2.2.aw=A.aw∧(A.find name ok).2.2.writes=A.writes∧(A.find name ok).2.2.room=A.room:=by
 have:=I0 A ok
 unfold Ab.find
 split
 ·cases (A.meet ok).2.look name <;> exact this
 ·exact this
def Rel.wR(h:Rel D A):A.used≤209715200:=by
 rw[← xR (h.nodup _ (List.mem_cons_self ..))]
 have:=DC (fun f=>(h.small f).1) (A.names.map (·.1))
 have h2:=h.fE _ (List.mem_cons_self ..)
 rw[List.length_map]at this
 omega
def LN(e:TypeId)(v:Value)(bs:List UInt8)(M:fU):∀h,star (aB e 1 v bs.length (bV bs)) (aZ e M) h→∃M',(kK M' v bs∧∀x∈M,x∈M')∧Sep [aZ e M'] h:=fun h hs=>by
 obtain⟨M',h1,h2,h3⟩:=PC e v bs M h hs
 exact⟨M',⟨h1,h2⟩,gm h3⟩
def mu{name:ByteArray}{ok:Bool}(h:(A.find name ok).1=0):ok=true∧∃fl,(A.find name ok).2.1=some fl∧(name,fl)∈(A.find name ok).2.2.names:=by
 unfold Ab.find at h ⊢
 split
 ·rename_i h0
  rw[if_pos h0]at h
  cases hl:(A.meet ok).2.look name with
  | none=>rw[hl]at h;cases h
  | some f =>
   refine⟨?_,f,rfl,qf hl⟩
   cases ok with
   | true=>rfl
   | false=>simp[Ab.meet]at h0
 ·rename_i h0
  rw[if_neg h0]at h
  exact absurd h h0
def LV(bd:Nat)(D:Dk)(A:Ab)(hR:Rel D A)(name:ByteArray)(at_:Int)(X:HP)(bv:Value)(b:List UInt8)(hv:Vw X bv b.length (bV b))(fb:A.writes.length≤1000000000)(iC:b.length≤1000000000)(QE : -9223372036854775808≤at_∧at_≤9223372036854775807) :
  aE Tryz.prog 102 [ptr bd,.string name,.int .i64 at_,bv] [hJ bd D,X]
   (fun v H=>∃D',Rel D' (A.write (fZ name at_ b) name at_.toNat b).2∧H=[hJ bd D',X]∧v = .int .i64 (A.write (fZ name at_ b) name at_.toNat b).1):=by
 obtain⟨a0,c0,rfl⟩:=hv.shape
 refine aE.ao Tryz.func102 Tryz.ntmps102 fun G F R hE=>?_
 refine go ?_
 refine aj zr zr zr zr zr zr zr zr zr bD ?_
 intro b0
 refine go ?_
 refine cF [0] zr zr zr zr (jE _ _ [name] (Vw.ae rfl) (by simp)) rfl mM ?_
 rintro _ _⟨rfl,rfl⟩
 have e1:[name].all isName=isName name:=by simp
 rw[e1]
 cases lD:isName name with
 | false =>
  have hm:fZ name at_ b=false:=by simp[fZ,lD]
  rw[hm,Aw]at hE
  refine go ?_
  refine cF [1] zr zr zr zr (jX bd D A hR name false) rfl mM ?_
  rw[y9]
  rintro _ _⟨D',gx,rfl,rfl⟩
  refine go ?_
  refine aL hE Tryz.func102 rfl _ rfl ⟨D',gx,rfl,rfl⟩ (al.fin [0,2] 1 zr zr)
 | true =>
  repeat'(first|(with_reducible intro pM)|refine gy ?_|refine ie zr zr zr zr ?_ ?_|fail)
  any_goals (
   have hm:fZ name at_ b=false:=by simp[fZ,lD, *]
   rw[hm,Aw]at hE
   refine cF [1] zr zr zr zr (jX bd D A hR name false) rfl mM ?_
   rw[y9]
   rintro _ _⟨D',gx,rfl,rfl⟩
   refine go ?_
   refine aL hE Tryz.func102 rfl _ rfl ⟨D',gx,rfl,rfl⟩ (al.fin [0,2] 1 zr zr))
  rename_i h2
  obtain⟨at_,rfl⟩:=Int.eq_ofNat_of_zero_le h2
  simp only[Int.toNat_natCast]at hE
  have hm:fZ name at_ b=decide ((b.length:Int)≤1048576-at_):=by simp[fZ,lD, *]
  refine au 31 (.bool (fZ name at_ b)) rfl (congrArg Value.bool hm.symm) ?_
  refine cF [1] zr zr zr zr (jX bd D A hR name (fZ name at_ b)) rfl mM ?_
  generalize kC:fZ name at_ b=ok at hE hm ⊢
  rintro _ _⟨D',gx,rfl,rfl⟩
  refine go ?_
  refine fR zr zr ?_ ?_
  ·intro h0
   have nZ:¬(A.find name ok).1=0:=by have:=of_decide_eq_true h0;omega
   have hw:A.write ok name at_ b=((A.find name ok).1,(A.find name ok).2.2):=by simp[Ab.write,nZ]
   rw[hw]at hE
   refine go ?_
   refine aL hE Tryz.func102 rfl _ rfl ⟨D',gx,rfl,rfl⟩ (al.fin [0,2] 1 zr zr)
  ·intro h0
   have nZ:(A.find name ok).1=0:=by have:=of_decide_eq_false h0;omega
   obtain⟨XD,fl,nW,fz⟩:=mu nZ
   rw[XD]at hm
   have hlen:=of_decide_eq_true hm.symm
   have hw:A.write ok name at_ b=if(A.find name ok).2.2.room<(A.find name ok).2.2.used+(at_+b.length-((A.find name ok).2.2.now fl).length)then(3,(A.find name ok).2.2)
    else(0,{ (A.find name ok).2.2 with fs:=Ab.BP (A.find name ok).2.2.fs fl (bK ((A.find name ok).2.2.now fl) at_ b),writes:=(A.find name ok).2.2.writes++[(fl,at_,b)] }):=by simp[Ab.write,nZ,nW]
   rw[nW]
   have acT:(A.find name ok).2.2.writes.length≤1000000000:=by rw[(n6 A name ok).2.2.2.1];exact fb
   generalize (A.find name ok).2.2=A1 at *
   obtain⟨room,bm,kM,oH,nK,off,maps,ec,files,gF,wl⟩:=D'
   obtain⟨i,v1,v2,hi,nr,mf,rW⟩:=gx.file (f:=fl) (gx.known _ (List.mem_cons_self ..) _ fz)
   obtain⟨a,cap,rfl,jz⟩:=mf.shape
   have Ae:=(gx.small fl).1
   have qk:=gx.room
   have Qv:=gx.iq
   simp only at qk
   refine ai (iY _ _ _ _ _ _ _ _ _ _ _ _ _) ?_
   refine aF (fun w=>Sat G w ([ae bd (cl [.int .i64 room,.map (some bm),kM,oH,nK,.bool off] 76),aS e9 files])) (.st 0 (cZ 2 11 (cZ 14 4 (.act 1 (.st 13 (.st 18 .nil)))))) rfl ak ak ak (fun w hw=>hw.cV (al.bE ([0,3]) rfl)) ?_
   refine go ?_
   refine lU zr zr (fun w hw=>tY (i:=1) hw rfl hi) zr zr ?_
   refine go ?_
   refine aI ((al.pick [0,1,2,3,4,5] rfl).trans (ek _ _ _ _ _ _ _ _ _ _ _ _ _)) ?_
   have hul:=gx.wR
   refine cF [0] rfl rfl rfl rfl (PH bd _ A1 gx) rfl (fun _ _ w hp hw=>by obtain⟨rfl,_⟩:=hp;exact hw.cV ((iY _ _ _ _ _ _ _ _ _ _ _ _ _).trans (al.bE [0,3] rfl))) ?_
   rintro _ _⟨rfl,rfl⟩
   refine go ?_
   refine aq zr zr ?_ ?_
   ·intro EP
    rw[if_pos ag]at hw
    rw[hw]at hE
    refine go ?_
    refine aL hE Tryz.func102 rfl _ rfl ⟨_,gx,rfl,rfl⟩ (al.fin [0,2] 1 zr zr)
   ·intro EP
    rw[if_neg ag]at hw
    rw[hw]at hE
    refine go ?_
    refine aI (iY _ _ _ _ _ _ _ _ _ _ _ _ _) (go ?_)
    refine aI (al.pick [3] rfl) ?_
    refine aI (ig e9 hi _) (go ?_)
    refine aI (al.pick [4,8] rfl) ?_
    refine aI (al.join _ _ _) ?_
    refine cF [0] zr zr zr zr (uL (star (aZ 5 ec) X) _ _ (A1.now fl) b at_ (mf.view _).left hv.right ag) rfl mM ?_
    rintro _ _⟨bl,ny,rfl,EZ,rfl⟩
    refine aI (al.pick [1] rfl) ?_
    refine aI (al.part _ _ _) ?_
    refine aI (al.pick [2,0] rfl) ?_
    refine aI (zw 5 bl _ ec _) (go ?_)
    refine ai (al.pick [2,3] rfl) ?_
    refine ai (nF e9 (y:=(fl,.slice (some ⟨bl,0,none⟩) (bK (A1.now fl) at_ b).length ny,v2)) hi _) ?_
    refine aF (fun w=>Sat G w ([ae bd (cl [.int .i64 room,.map (some bm),kM,oH,nK,.bool off] 76)])) (cZ 0 8 (.act 8 (.st 9 (.act 10 (.act 11 (.st 12 (.st 13 (.act 14 .nil)))))))) rfl ak ak ak (fun w hw=>hw.cV (al.bE ([3]) rfl)) ?_
    refine go ?_
    refine cF [2] rfl rfl rfl rfl (lk X _ b hv iC) rfl (fun _ _ w hp hw=>by subst hp;exact hw.cV (al.bE [4] rfl)) ?_
    rintro r _ rfl
    refine aO 0 rfl ?_
    rintro ar cr rfl
    refine go ?_
    refine aj zr zr zr zr zr zr zr zr zr (fun _ w hw=>hw.cV (al.bE ([5]) rfl)) ?_
    intro b1
    refine aR (mm:=1) (news:=[ptr fl,.int .i64 at_,.slice ar b.length cr]) 8 0 zr zr zr zr zr zr zr zr zr zr zr zr (Vw.ae rfl) rfl (by simp[Value.oneCell',ptr]) (by have:=gx.writes.1;simp only at this;omega) (by have:=gx.writes.1;simp only at this;show _*40≤_;omega) (fun _=>rfl) (fun _ w hw=>hw.cV (al.bE ([5]) rfl)) ?_
    intro v'
    have e2:ff wl++[ptr fl,.int .i64 at_,.slice ar b.length cr]=ff (wl++[(fl,at_,.slice ar b.length cr)]):=by simp[ff]
    have e3:wl.length+1=(wl++[(fl,at_,Value.slice ar b.length cr)]).length:=by simp
    rw[e2,e3]
    refine aO 8 rfl ?_
    rintro av cv rfl
    refine go ?_
    refine aT ?_;refine cq 5 gB zr zr zr zr zr zr zr zr zr ?_
    refine go ?_
    refine ai (al.pick [1,4] rfl) ?_
    refine ai (al.join _ _ _) ?_
    refine eG (LN 5 _ b _) ?_
    rintro arrs'⟨Lo,eF⟩
    have Pb:=gx.wrote (w := .slice av (wl++[(fl,at_,Value.slice ar b.length cr)]).length cv) hi nr (fun x hx=>eF x (List.mem_cons_of_mem _ hx)) ((kK.row (cap:=ny) EZ).mono eF) Lo (by rw[eW];omega) (by omega:at_+b.length≤1048576)
    refine ai (al.pick [4,5,0,3,6,7] rfl) ?_
    refine ai (ek bd room bm kM _ nK off maps arrs' _ gF _ _) ?_
    refine aL hE Tryz.func102 rfl _ rfl ⟨_,Pb,rfl,rfl⟩ (al.fin [0,2] 2 zr zr)
def Fg{l:List (ByteArray × Nat)}{x:ByteArray × Nat}(h:x∈Ab.dI l k):x∈l∧x.1≠k:=by
 simpa[Ab.dI]using h
def Pk(l:List (ByteArray × Nat))(k:ByteArray):(Ab.dI l k).length≤l.length:=List.length_filter_le _ _
def zg{l:List (ByteArray × Nat)}(h:(l.map (·.1)).Nodup)(k:ByteArray):((Ab.dI l k).map (·.1)).Nodup:=(List.filter_sublist.map _).nodup h
def Sf{l:List (ByteArray × Nat)}(h:(k,f)∈l):(Ab.dI l k).length+1≤l.length:=by
 have:(Ab.dI l k).length<l.length:=by
  unfold Ab.dI
  rw[List.length_filter_lt_length_iff_exists]
  exact⟨_,h,by simp⟩
 omega
def Ni(l:List (ByteArray × Nat))(k:ByteArray)(f:Nat):(Ab.jQ l k f).length≤l.length+1:=by
 unfold Ab.jQ
 split <;> simp
def Nh{l:List (ByteArray × Nat)}{x:ByteArray × Nat}(h:x∈Ab.jQ l k f):x=(k,f)∨x∈l:=by
 unfold Ab.jQ at h
 split at h
 ·obtain⟨y,hy,rfl⟩:=List.mem_map.1 h
  split
  ·exact .inl rfl
  ·exact .inr hy
 ·rcases List.mem_append.1 h with h|h
  ·exact .inr h
  ·exact .inl (by simpa using h)
def Gy{l:List (ByteArray × Nat)}(h:(l.map (·.1)).Nodup)(k:ByteArray)(f:Nat):((Ab.jQ l k f).map (·.1)).Nodup:=by
 unfold Ab.jQ
 split
 ·have:(l.map fun x=>if x.1=k then(k,f)else x).map (·.1)=l.map (·.1):=by
   rw[List.map_map]
   apply List.map_congr_left
   intro x _
   simp only[Function.comp]
   split
   ·rename_i e;exact e.symm
   ·rfl
  rw[this];exact h
 ·rename_i hk
  rw[List.map_append,List.nodup_append]
  exact⟨h,by simp,fun a ha b hb=>by simp at hb;subst hb;rintro rfl;exact hk (oW.2 ha)⟩
def Ig(bd:Nat)(D:Dk)(A:Ab)(hR:Rel D A)(name:ByteArray)(cK:A.aw.length≤1000000000) :
  aE Tryz.prog 114 [ptr bd,.string name] [hJ bd D]
   (fun v H=>∃D',Rel D' (A.remove (isName name) name).2∧H=[hJ bd D']∧v = .int .i64 (A.remove (isName name) name).1):=by
 refine aE.ao Tryz.func114 Tryz.ntmps114 fun G F R hE=>?_
 refine go ?_
 refine bG zr zr bD ?_
 intro box
 refine go ?_
 refine aF (fun w=>Sat G w ([ae box (cl [.string name] 9)])) (cZ 0 3 (.act 3 (.act 4 (.act 5 (cZ 6 5 .nil))))) rfl ak ak ak (fun w hw=>hw.cV (al.bE ([0]) rfl)) ?_
 refine go ?_
 refine aj zr zr zr zr zr zr zr zr zr (fun _ w hw=>hw.cV (al.bE ([1]) rfl)) ?_
 intro b0
 refine cF [0] rfl rfl rfl rfl (jE _ _ [name] (Vw.ae rfl) (by simp)) rfl (fun _ _ w hp hw=>by obtain⟨_,rfl⟩:=hp;exact hw.cV (al.bE [1] rfl)) ?_
 rintro _ _⟨rfl,rfl⟩
 have e1:[name].all isName=isName name:=by simp
 rw[e1]
 refine cF [2] rfl rfl rfl rfl (jX bd D A hR name (isName name)) rfl (fun _ _ w hp hw=>by obtain⟨_,_,rfl,_⟩:=hp;exact hw.cV (al.bE [2] rfl)) ?_
 generalize kC:isName name=ok at hE ⊢
 rintro _ _⟨D',gx,rfl,rfl⟩
 refine go ?_
 refine fR zr zr ?_ ?_
 ·intro h0
  have nZ:¬(A.find name ok).1=0:=by have:=of_decide_eq_true h0;omega
  have hw:A.remove ok name=((A.find name ok).1,(A.find name ok).2.2):=by
   unfold Ab.remove
   generalize A.find name ok=z at nZ ⊢
   obtain⟨e,fo,A1⟩:=z
   cases fo with
   | none=>cases e <;> rfl
   | some fl=>cases e with
    | zero=>exact absurd rfl nZ
    | succ e=>rfl
  rw[hw]at hE
  refine go ?_
  refine aL hE Tryz.func114 rfl _ rfl ⟨D',gx,rfl,rfl⟩ (al.fin [0] 2 zr zr)
 ·intro h0
  have nZ:(A.find name ok).1=0:=by have:=of_decide_eq_false h0;omega
  obtain⟨XD,fl,nW,fz⟩:=mu nZ
  have hw:A.remove ok name=(0,(A.find name ok).2.2.ng (Ab.dI (A.find name ok).2.2.names name)):=by
   unfold Ab.remove
   generalize A.find name ok=z at nZ nW ⊢
   obtain⟨e,fo,A1⟩:=z
   simp only at nZ nW
   subst nZ nW
   rfl
  have OA:(A.find name ok).2.2.aw.length≤1000000000:=by rw[(n6 A name ok).2.2.1];exact cK
  rw[hw]at hE
  generalize (A.find name ok).2.2=A1 at *
  have Oz:D'.gF.length≤1000000000:=by rw[gx.aw.1];exact OA
  refine go ?_
  refine cF [0,2] zr zr zr zr (my (α:=Unit) bd D' A1.names gx.names 176 #[ptr box] (ae box (cl [.string name] 9)) (fun _=>Ab.dI A1.names name) (fun _=>ae box (cl [.string name] 9)) (fun _=>True) (fun b'=>aE.post (FB b' box A1.names name) (fun v H h=>⟨(),trivial,h⟩)) Oz) rfl mM ?_
  rintro _ _⟨_,b',v,_,rfl⟩
  have Pb:=gx.ng (b':=b') (v:=v) (nm:=Ab.dI A1.names name) (fun x hx=>gx.known _ (List.mem_cons_self ..) x (Fg hx).1) (zg (gx.nodup _ (List.mem_cons_self ..)) name) (Nat.le_trans (Pk _ _) (gx.fE _ (List.mem_cons_self ..)))
  refine go ?_
  refine aL hE Tryz.func114 rfl _ rfl ⟨_,Pb,rfl,rfl⟩ (al.fin [0] 2 zr zr)
abbrev FG:=Nat × Nat × Value
def yv(x:FG):List Value:=[ptr x.1,.int .i64 x.2.1,x.2.2]
def gE(l:List FG):ff l=l.flatMap yv:=rfl
def eE(x:FG):(yv x).length=3:=rfl
def zQ(A X:HP)(v:Value)(l:List FG)(hv:Vw A v l.length (ff l))(hlen:l.length≤1000000000)(g:FuncId)(cap:List Value)(p:FG→Bool)(hf:∀x∈l,aE Tryz.prog g (.agg #[ptr x.1,.int .i64 x.2.1,x.2.2]::cap) [X] (fun v H=>v = .bool (p x)∧H=[X])) :
  aE Tryz.prog 206 [v,.func (.func g) #[] cap.toArray] [A,X] (fun r H=>r = .int .i64 (kA p l)∧H=[A,X]):=by
 obtain⟨a,c0,rfl⟩:=hv.shape
 refine aE.enter Tryz.func206 ak rfl Tryz.ntmps206 zr zr ?_
 intro G F R hR
 refine go ?_
 refine bB (fun i:Nat=>i≤l.length∧∀y∈l.take i,p y=false) (fun i=>l.length-i) (fun i=>[(0,.slice a l.length c0),(1,.func (.func g) #[] cap.toArray),(7,.int .i64 l.length),(8,.int .i64 i)]) (fun _=>[A,X]++F) 0 ⟨by simp,by simp⟩ rfl cg (al.refl _) ?_
 rintro i⟨hi,hb⟩ ih
 refine go ?_
 refine aq zr zr ?_ ?_
 ·intro de
  refine go ?_
  have gl:i<l.length:=by omega
  have hx:l[i]?=some l[i]:=by simp[gl]
  generalize hxx:l[i]=x at hx
  obtain⟨b,o,gM,gk⟩:=hv.some (by rw[← List.length_pos_iff,gE,cI eE];omega)
  simp only[Value.slice.injEq]at gk
  obtain⟨rfl,_,rfl⟩:=gk
  refine cL i 3 zr zr zr zr zr zr zr zr gl ?_
  refine dm (U:=aQ) (es:=yv x) 0 (i*3) zr zr zr hv rfl (fun j v hj=>?_) zr zr zr ?_
  ·have xe:j<3:=by
    rcases Nat.lt_or_ge j 3 with h|h
    ·exact h
    ·rw[List.getElem?_eq_none (by rw[eE];exact h)]at hj;cases hj
   rw[gE,cR eE hx j xe];exact hj
  refine cF [1] zr zr zr zr (hf x (List.mem_of_getElem? hx)) rfl mM ?_
  rintro _ _⟨rfl,rfl⟩
  refine go ?_
  refine fR zr zr ?_ ?_
  ·intro hp
   refine go ?_
   refine aL hR Tryz.func206 rfl _ rfl ⟨by rw[nT hx hp hb];rfl,rfl⟩ (al.fin [1,0] 0 zr zr)
  ·intro hp
   refine go ?_
   refine aM ih (i+1) rfl ⟨ag,uh hb hx hp⟩ ag cg (al.pick [1,0] rfl)
 ·intro fA
  refine go ?_
  have:i=l.length:=by omega
  subst this
  refine aL hR Tryz.func206 rfl _ rfl ⟨by rw[re (fun x hx=>hb x (by simpa using hx))];rfl,rfl⟩ (al.fin [0,1] 0 zr zr)
def LY(c5 f g at_:Nat)(bv:Value)(files:List (Nat × Value × Value))(hf:f∈files.map (·.1))(hg:g∈files.map (·.1))(gw:bv.oneCell'=true) :
  aE Tryz.prog 168 [.agg #[ptr g,.int .i64 at_,bv],ptr c5] [star (ae c5 (cl [ptr f] 107)) (aS e9 files)] (fun v H=>v = .bool (decide (g=f))∧H=[star (ae c5 (cl [ptr f] 107)) (aS e9 files)]):=by
 have row:∀ {G:cJ} {w:World} {H:List HP} {i y:Nat},Sat G w H→cE H i=some (aS e9 files)→y∈files.map (·.1)→Row w y:=by
  intro G w H i y hs hi hy
  obtain⟨⟨y',v1,v2⟩,hm,rfl⟩:=List.mem_map.1 hy
  obtain⟨j,hj⟩:=List.getElem?_of_mem hm
  exact⟨_,_,zb hs hi hj⟩
 refine aE.ao Tryz.func168 Tryz.ntmps168 fun G F R hE=>?_
 refine ai (al.part _ _ _) (go ?_)
 refine bG zr zr bD ?_
 intro bx
 refine go ?_
 refine SD (U:=aQ) zr zr zr zr zr zr zr (fun w hw=>row (i:=2) hw rfl hg) (fun w hw=>row (i:=2) hw rfl hf) ?_
 refine go ?_
 refine ai (al.pick [1,2] rfl) ?_
 refine ai (al.join _ _ _) ?_
 refine aL hE Tryz.func168 rfl _ rfl ⟨congrArg Value.bool (by simp),rfl⟩ (al.fin [0] 1 zr zr)
def wP(v:Value)(l:List FG)(X:HP)(g:FuncId)(cap:List Value)(p:FG→Bool)(hlen:l.length≤1000000000)(gk:∀x∈l,∃a n c,x.2.2 = .slice a n c)(hf:∀x∈l,aE Tryz.prog g (.agg #[ptr x.1,.int .i64 x.2.1,x.2.2]::cap) [X] (fun v H=>v = .bool (p x)∧H=[X])) :
  aE Tryz.prog 167 [v,.func (.func g) #[] cap.toArray] [aB 109 3 v l.length (ff l),X]
   (fun r H=>H=[aB 109 3 r (l.filter fun x => !p x).length (ff (l.filter fun x => !p x)),X]):=by
 refine aE.ao Tryz.func167 Tryz.ntmps167 fun G F R hE=>?_
 refine dz 0 rfl ?_
 rintro a0 c rfl
 refine go ?_
 refine iy 0 rfl ?_
 intro hv
 refine cF [0,1] zr zr zr zr (zQ _ X _ l hv hlen g cap p hf) rfl mM ?_
 rintro _ _⟨rfl,rfl⟩
 refine go ?_
 refine aq zr zr ?_ ?_
 ·intro h0
  have ml:l.any p=false:=nU.1 ag
  have nW:(l.filter fun x => !p x)=l:=List.filter_eq_self.2 fun x hx=>by
   have:=List.any_eq_false.1 ml x hx
   simpa using this
  rw[nW]at hE
  refine go ?_
  refine aL hE Tryz.func167 rfl _ zr zr (al.fin [0,1] 0 zr zr)
 ·intro h0
  obtain⟨i0,x0,Li,Xi,zX,rj⟩:=yE h0
  have adN:i0<l.length:=by
   rcases Nat.lt_or_ge i0 l.length with h|h
   ·exact h
   ·rw[List.getElem?_eq_none h]at Xi;cases Xi
  rw[Li]
  refine go ?_
  refine sW (fun a lJ hn _=>by omega) ?_
  rintro b o c' pre bT o4 mQ hnc jz lA
  simp only[Value.slice.injEq,true_and]at o4
  obtain⟨rfl,rfl⟩:=o4
  have h1:l.take (i0+1)=l.take i0++[x0]:=by rw[List.take_add_one,Xi];rfl
  have Hu:(l.take i0).filter (fun x => !p x)=l.take i0:=List.filter_eq_self.2 fun x hx=>by simp[rj x hx]
  refine bB (fun s:Nat × Nat × List FG=>s.1<s.2.1∧s.2.1≤l.length∧s.2.2.length=l.length∧s.2.2.take s.1=(l.take s.2.1).filter (fun x => !p x)∧s.2.2.drop s.2.1=l.drop s.2.1) (fun s=>l.length-s.2.1)
   (fun s=>[(0,.slice (some ⟨b,o,none⟩) l.length c),(1,.func (.func g) #[] cap.toArray),(5,.int .i64 s.1),(6,.int .i64 s.2.1)])
   (fun s=>ae b (cl (pre++ff s.2.2++bT) 109)::X::F) (i0,i0+1,l) ⟨by simp,by simp only;omega,rfl,by simp only[h1,List.filter_append,Hu];simp[zX],rfl⟩ rfl cg (al.refl _) ?_
  rintro⟨i,j,E⟩⟨Bg,wK,QF,E5,R0⟩ ih
  simp only at Bg wK QF E5 R0
  have fb:(ff E).length=l.length*3:=by rw[gE,cI eE,QF]
  have hvE:Vw (ae b (cl (pre++ff E++bT) 109)) (.slice (some ⟨b,o,none⟩) l.length c) l.length (ff E):=Vw.ae (by rw[List.append_assoc,← mQ,List.drop_left,List.take_left])
  refine go ?_
  refine aq zr zr ?_ ?_
  ·intro de
   simp only at de
   have rf:j<l.length:=by omega
   obtain⟨⟨fx,ax,bx⟩,hx⟩:∃x,l[j]?=some x:=⟨l[j],by simp[rf]⟩
   have hEx:E[j]?=some (fx,ax,bx):=by
    have:=congrArg (·[0]?) R0
    simp only[List.getElem?_drop,Nat.add_zero]at this
    rw[this];exact hx
   have fz:=List.mem_of_getElem? hx
   obtain⟨ab,nb,cb,wL⟩:=gk _ fz
   simp only at wL
   subst wL
   have XW:=hf _ fz
   refine go ?_
   refine cL j 3 zr zr zr zr zr zr zr zr rf ?_
   refine dm (U:=aQ) (es:=yv (fx,ax,.slice ab nb cb)) 0 (j*3) zr zr zr hvE rfl (fun q v hq=>?_) zr zr zr ?_
   ·have xe:q<3:=by
     rcases Nat.lt_or_ge q 3 with h|h
     ·exact h
     ·rw[List.getElem?_eq_none (by rw[eE];exact h)]at hq;cases hq
    rw[gE,cR eE hEx q xe];exact hq
   refine az zr zr zr bD ?_
   intro bv
   refine go ?_
   refine dH 0 zr zr zr zr zr zr ?_
   refine cF [2] zr zr zr zr (XW) rfl mM ?_
   rintro _ _⟨rfl,rfl⟩
   refine go ?_
   refine fR zr zr ?_ ?_
   ·intro hp
    have tk:p (fx,ax,.slice ab nb cb)=false:=by simpa using hp
    refine go ?_
    refine dH 1 zr zr zr zr zr zr (go ?_)
    refine cL i 3 zr zr zr zr zr zr zr zr ag ?_
    refine kH (U:=aQ) (l':=pre++ff (E.set i (fx,ax,.slice ab nb cb))++bT) 2 gB zr zr zr zr zr zr zr ?_ ?_ rfl ?_
    ·show o+i*3+3≤_
     rw[List.length_append,List.length_append,fb];omega
    ·show _=List.take (o+i*3) (pre++ff E++bT)++yv (fx,ax,.slice ab nb cb)++List.drop (o+i*3+(yv (fx,ax,.slice ab nb cb)).length) (pre++ff E++bT)
     rw[← mQ,oL _ _ _ _ _ (by rw[eE,fb];omega),gE,vo eE ag]
     rfl
    refine go ?_
    refine aM ih (i+1,j+1,E.set i (fx,ax,.slice ab nb cb)) rfl ⟨by simp only;omega,by simp only;omega,by simp only[List.length_set];exact QF,?_,?_⟩ (by simp only;omega) cg (al.to [2,0] 1 zr zr zr)
    ·simp only
     rw[List.take_add_one,List.take_set_of_le (Nat.le_refl i),E5,List.take_add_one (l:=l),hx,List.getElem?_set_self ag]
     simp[List.filter_append,tk]
    ·simp only
     rw[List.drop_set_of_lt ag,← List.drop_drop,R0,List.drop_drop]
   ·intro hp
    have tk:p (fx,ax,.slice ab nb cb)=true:=by simpa using hp
    refine go ?_
    refine aM ih (i,j+1,E) rfl ⟨by simp only;omega,by simp only;omega,QF,by simp only;rw[E5,List.take_add_one,hx];simp[List.filter_append,tk],by simp only;rw[← List.drop_drop,R0,List.drop_drop]⟩ (by simp only;omega) cg (al.to [2,0] 1 zr zr zr)
  ·intro fA
   refine go ?_
   simp only at fA
   have Jm:j=l.length:=by omega
   subst Jm
   rw[List.take_length]at E5
   have yK:(l.filter fun x => !p x).length=i:=by rw[← E5,List.length_take];omega
   refine lT zr zr zr zr zr zr zr ag ag (.inl rfl) ?_
   intro o1 ON Y9
   simp only[Int.toNat_natCast]at ON Y9
   have OM:i≠c→o1=o+i*3:=ON
   have hL:(pre++ff E++bT).length=o+l.length*3+bT.length:=by rw[List.length_append,List.length_append,fb,mQ]
   obtain⟨rT,OV,adJ⟩:∃rT,(pre++ff E++bT).take o1++(List.replicate (((l.length:Int).toNat-(i:Int).toNat)) [Value.pointer none,.int .i64 0,.slice none 0 0]).flatten++(pre++ff E++bT).drop (o1+((l.length:Int).toNat-(i:Int).toNat)*3)=pre++ff (E.take i)++rT∧c*3≤i*3+rT.length:=by
    have XT:i≠c:=by omega
    rw[OM XT,← mQ,List.append_assoc pre,List.take_length_add_append,List.take_append_of_le_length (by rw[fb];omega),gE,gE,HV eE E i ag]
    refine⟨_,by rw[List.append_assoc],?_⟩
    rw[List.length_append,List.length_drop,mo]
    simp only[List.length_append,List.length_cons,List.length_nil,cI eE,QF,Int.toNat_natCast]
    have:=lA
    omega
   refine JV (U:=aQ) (l':=pre++ff (E.take i)++rT) 0 gB zr zr zr zr zr zr zr zr ?_ ?_ rfl ?_
   ·have XT:i≠c:=by omega
    show o1+((l.length:Int).toNat-(i:Int).toNat)*3≤_
    rw[OM XT,hL];omega
   ·rw[← OV];rfl
   refine go ?_
   refine lT zr zr zr zr zr zr zr ag ag (.inr ag) ?_
   intro o2 ho3 ho4
   have XE:o2=o:=by
    by_cases sO:(0:Int).toNat=c
    ·exact ho4 sO
    ·have:=ho3 sO;rw[this];simp
   subst XE
   refine go ?_
   refine ai (lZ (sz:=3) (nn:=i) (c:=c) mQ ag (by rw[gE,cI eE,List.length_take];omega) (by rw[gE,cI eE,List.length_take];omega) _) ?_
   rw[← E5,E5,yK,← E5]at hE
   refine aL hE Tryz.func167 rfl _ zr zr (al.fin [0,1] 0 zr zr)
def Ao(bd:Nat)(D:Dk)(A:Ab)(hR:Rel D A) :
    aE Tryz.prog 75 [ptr bd] [hJ bd D] (fun v H=>∃D',Rel D' A.cu.2∧H=[hJ bd D']∧v = .int .i64 A.cu.1):=by
  refine aE.ao Tryz.func75 Tryz.ntmps75 fun G F R hE=>?_
  refine go ?_
  refine cF [0] zr zr zr zr (ys bd D A hR true) rfl mM ?_
  rintro _ _⟨D',gx,rfl,rfl⟩
  refine go ?_
  refine fR zr zr ?_ ?_
  · intro h0
    have nZ:¬(A.meet true).1=0:=by have:=of_decide_eq_true h0;omega
    have hf:A.cu=((A.meet true).1,(A.meet true).2):=by simp[Ab.cu,nZ]
    rw[hf]at hE
    refine go ?_
    refine aL hE Tryz.func75 rfl _ rfl ⟨D',gx,rfl,rfl⟩ (al.fin [0] 0 zr zr)
  · intro h0
    have nZ:(A.meet true).1=0:=by have:=of_decide_eq_false h0;omega
    have hf:A.cu=(0,{ (A.meet true).2 with aw:=[(A.meet true).2.names] }):=by simp[Ab.cu,nZ]
    rw[hf]at hE
    obtain⟨room,bm,kM,oH,nK,off,maps,ec,files,gF,wl⟩:=D'
    refine ai (iY _ _ _ _ _ _ _ _ _ _ _ _ _) (go ?_)
    refine aj zr zr zr zr zr zr zr zr zr bD ?_
    intro b0
    refine go ?_
    refine ai (eJ 72 1 b0 1 1 [.map (some bm)] [] _ rfl (Nat.le_refl _) (by simp)) ?_
    refine ai (al.pick [1,2,3,4,0,6] rfl) ?_
    refine ai (ek bd room bm _ oH nK off maps ec files [bm] wl _) ?_
    have Pb:Rel ⟨room,bm,.slice (some ⟨b0,0,none⟩) 1 1,oH,nK,off,maps,ec,files,[bm],wl⟩ { (A.meet true).2 with aw:=[(A.meet true).2.names] } :=
      { room:=gx.room,off:=gx.off,names:=gx.names,aw:=eZ.one gx.names,fs:=gx.fs,writes:=gx.writes,er:=gx.er,ids:=gx.ids
        known:=fun st cK=>gx.known st (by simp only[List.mem_cons,List.not_mem_nil,or_false]at cK;rcases cK with rfl|rfl <;> exact List.mem_cons_self ..)
        gW:=gx.gW
        nodup:=fun st cK=>gx.nodup st (by simp only[List.mem_cons,List.not_mem_nil,or_false]at cK;rcases cK with rfl|rfl <;> exact List.mem_cons_self ..)
        gG:=gx.gG,im:=gx.im
        fE:=fun st cK=>gx.fE st (by simp only[List.mem_cons,List.not_mem_nil,or_false]at cK;rcases cK with rfl|rfl <;> exact List.mem_cons_self ..)
        iq:=gx.iq,kr:=gx.kr,full:=by simp }
    refine aL hE Tryz.func75 rfl _ rfl ⟨_,Pb,rfl,rfl⟩ (al.fin [0] 1 zr zr)
def eZ.filter{α β:Type}{q:α→β→Prop}{l:List α}{r:List β}(h:eZ q l r){p1:α→Bool}{p2:β→Bool}(hp:∀x y,q x y→p1 x=p2 y):eZ q (l.filter p1) (r.filter p2):=by
 induction l generalizing r with
 | nil =>
  have:r=[]:=List.eq_nil_of_length_eq_zero h.1.symm
  subst this;exact eZ.nil
 | cons x l ih =>
  cases r with
  | nil=>exact absurd h.1 (by simp)
  | cons y r =>
   have h0:=h.2 0 x y zr zr
   have ht:eZ q l r:=⟨by have:=h.1;simpa using this,fun i a b ha hb=>h.2 (i+1) a b (by simpa using ha) (by simpa using hb)⟩
   rw[List.filter_cons,List.filter_cons,hp x y h0]
   split
   ·exact(ih ht).cons h0
   ·exact ih ht
def MW{fs:List (Nat × List UInt8 × List UInt8)}(hn:(fs.map (·.1)).Nodup)(hi:fs[i]?=some (f,x)):Ab.nD fs f=fs.set i (f,x.1,x.1):=by
 induction fs generalizing i with
 | nil=>simp at hi
 | cons y l ih =>
  simp only[List.map_cons,List.nodup_cons]at hn
  cases i with
  | zero =>
   simp at hi
   subst hi
   simp only[Ab.nD,List.map_cons,if_true,List.set_cons_zero,List.cons.injEq,true_and]
   rw[List.map_congr_left (g:=id) (fun z hz=>?_),List.map_id]
   have:z.1≠f:=fun e=>hn.1 (List.mem_map.2 ⟨z,hz,e⟩)
   simp[this]
  | succ i =>
   simp at hi
   have bY:y.1≠f:=fun e=>hn.1 (List.mem_map.2 ⟨_,List.mem_of_getElem? hi,e.symm⟩)
   have:=ih hn.2 hi
   simp only[Ab.nD]at this
   simp only[Ab.nD,List.map_cons,bY,if_false,List.set_cons_succ,this]
def xI(fs:List (Nat × List UInt8 × List UInt8))(f:Nat):(Ab.nD fs f).map (·.1)=fs.map (·.1):=by
 simp only[Ab.nD,List.map_map]
 apply List.map_congr_left
 intro x _
 simp only[Function.comp]
 split <;> rfl
def Rel.synced(h:Rel D A)(hi:D.files[i]?=some (f,v1,v2))(ha:A.fs[i]?=some (f,A.now f,A.sure f)) :
  Rel { D with files:=D.files.set i (f,v1,v1),oH:=w,wl:=D.wl.filter fun x => !decide (x.1=f) } { A with fs:=Ab.nD A.fs f,writes:=A.writes.filter fun x => !decide (x.1=f) } where
 room:=h.room
 off:=h.off
 names:=h.names
 aw:=h.aw
 fs:=by
  rw[MW h.ids ha]
  have h2:=h.fs.2 i _ _ hi ha
  exact eZ.set h.fs i ⟨rfl,h2.2.1,h2.2.1⟩
 writes:=eZ.filter h.writes (fun x y Ac=>by rw[Ac.1])
 er:=h.er
 ids:=by simp only[xI];exact h.ids
 known:=by simp only[xI];exact h.known
 gW:=by
  simp only[xI]
  exact fun x hx=>h.gW x (List.mem_filter.1 hx).1
 nodup:=h.nodup
 gG:=by
  intro x hx
  simp only[Ab.nD,List.mem_map]at hx
  obtain⟨y,hy,rfl⟩:=hx
  have:=h.gG y hy
  split
  ·exact⟨this.1,this.1⟩
  ·exact this
 im:=fun x hx=>h.im x (List.mem_filter.1 hx).1
 fE:=h.fE
 iq:=h.iq
 kr:=h.kr
 full:=h.full
def PK(bd:Nat)(D:Dk)(A:Ab)(hR:Rel D A)(name:ByteArray)(fb:A.writes.length≤1000000000) :
  aE Tryz.prog 104 [ptr bd,.string name] [hJ bd D]
   (fun v H=>∃D',Rel D' (A.sync (isName name) name).2∧H=[hJ bd D']∧v = .int .i64 (A.sync (isName name) name).1):=by
 refine aE.ao Tryz.func104 Tryz.ntmps104 fun G F R hE=>?_
 refine go ?_
 refine aj zr zr zr zr zr zr zr zr zr bD ?_
 intro b0
 refine go ?_
 refine cF [0] zr zr zr zr (jE _ _ [name] (Vw.ae rfl) (by simp)) rfl mM ?_
 rintro _ _⟨rfl,rfl⟩
 have e1:[name].all isName=isName name:=by simp
 rw[e1]
 refine go ?_
 refine cF [1] zr zr zr zr (jX bd D A hR name (isName name)) rfl mM ?_
 generalize kC:isName name=ok at hE ⊢
 rintro _ _⟨D',gx,rfl,rfl⟩
 by_cases nZ:(A.find name ok).1=0
 ·obtain⟨XD,fl,nW,fz⟩:=mu nZ
  have hw:A.sync ok name=(0,{ (A.find name ok).2.2 with fs:=Ab.nD (A.find name ok).2.2.fs fl,writes:=(A.find name ok).2.2.writes.filter fun x => !decide (x.1=fl) }):=by simp[Ab.sync,nZ,nW]
  rw[hw]at hE
  rw[nW,nZ]
  have acT:(A.find name ok).2.2.writes.length≤1000000000:=by rw[(n6 A name ok).2.2.2.1];exact fb
  generalize (A.find name ok).2.2=A1 at *
  obtain⟨room,bm,kM,oH,nK,off,maps,ec,files,gF,wl⟩:=D'
  obtain⟨i,v1,v2,hi,nr,mf,rW⟩:=gx.file (f:=fl) (gx.known _ (List.mem_cons_self ..) _ fz)
  obtain⟨a,cap,rfl,jz⟩:=mf.shape
  refine go ?_
  refine az zr zr zr bD ?_
  intro c5
  refine go ?_
  refine ai (al.pick [1] rfl) ?_
  refine ai (iY _ _ _ _ _ _ _ _ _ _ _ _ _) ?_
  refine ai (al.pick [3] rfl) ?_
  refine ai (ig e9 hi _) ?_
  refine aF (fun w=>Sat G w ([ae c5 (cl [ptr fl] 107),ae fl (cl [.slice a (A1.now fl).length cap,v2] 113)])) (cZ 0 7 (.act 7 .nil)) rfl ak ak ak (fun w hw=>hw.cV (al.bE ([7,0]) rfl)) ?_
  refine go ?_
  refine aI (nF e9 (y:=(fl,.slice a (A1.now fl).length cap,.slice a (A1.now fl).length cap)) hi _) ?_
  refine aI (al.pick [6,0] rfl) ?_
  refine aI (al.join _ _ _) ?_
  have EL:(files.set i (fl,.slice a (A1.now fl).length cap,.slice a (A1.now fl).length cap)).map (·.1)=files.map (·.1):=by
   rw[List.map_set]
   apply List.ext_getElem?
   intro j
   rw[List.getElem?_set]
   split
   ·rename_i Bg
    subst Bg
    simp only[List.getElem?_map,hi,Option.map_some,List.length_map]
    rw[if_pos (by
     rcases Nat.lt_or_ge i files.length with h|h
     ·exact h
     ·rw[List.getElem?_eq_none h]at hi;cases hi)]
   ·rfl
  have hfi:=gx.ab7
  simp only at hfi
  have hwx:∀x∈wl,(∃a n c,x.2.2 = .slice a n c)∧x.1∈files.map (·.1):=fun x hx=>by
   obtain⟨j,hj⟩:=List.getElem?_of_mem hx
   obtain⟨y,hy,h1,_,h3⟩:=gx.writes.left hj
   obtain⟨a,c,h4,_⟩:=h3.shape
   refine⟨⟨_,_,_,h4⟩,?_⟩
   rw[hfi,h1]
   exact gx.gW y (List.mem_of_getElem? hy)
  refine cF [5,0] zr zr zr zr (wP oH wl (star (ae c5 (cl [ptr fl] 107)) (aS e9 (files.set i (fl,.slice a (A1.now fl).length cap,.slice a (A1.now fl).length cap)))) 168 [ptr c5] (fun x=>decide (x.1=fl)) (by have:=gx.writes.1;simp only at this;omega) (fun x hx=>(hwx x hx).1)
   (fun x hx=>LY c5 fl x.1 x.2.1 x.2.2 _ (by rw[EL,hfi];exact List.mem_map.2 ⟨_,List.mem_of_getElem? nr,rfl⟩) (by rw[EL];exact(hwx x hx).2) (by obtain⟨⟨a,n,c,h⟩,_⟩:=hwx x hx;rw[h];rfl))) rfl mM ?_
  rintro r _ rfl
  refine aO 0 rfl ?_
  rintro ar cr rfl
  refine go ?_
  refine ai (al.pick [1] rfl) ?_
  refine ai (al.part _ _ _) ?_
  refine ai (al.pick [3,4,5,1,6,2] rfl) ?_
  refine ai (ek bd room bm kM _ nK off maps ec _ gF _ _) ?_
  refine aL hE Tryz.func104 rfl _ rfl ⟨_,gx.synced hi nr,rfl,rfl⟩ (al.fin [0] 2 zr zr)
 ·have hw:A.sync ok name=((A.find name ok).1,(A.find name ok).2.2):=by simp[Ab.sync,nZ]
  rw[hw]at hE
  cases Di:(A.find name ok).2.1 with
  | none =>
   refine go ?_
   refine az zr zr zr bD ?_
   intro c5
   refine go ?_
   refine fR zr zr ?_ ?_
   ·intro _
    refine go ?_
    refine aL hE Tryz.func104 rfl _ rfl ⟨D',gx,rfl,rfl⟩ (al.fin [1] 2 zr zr)
   ·intro h;exfalso;have:=of_decide_eq_false h;omega
  | some fl =>
   refine go ?_
   refine az zr zr zr bD ?_
   intro c5
   refine go ?_
   refine fR zr zr ?_ ?_
   ·intro _
    refine go ?_
    refine aL hE Tryz.func104 rfl _ rfl ⟨D',gx,rfl,rfl⟩ (al.fin [1] 2 zr zr)
   ·intro h;exfalso;have:=of_decide_eq_false h;omega
abbrev MN:=List (Nat × List UInt8 × List UInt8)
structure j4(Bx ec:fU)(files:List (Nat × Value × Value))(fs:MN)(ids:List Nat):Prop where
 all:eZ (fun x y=>x.1=y.1∧kK ec x.2.1 y.2.1∧kK ec x.2.2 y.2.2) files fs
 sub:∀x∈Bx,x∈ec
 ids:fs.map (·.1)=ids
 small:∀x∈fs,x.2.1.length≤1048576∧x.2.2.length≤1048576
def su(stay:List UInt8)(i:Nat):Bool:=decide (i/8<stay.length∧((stay.getD (i/8) 0).toNat/2 ^ (i%8))%2=1)
def I2(g:Nat × List UInt8 × List UInt8→Nat × List UInt8 × List UInt8){fs:MN}(hn:(fs.map (·.1)).Nodup)(hi:fs[i]?=some (f,x)):(fs.map fun y=>if y.1=f then g y else y)=fs.set i (g (f,x)):=by
 induction fs generalizing i with
 | nil=>simp at hi
 | cons y l ih =>
  simp only[List.map_cons,List.nodup_cons]at hn
  cases i with
  | zero =>
   simp at hi
   subst hi
   simp only[List.map_cons,if_true,List.set_cons_zero,List.cons.injEq,true_and]
   rw[List.map_congr_left (g:=id) (fun z hz=>?_),List.map_id]
   have:z.1≠f:=fun e=>hn.1 (List.mem_map.2 ⟨z,hz,e⟩)
   simp[this]
  | succ i =>
   simp at hi
   have bY:y.1≠f:=fun e=>hn.1 (List.mem_map.2 ⟨_,List.mem_of_getElem? hi,e.symm⟩)
   have:=ih hn.2 hi
   simp only[List.map_cons,bY,if_false,List.set_cons_succ,this]
def j4.get{Bx ec:fU}{fs:MN}{ids:List Nat}(h:j4 Bx ec files fs ids)(hn:ids.Nodup)(hf:f∈ids) :
  ∃(j:Nat) (v1 v2:Value) (n s:List UInt8),files[j]?=some (f,v1,v2)∧fs[j]?=some (f,n,s)∧kK ec v1 n∧kK ec v2 s∧n.length≤1048576∧s.length≤1048576∧(fs.find? fun x=>decide (x.1=f))=some (f,n,s):=by
 rw[← h.ids]at hf hn
 obtain⟨⟨f',n,s⟩,hm,rfl⟩:=List.mem_map.1 hf
 obtain⟨i,hi⟩:=List.getElem?_of_mem hm
 obtain⟨⟨f2,v1,v2⟩,hx,h1,h2,h3⟩:=h.all.right hi
 simp only at h1 h2 h3
 subst h1
 exact⟨i,v1,v2,n,s,hx,hi,h2,h3,(h.small _ hm).1,(h.small _ hm).2,sQ hn hi⟩
def j4.put{Bx ec:fU}{fs:MN}{ids:List Nat}(h:j4 Bx ec files fs ids)(hs:∀x∈ec,x∈arrs'){y:List UInt8 × List UInt8}(hj:fs[j]?=some (f,y))(h1:kK arrs' v1 n)(h2:kK arrs' v2 s)(hl:n.length≤1048576∧s.length≤1048576):j4 Bx arrs' (files.set j (f,v1,v2)) (fs.set j (f,n,s)) ids where
 all:=eZ.set (h.all.mono fun x y Ac=>⟨Ac.1,Ac.2.1.mono hs,Ac.2.2.mono hs⟩) j ⟨rfl,h1,h2⟩
 sub x hx:=hs x (h.sub x hx)
 ids:=by
  rw[← h.ids,List.map_set]
  apply List.ext_getElem?
  intro i
  rw[List.getElem?_set]
  split
  ·rename_i e;subst e;rw[List.getElem?_map,hj]
   have:j<(fs.map (·.1)).length:=by
    rw[List.length_map]
    rcases Nat.lt_or_ge j fs.length with h|h
    ·exact h
    ·rw[List.getElem?_eq_none h]at hj;cases hj
   simp[this]
   rcases Nat.lt_or_ge j fs.length with h|h
   ·exact h
   ·rw[List.getElem?_eq_none h]at hj;cases hj
  ·rfl
 small x hx:=by
  rcases List.mem_or_eq_of_mem_set hx with h'|rfl
  ·exact h.small x h'
  ·exact hl
def drop_cons{α:Type}{l:List α}{x:α}(h:l[i]?=some x):l.drop i=x::l.drop (i+1):=by
 have de:i<l.length:=by
  rcases Nat.lt_or_ge i l.length with h'|h'
  ·exact h'
  ·rw[List.getElem?_eq_none h']at h;cases h
 rw[List.drop_eq_getElem_cons de]
 rw[List.getElem?_eq_getElem de]at h;cases h;rfl
def yw{cut:Int}{ws:List (Nat × Nat × List UInt8)}{fs:MN}{a:Nat}{c:List UInt8}(h:ws[i]?=some (f,a,b))(hn:(fs.map (·.1)).Nodup)(hj:fs[j]?=some (f,n,s))(hk:Ab.kept stay dN cut i b=some c):Ab.jG stay dN cut i (ws.drop i) fs=Ab.jG stay dN cut (i+1) (ws.drop (i+1)) (fs.set j (f,n,bK s a c)):=by
 rw[drop_cons h]
 simp only[Ab.jG,hk]
 rw[sQ hn hj]
 have:=I2 (fun y=>(y.1,y.2.1,bK s a c)) hn hj
 unfold Ab.tp
 simp only[Option.map_some,Option.getD_some]
 rw[this]
def yy{cut:Int}{ws:List (Nat × Nat × List UInt8)}{fs:MN}{a:Nat}(h:ws[i]?=some (f,a,b))(hk:Ab.kept stay dN cut i b=none):Ab.jG stay dN cut i (ws.drop i) fs=Ab.jG stay dN cut (i+1) (ws.drop (i+1)) fs:=by
 rw[drop_cons h]
 simp only[Ab.jG,hk]
def A5{cut:Int}{c:Nat}(hi:(i:Int)=dN)(hc:max 0 (min cut b.length)=(c:Int)):Ab.kept stay dN cut i b=if c=0 then none else some (b.take c):=by
 unfold Ab.kept
 rw[if_pos hi]
 have e:(max 0 (min cut (b.length:Int))).toNat=c:=by omega
 simp only[e]
 have Tv:c≤b.length:=by omega
 by_cases h0:c=0
 ·simp[h0]
 ·have hlen:(b.take c).length=c:=by rw[List.length_take];omega
  have:b.take c≠[]:=fun he=>by rw[he]at hlen;simp at hlen;omega
  rw[if_neg this,if_neg h0]
def KU{cut:Int}(hi:(i:Int)≠dN):Ab.kept stay dN cut i b=if su stay i=true then some b else none:=by
 unfold Ab.kept su
 rw[if_neg hi]
 simp only[decide_eq_true_eq]
def mark(S:List Nat)(fs:MN):MN:=fs.map fun x=>if x.1∈S then(x.1,x.2.2,x.2.2)else x
def N5(fs:MN):mark [] fs=fs:=by simp[mark]
def N7{S S':List Nat}(fs:MN)(h:∀x,x∈S↔x∈S'):mark S fs=mark S' fs:=by
 unfold mark;apply List.map_congr_left;intro x _;simp only[h]
def N6(S:List Nat)(fs:MN):(mark S fs).map (·.1)=fs.map (·.1):=by
 unfold mark;rw[List.map_map];apply List.map_congr_left;intro x _;simp only[Function.comp];split <;> rfl
def N4{S:List Nat}{fs:MN}(hn:(fs.map (·.1)).Nodup)(hj:(mark S fs)[j]?=some (f,n,s)):(mark S fs).set j (f,s,s)=mark (f::S) fs:=by
 have h1:=I2 (fun y=>(y.1,y.2.2,y.2.2)) (by rw[N6];exact hn) hj
 rw[← h1]
 unfold mark
 rw[List.map_map]
 apply List.map_congr_left
 intro x _
 simp only[Function.comp,List.mem_cons]
 by_cases hx:x.1∈S <;> by_cases hf:x.1=f <;> simp only[hx,hf,if_true,if_false,or_true,true_or,or_false,false_or,if_pos,if_neg,not_false_eq_true] <;> simp_all
def Rel.crashed(h:Rel D A){last cut:Int}{q b1 b0:Nat}{nm:List (ByteArray × Nat)}{Pe:List (Nat × Value × Value)}{p:Value}(hw:w = .slice none 0 0)(hp:p = .slice none 0 0)(hq:max 0 (min last ((A.aw.length:Int)-1))=q)(lD:A.aw[q]?=some nm)(hb:(b1,eS nm)∈D.maps)(hF:j4 D.ec arrs' Pe (mark (Ab.reach (A.aw++[nm])) (Ab.jG stay dN cut 0 A.writes A.fs)) (A.fs.map (·.1))) :
    Rel ⟨D.room,b1,.slice (some ⟨b0,0,none⟩) 1 1,w,p,false,D.maps,arrs',Pe,[b1],[]⟩ (A.du last stay dN cut):=by
  subst hw hp
  have cK:nm∈A.aw:=List.mem_of_getElem? lD
  have e:A.du last stay dN cut={ A with names:=nm,aw:=[nm],writes:=[],er:=[],off:=false,fs:=mark (Ab.reach (A.aw++[nm])) (Ab.jG stay dN cut 0 A.writes A.fs) }:=by
    have e1:(max 0 (min last ((A.aw.length:Int)-1))).toNat=q:=by omega
    have e2:A.aw.getD (max 0 (min last ((A.aw.length:Int)-1))).toNat []=nm:=by rw[e1,List.getD_eq_getElem?_getD,lD];rfl
    simp only[Ab.du,e2];rfl
  rw[e]
  have eF:∀st∈nm::[nm],st∈A.names::A.aw:=fun st hs=>by
    simp only[List.mem_cons,List.not_mem_nil,or_false]at hs
    rcases hs with rfl|rfl <;> exact List.mem_cons_of_mem _ cK
  exact
  { room:=h.room,off:=rfl,names:=hb,aw:=eZ.one hb,fs:=hF.all,writes:=eZ.nil,er:=kK.nil _ _ _
    ids:=by simp only;rw[hF.ids];exact h.ids
    known:=fun st hs x hx=>by simp only;rw[hF.ids];exact h.known st (eF st hs) x hx
    gW:=by simp
    nodup:=fun st hs=>h.nodup st (eF st hs)
    gG:=hF.small
    im:=by simp
    fE:=fun st hs=>h.fE st (eF st hs)
    iq:=h.iq,kr:=by simp,full:=by simp }
set_option maxRecDepth 20000 in
def Mp(bd:Nat)(D:Dk)(A:Ab)(hR:Rel D A)(last dN cut:Int)(X:HP)(bv:Value)(stay:List UInt8)(hv:Vw X bv stay.length (bV stay))(gk:stay.length≤9223372036854775807)(cK:A.aw.length≤1000000000)(fb:A.writes.length≤1000000000)(h1 : -9223372036854775808≤last∧last≤9223372036854775807)(h2 : -9223372036854775808≤dN∧dN≤9223372036854775807)(h3 : -9223372036854775808≤cut∧cut≤9223372036854775807) :
  aE Tryz.prog 16 [ptr bd,.int .i64 last,bv,.int .i64 dN,.int .i64 cut] [hJ bd D,X] (fun v H=>∃D',Rel D' (A.du last stay dN cut)∧H=[hJ bd D',X]):=by
 obtain⟨a0,c0,rfl⟩:=hv.shape
 obtain⟨room,bm,kM,oH,nK,off,maps,ec,files,gF,wl⟩:=D
 have hlen:=hR.aw.1
 have aa5:=hR.writes.1
 have EP:=hR.full
 have lu:0<A.aw.length:=List.length_pos_iff.2 EP
 simp only at hlen aa5
 refine aE.ao Tryz.func16 Tryz.ntmps16 fun G F R hE=>?_
 refine ai (iY _ _ _ _ _ _ _ _ _ _ _ _ _) ?_
 refine dz 4 rfl ?_
 rintro sa cs rfl
 refine aF (fun w=>Sat G w ([ae bd (cl [.int .i64 room,.map (some bm),.slice sa gF.length cs,oH,nK,.bool off] 76),aB 72 1 (.slice sa gF.length cs) gF.length (gF.map fun b => .map (some b))])) (cZ 0 18 (.act 18 .nil)) rfl ak ak ak (fun w hw=>hw.cV (al.bE ([0,4]) rfl)) ?_
 refine go ?_
 refine JQ 4 rfl ag ?_
 rintro bs os j9 hs hvs
 simp only[Value.slice.injEq,true_and]at hs
 obtain⟨rfl,rfl⟩:=hs
 obtain⟨q,hq⟩:∃q:Nat,max 0 (min last ((gF.length:Int)-1))=q:=Int.eq_ofNat_of_zero_le ag
 have hqs:q<gF.length:=by omega
 refine bM q zr zr zr zr zr zr zr hq hqs ?_
 obtain⟨b1,nX⟩:∃b1,gF[q]?=some b1:=⟨gF[q],by simp⟩
 refine cO 1 q zr zr zr hvs rfl (c := .map (some b1)) (by simp[nX]) zr zr (go ?_)
 refine aI (al.pick [5] rfl) ?_
 refine aO 0 rfl ?_
 rintro wa wc rfl
 refine go ?_
 refine bB (fun s:Nat × fU × List (Nat × Value × Value) × List (Nat × List UInt8 × List UInt8)=>s.1≤wl.length∧j4 ec s.2.1 s.2.2.1 s.2.2.2 (A.fs.map (·.1))∧Ab.jG stay dN cut s.1 (A.writes.drop s.1) s.2.2.2=Ab.jG stay dN cut 0 A.writes A.fs) (fun s=>wl.length-s.1)
  (fun s=>[(0,ptr bd),(2,.slice a0 stay.length c0),(3,.int .i64 dN),(4,.int .i64 cut),(38,.slice wa wl.length wc),(39,.int .i64 wl.length),(40,.int .i64 s.1)])
  (fun s=>aB 109 3 (.slice wa wl.length wc) wl.length (ff wl)::ae bd (cl [.int .i64 room,.map (some b1),.slice (some ⟨bs,os,none⟩) gF.length cs,.slice wa wl.length wc,nK,.bool off] 76)::aS kX maps::aZ 5 s.2.1::aS e9 s.2.2.1::aB 72 1 (.slice (some ⟨bs,os,none⟩) gF.length cs) gF.length (gF.map fun b => .map (some b))::X::F)
  (0,ec,files,A.fs) ⟨by simp,⟨hR.fs,fun x h=>h,rfl,hR.gG⟩,rfl⟩ rfl cg (al.refl _) ?_
 rintro⟨i,mB,HK,TE⟩⟨hi,hF,hL⟩ ih
 simp only at hi hF hL
 refine go ?_
 refine aq zr zr ?_ ?_
 ·intro de
  simp only at de
  have gl:i<wl.length:=by omega
  obtain⟨⟨fx,ax,bx⟩,hx⟩:∃x,wl[i]?=some x:=⟨wl[i],by simp[gl]⟩
  obtain⟨⟨fy,ay,sg⟩,hy,aa3,aa2,Xh⟩:=hR.writes.left hx
  simp only at aa3 aa2 Xh
  subst aa3 aa2
  have ML:=Xh.mono hF.sub
  obtain⟨ba,bc,rfl,MK⟩:=Xh.shape
  refine go ?_
  refine iy 0 rfl ?_
  intro dE
  obtain⟨bw,ow,cw,hsw⟩:=dE.some (by rw[← List.length_pos_iff,gE,cI eE];omega)
  simp only[Value.slice.injEq,true_and]at hsw
  obtain⟨rfl,rfl⟩:=hsw
  refine cL i 3 zr zr zr zr zr zr zr zr gl ?_
  refine dm (U:=aQ) (es:=yv (fx,ax,.slice ba sg.length bc)) 0 (i*3) zr zr zr dE rfl (fun q v hq=>?_) zr zr zr ?_
  ·have xe:q<3:=by
    rcases Nat.lt_or_ge q 3 with h|h
    ·exact h
    ·rw[List.getElem?_eq_none (by rw[eE];exact h)]at hq;cases hq
   rw[gE,cR eE hx q xe];exact hq
  refine az zr zr zr bD ?_
  intro bw1
  refine go ?_
  refine jl zr zr zr ag ?_
  refine au 46 (.int .i64 ((i/8:Nat):Int)) rfl (congrArg (Value.int .i64) (by show(i:Int)/8=((i/8:Nat):Int);omega)) ?_
  refine go ?_
  refine ie zr zr zr zr ?_ ?_
  case' refine_2 =>
   intro Af
   refine go ?_
   refine aX 12 (.bool (su stay i)) rfl (congrArg Value.bool (by
    unfold su
    exact(decide_eq_false ag).symm)) ?_
  case' refine_1 =>
   intro Af
   obtain⟨bst,ost,cst,aa8⟩:=hv.some (by rw[← List.length_pos_iff,bC];omega)
   simp only[Value.slice.injEq,true_and]at aa8
   obtain⟨rfl,rfl⟩:=aa8
   refine go ?_
   refine jl zr zr zr ag ?_
   refine au 53 (.int .i64 ((i/8:Nat):Int)) rfl (congrArg (Value.int .i64) (by show(i:Int)/8=((i/8:Nat):Int);omega)) ?_
   have Gc:i/8<stay.length:=by omega
   refine go ?_
   refine bM (i/8) zr zr zr zr zr zr zr zr Gc (go ?_)
   obtain⟨sx,K1⟩:∃x,stay[i/8]?=some x:=⟨stay[i/8]'Gc,by simp⟩
   refine ux (U:=aQ) 7 zr zr zr (hv.cell (pk K1)) zr zr (go ?_)
   refine au 57 (.int .i64 ((i%2 ^ 3:Nat):Int)) rfl (congrArg (Value.int .i64) (pn i 3 ag ag)) (go ?_)
   refine jl zr zr zr ag ?_
   have hsh:(sx.toNat:Int)/2 ^ (min (((i%2 ^ 3:Nat):Int).toNat) IntKind.u8.bits)=((sx.toNat/2 ^ (i%8):Nat):Int):=by
    have e1:min (((i%2 ^ 3:Nat):Int).toNat) IntKind.u8.bits=i%8:=by show min (i%8) 8=i%8;omega
    rw[e1];simp
   refine au 58 (.int .u8 ((sx.toNat/2 ^ (i%8):Nat):Int)) rfl (congrArg (Value.int .u8) hsh) ?_
   have hsb:sx.toNat/2 ^ (i%8)<256:=Nat.lt_of_le_of_lt (Nat.div_le_self _ _) sx.toNat_lt
   refine go ?_
   refine aX 12 (.bool (su stay i)) rfl (congrArg Value.bool (by
    have:=H6 _ hsb
    unfold su
    rw[decide_eq_decide,List.getD_eq_getElem?_getD,K1]
    show IntKind.u8.wrap _=1↔_
    rw[this]
    simp only[Option.getD_some]
    omega)) ?_
  all_goals(
   generalize Rw:su stay i=told
   clear Af
   refine go ?_
   refine aq zr zr ?_ ?_
   ·intro Jc
    refine go ?_
    obtain⟨c,hc⟩:∃c:Nat,max 0 (min cut (sg.length:Int))=c:=Int.eq_ofNat_of_zero_le ag
    have Tv:c≤sg.length:=by omega
    refine bh (p:=0) (q:=max 0 (min cut (sg.length:Int))) zr zr zr zr zr zr zr (Int.le_refl _) ag (.inr ag) ?_
    refine au 73 (.slice (sliceAt ba bc 0 1) c bc) rfl (by simp only[hc];rfl) ?_
    refine go ?_
    refine aq zr zr ?_ ?_
    ·intro sO
     have Ya:c≠0:=by intro e;subst e;simp at sO
     have hk:Ab.kept stay dN cut i sg=some (sg.take c):=by rw[A5 Jc hc,if_neg Ya]
     have Lo:kK mB (.slice (sliceAt ba bc 0 1) c bc) (sg.take c):=ML.cut 0 c ag
     have iC:(sg.take c).length=c:=by rw[List.length_take];omega
     (obtain⟨j,v1,v2,n,s,hj,To,RV,HC,EJ,Rx,yO⟩:=hF.get hR.ids (hR.gW _ (List.mem_of_getElem? hy));have SY:=hR.im _ (List.mem_of_getElem? hy);simp only at SY;have XH:(TE.map (·.1)).Nodup:=(by rw[hF.ids];exact hR.ids);have acS:=eW s ax (sg.take c);refine ai (al.pick [5] rfl) ?_;refine ai (ig e9 hj _) ?_;refine aF (fun w=>Sat G w ([ae bw1 (cl [ptr fx,.int .i64 ax,(.slice (sliceAt ba bc 0 1) c bc)] 109),ae fx (cl [v1,v2] 113)])) (cZ 0 11 (.act 11 (.st 12 (.st 13 (.act 14 .nil))))) rfl ak ak ak (fun w hw=>hw.cV (al.bE ([2,0]) rfl)) ?_;refine go ?_;refine cF [6] rfl rfl rfl rfl (uL (aZ 5 mB) v2 _ s (sg.take c) ax (HC.view _) (Lo.view _) ag) rfl (fun _ _ w hp hw=>by obtain⟨_,_,_,_,rfl⟩:=hp;exact hw.cV (al.bE [4,2] rfl)) ?_;rintro _ _⟨bl,ny,rfl,EZ,rfl⟩;refine go ?_;refine ai (al.pick [2,3] rfl) ?_;refine ai (nF e9 (y:=(fx,v1,.slice (some ⟨bl,0,none⟩) (bK s ax (sg.take c)).length ny)) hj _) ?_;refine ai (al.pick [1,2] rfl) ?_;refine ai (zw 5 bl _ mB _) ?_;have TA:=hF.put (arrs':=(bl,bV (bK s ax (sg.take c)))::mB) (v1:=v1) (v2 := .slice (some ⟨bl,0,none⟩) (bK s ax (sg.take c)).length ny) (n:=n) (s:=bK s ax (sg.take c)) (fun x h=>List.mem_cons_of_mem _ h) To (RV.mono fun x h=>List.mem_cons_of_mem _ h) (kK.row EZ) ⟨EJ,ag⟩;refine aM ih (i+1,_,_,_) rfl ⟨gl,TA,by rw[← hL];exact(yw hy XH To hk).symm⟩ (by show _-(_+1)<_;omega) cg (al.to [3,4,5,0,1,6,7] 1 zr zr zr))
    ·intro sO
     have Ya:c=0:=by rcases Nat.eq_zero_or_pos c with h|h;exact h;exact absurd (by simp;exact h) sO
     have hk:Ab.kept stay dN cut i sg=none:=by rw[A5 Jc hc,if_pos Ya]
     refine go ?_
     (refine aM ih (i+1,mB,HK,TE) rfl ⟨gl,hF,by rw[← hL];exact(yy hy hk).symm⟩ (by show _-(_+1)<_;omega) cg (al.drop _ _))
   ·intro Jc
    refine go ?_
    have Zd:=KU (stay:=stay) (cut:=cut) (b:=sg) Jc
    cases told with
    | false => 
     have hk:Ab.kept stay dN cut i sg=none:=by rw[Zd,Rw];rfl
     refine go ?_
     (refine aM ih (i+1,mB,HK,TE) rfl ⟨gl,hF,by rw[← hL];exact(yy hy hk).symm⟩ (by show _-(_+1)<_;omega) cg (al.drop _ _))
    | true =>
     have hk:Ab.kept stay dN cut i sg=some sg:=by rw[Zd,Rw];rfl
     have Lo:kK mB (.slice ba sg.length bc) sg:=ML
     have iC:sg.length=sg.length:=rfl
     have Tv:sg.length≤sg.length:=Nat.le_refl _
     refine go ?_
     (obtain⟨j,v1,v2,n,s,hj,To,RV,HC,EJ,Rx,yO⟩:=hF.get hR.ids (hR.gW _ (List.mem_of_getElem? hy));have SY:=hR.im _ (List.mem_of_getElem? hy);simp only at SY;have XH:(TE.map (·.1)).Nodup:=(by rw[hF.ids];exact hR.ids);have acS:=eW s ax sg;refine ai (al.pick [5] rfl) ?_;refine ai (ig e9 hj _) ?_;refine aF (fun w=>Sat G w ([ae bw1 (cl [ptr fx,.int .i64 ax,(.slice ba sg.length bc)] 109),ae fx (cl [v1,v2] 113)])) (cZ 0 11 (.act 11 (.st 12 (.st 13 (.act 14 .nil))))) rfl ak ak ak (fun w hw=>hw.cV (al.bE ([2,0]) rfl)) ?_;refine go ?_;refine cF [6] rfl rfl rfl rfl (uL (aZ 5 mB) v2 _ s sg ax (HC.view _) (Lo.view _) ag) rfl (fun _ _ w hp hw=>by obtain⟨_,_,_,_,rfl⟩:=hp;exact hw.cV (al.bE [4,2] rfl)) ?_;rintro _ _⟨bl,ny,rfl,EZ,rfl⟩;refine go ?_;refine ai (al.pick [2,3] rfl) ?_;refine ai (nF e9 (y:=(fx,v1,.slice (some ⟨bl,0,none⟩) (bK s ax sg).length ny)) hj _) ?_;refine ai (al.pick [1,2] rfl) ?_;refine ai (zw 5 bl _ mB _) ?_;have TA:=hF.put (arrs':=(bl,bV (bK s ax sg))::mB) (v1:=v1) (v2 := .slice (some ⟨bl,0,none⟩) (bK s ax sg).length ny) (n:=n) (s:=bK s ax sg) (fun x h=>List.mem_cons_of_mem _ h) To (RV.mono fun x h=>List.mem_cons_of_mem _ h) (kK.row EZ) ⟨EJ,ag⟩;refine aM ih (i+1,_,_,_) rfl ⟨gl,TA,by rw[← hL];exact(yw hy XH To hk).symm⟩ (by show _-(_+1)<_;omega) cg (al.to [3,4,5,0,1,6,7] 1 zr zr zr)))
 ·intro fA
  simp only at fA
  have hiw:i=wl.length:=by omega
  subst hiw
  have adR:TE=Ab.jG stay dN cut 0 A.writes A.fs:=by rw[← hL,List.drop_of_length_le ag];rfl
  obtain⟨nm,lD,hbm⟩:=hR.aw.left nX
  have fH:eZ (fun b es=>(b,eS es)∈maps) (gF++[b1]) (A.aw++[nm]):=eZ.snoc hR.aw hbm
  refine aF (fun w=>Sat G w ([ae bd (cl [.int .i64 room,.map (some b1),.slice (some ⟨bs,os,none⟩) gF.length cs,.slice wa wl.length wc,nK,.bool off] 76)])) (cZ 0 8 (.st 11 (.act 8 (.act 9 (.st 10 .nil))))) rfl ak ak ak (fun w hw=>hw.cV (al.bE ([1]) rfl)) ?_
  refine go ?_
  refine aj zr zr zr zr zr zr zr zr zr (fun _ w hw=>hw.cV (al.bE ([2]) rfl)) ?_
  intro b0
  refine aR (mm:=1) (news:=[.map (some b1)]) 6 0 zr zr zr zr zr zr zr zr zr zr zr zr (Vw.ae rfl) rfl (by simp[Value.oneCell']) ag (by show _*8≤_;omega) (fun _=>rfl) (fun _ w hw=>hw.cV (al.bE ([2]) rfl)) ?_
  intro v'
  have e1:(gF.map fun b=>Value.map (some b))++[.map (some b1)]=(gF++[b1]).map fun b=>Value.map (some b):=by simp
  have e2:gF.length+1=(gF++[b1]).length:=by simp
  have e3:(gF++[b1]).length≤1000000001:=by rw[← e2];omega
  rw[e1,e2]
  refine aO 6 rfl ?_
  rintro av cv rfl
  refine go ?_
  refine bB (fun s:Nat × List (Nat × Value × Value) × List Nat=>s.1≤(gF++[b1]).length∧j4 ec mB s.2.1 (mark s.2.2 TE) (A.fs.map (·.1))∧∀x,x∈s.2.2↔x∈Ab.reach ((A.aw++[nm]).take s.1)) (fun s=>(gF++[b1]).length-s.1)
   (fun s=>[(0,ptr bd),(104,.slice av (gF++[b1]).length cv),(105,.int .i64 (gF++[b1]).length),(106,.int .i64 s.1)])
   (fun s=>aB 72 1 (.slice av (gF++[b1]).length cv) (gF++[b1]).length ((gF++[b1]).map fun b => .map (some b))::ae bd (cl [.int .i64 room,.map (some b1),.slice (some ⟨bs,os,none⟩) gF.length cs,.slice wa wl.length wc,nK,.bool off] 76)::aS kX maps::aZ 5 mB::aS e9 s.2.1::X::F)
   (0,HK,[]) ⟨Nat.zero_le _,by rw[N5];exact hF,by simp[Ab.reach]⟩ rfl cg (al.to [6,2,3,4,5,7] 2 zr zr zr) ?_
  rintro⟨i,Pd,S⟩⟨hi2,TA,Tz⟩ Hh
  simp only at hi2 TA Tz
  refine go ?_
  refine aq zr zr ?_ ?_
  ·intro de
   simp only at de
   have wH:i<(gF++[b1]).length:=by omega
   obtain⟨bi,hbi⟩:∃x,(gF++[b1])[i]?=some x:=⟨(gF++[b1])[i],by rw[List.getElem?_eq_getElem]⟩
   obtain⟨es,rK,hm⟩:=fH.left hbi
   have abO:es∈A.names::A.aw:=by
    rcases List.mem_append.1 (List.mem_of_getElem? rK)with h|h
    ·exact List.mem_cons_of_mem _ h
    ·simp only[List.mem_singleton]at h;subst h;exact List.mem_cons_of_mem _ (List.mem_of_getElem? lD)
   refine go ?_
   refine JQ 0 rfl ag ?_
   rintro bn on cn Qt Jb
   simp only[Value.slice.injEq,true_and]at Qt
   obtain⟨rfl,rfl⟩:=Qt
   refine bM i zr zr zr zr zr zr zr zr wH ?_
   refine bj 0 i zr zr zr Jb rfl (c := .map (some bi)) (by simp only[List.getElem?_map,hbi,Option.map_some]) zr zr ?_
   refine go ?_
   obtain⟨jm,Ze⟩:=List.getElem?_of_mem hm
   refine aI (al.pick [2] rfl) ?_
   refine aI (ig kX Ze _) ?_
   refine xu (kv:=Value.string) (es:=eS es) (U:=aQ) 0 zr zr zr zr zr (fun _=>rfl) bD ?_
   intro it
   refine go ?_
   have abn:=hR.nodup _ abO
   have Bd:(eS es).map (·.1)=es.map (·.1):=by simp[eS,Function.comp_def]
   refine bB (fun s:List ByteArray × List (Nat × Value × Value) × List Nat=>(s.1.Nodup∧∀x∈s.1,x∈es.map (·.1))∧j4 ec mB s.2.1 (mark s.2.2 TE) (A.fs.map (·.1))∧∀x,x∈s.2.2↔x∈S∨∃k∈s.1,(k,x)∈es) (fun s=>es.length-s.1.length)
    (fun s=>[(111,.pointer (some ⟨it,0,none⟩)),(0,ptr bd),(104,.slice (some ⟨bn,on,none⟩) (gF++[b1]).length cv),(105,.int .i64 (gF++[b1]).length),(106,.int .i64 i)])
    (fun s=>bP Value.string bi it (eS es) s.1::aS kX (maps.eraseIdx jm)::aB 72 1 (.slice (some ⟨bn,on,none⟩) (gF++[b1]).length cv) (gF++[b1]).length ((gF++[b1]).map fun b => .map (some b))::ae bd (cl [.int .i64 room,.map (some b1),.slice (some ⟨bs,os,none⟩) gF.length cs,.slice wa wl.length wc,nK,.bool off] 76)::aZ 5 mB::aS e9 s.2.1::X::F)
    ([],Pd,S) ⟨⟨List.nodup_nil,by simp⟩,TA,by simp⟩ rfl cg (al.refl _) ?_
   rintro⟨dn,Yn,S3⟩⟨⟨yQ,S6⟩,hF3,hS3⟩ ih3
   simp only at yQ S6 hF3 hS3
   refine go ?_
   refine C5 (kv:=Value.string) (es:=eS es) 0 rfl wy.inj zr zr (fun _=>rfl) gB bD ?_ ?_
   ·intro abZ
    refine go ?_
    refine ai ((al.head (B:=[kX (bi,eS es)]) (fun h hs=>by obtain⟨h',s,hm⟩:=qW h hs;exact⟨h',s,gm hm⟩)).trans (pV kX Ze _)) ?_
    have hS4:∀x,x∈S3↔x∈Ab.reach ((A.aw++[nm]).take (i+1)):=by
     intro x
     rw[hS3 x,Tz x,List.take_add_one,rK]
     simp only[Ab.reach,Option.toList_some,List.flatMap_append,List.flatMap_cons,List.flatMap_nil,List.append_nil,List.mem_append]
     apply or_congr Iff.rfl
     constructor
     ·rintro⟨k,_,hk⟩;exact List.mem_map.2 ⟨_,hk,rfl⟩
     ·intro hx
      obtain⟨⟨k,x'⟩,hk,rfl⟩:=List.mem_map.1 hx
      exact⟨k,abZ (k,ptr x') (List.mem_map.2 ⟨_,hk,rfl⟩),hk⟩
    refine go ?_
    have ih:=Hh
    refine aM ih (i+1,Yn,S3) rfl ⟨wH,hF3,hS4⟩ (by show _-(_+1)<_;omega) cg (al.to [1,2,0,3,4,5] 0 zr zr zr)
   ·intro key v fz wF
    obtain⟨⟨k',f⟩,hx,Ox⟩:=List.mem_map.1 fz
    simp only[Prod.mk.injEq]at Ox
    obtain⟨rfl,rfl⟩:=Ox
    refine go ?_
    refine xA (kv:=Value.string) (es:=eS es) 0 rfl wy.inj zr zr fz (go ?_)
    obtain⟨j,v1,v2,n,s,hj,To,RV,HC,EJ,Rx,yO⟩:=hF3.get hR.ids (hR.known _ abO _ hx)
    obtain⟨a2,c2,rfl,_⟩:=HC.shape
    refine aI (al.pick [5] rfl) ?_
    refine aI (ig e9 hj _) (go ?_)
    refine ai (nF e9 (y:=(f,.slice a2 s.length c2,.slice a2 s.length c2)) hj _) ?_
    have hF4:=hF3.put (v1 := .slice a2 s.length c2) (v2 := .slice a2 s.length c2) (n:=s) (s:=s) (fun _ h=>h) To HC HC ⟨Rx,Rx⟩
    rw[N4 (by rw[hF.ids];exact hR.ids) To]at hF4
    have RI:k'∈es.map (·.1):=List.mem_map.2 ⟨_,hx,rfl⟩
    have O3:(k'::dn).Nodup:=List.nodup_cons.2 ⟨wF,yQ⟩
    have uH:∀x∈k'::dn,x∈es.map (·.1):=fun x hx=>by
     rcases List.mem_cons.1 hx with rfl|h
     ·exact RI
     ·exact S6 x h
    have yK:=u7 O3 uH
    rw[List.length_map,List.length_cons]at yK
    have hS4:∀x,x∈f::S3↔x∈S∨∃k∈k'::dn,(k,x)∈es:=by
     intro x
     rw[List.mem_cons,hS3 x]
     constructor
     ·rintro(rfl|h|⟨k,hk,hkx⟩)
      ·exact .inr ⟨k',List.mem_cons_self ..,hx⟩
      ·exact .inl h
      ·exact .inr ⟨k,List.mem_cons_of_mem _ hk,hkx⟩
     ·rintro(h|⟨k,hk,hkx⟩)
      ·exact .inr (.inl h)
      ·rcases List.mem_cons.1 hk with rfl|hk
       ·left
        have h1:=oV abn hx
        rw[oV abn hkx]at h1
        simpa using h1
       ·exact .inr (.inr ⟨k,hk,hkx⟩)
    have ih:=ih3
    refine aM ih (k'::dn,_,f::S3) rfl ⟨⟨O3,uH⟩,hF4,hS4⟩ (by simp only[List.length_cons];omega) cg (al.to [1,2,3,4,5,0,6] 0 zr zr zr)
  ·intro abJ
   simp only at abJ
   have tl:i=(gF++[b1]).length:=by omega
   subst tl
   rw[fH.1,List.take_length]at Tz
   rw[N7 TE Tz,adR]at TA
   refine go ?_
   refine aj zr zr zr zr zr zr zr zr zr bD ?_
   intro b2
   refine go ?_
   refine ai (eJ 72 1 b2 1 1 [.map (some b1)] [] _ rfl (Nat.le_refl _) (by simp)) ?_
   refine ai (bN 109 3 none _) ?_
   refine ai (al.pick [3,4,5,6,1,0,7] rfl) ?_
   refine ai (ek bd room b1 (.slice (some ⟨b2,0,none⟩) 1 1) (.slice none 0 0) (.slice none 0 0) false maps mB Pd [b1] [] _) ?_
   have Pb:=hR.crashed (b0:=b2) zr zr (by rw[← hlen];exact hq) lD hbm TA
   refine bW hE Tryz.func16 rfl _ rfl ⟨_,Pb,rfl⟩ (al.fin [0,1] 1 zr zr)
def Ie(bd:Nat)(D:Dk)(A:Ab)(hR:Rel D A)(old name:ByteArray)(cK:A.aw.length≤1000000000) :
  aE Tryz.prog 173 [ptr bd,.string old,.string name] [hJ bd D]
   (fun v H=>∃D',Rel D' (A.rename ([old,name].all isName) old name).2∧H=[hJ bd D']∧v = .int .i64 (A.rename ([old,name].all isName) old name).1):=by
 refine aE.ao Tryz.func173 Tryz.ntmps173 fun G F R hE=>?_
 refine go ?_
 refine bG zr zr bD ?_
 intro zt
 refine bG zr zr bD ?_
 intro zq
 refine go ?_
 cases Di:(A.find old ([old,name].all isName)).2.1 with
 | none =>
  refine aF (fun w=>Sat G w ([ae zq (cl [.string name] 9),ae zt (cl [.string old] 9)])) (cZ 0 4 (.fork (.act 4 (.fork (.act 5 (.fork (.act 6 (cZ 7 3 (.act 10 (.act 11 (.st 12 .nil))))) (.act 10 (.act 6 (cZ 7 3 (.act 11 (.st 12 .nil))))))) (.act 10 (.act 5 (.act 6 (cZ 7 3 (.act 11 (.st 12 .nil)))))))) (.act 10 (.act 4 (.act 5 (.act 6 (cZ 7 3 (.act 11 (.st 12 .nil))))))))) rfl ak ak ak (fun w hw=>hw.cV (al.bE ([0,1]) rfl)) ?_
  repeat'(first|(with_reducible intro pM)|refine gy ?_|refine qL ?_ ?_|refine aq zr zr ?_ ?_|(refine aj zr zr zr zr zr zr zr zr zr (fun _ w hw=>hw.cV (by first|exact al.bE [1,2] rfl|exact al.bE [2,3] rfl)) ?_;intro _)|(refine az zr zr zr (fun _ w hw=>hw.cV (by first|exact al.bE [1,2] rfl|exact al.bE [2,3] rfl|exact al.bE [3,4] rfl)) ?_;intro _)|(refine cF [0] rfl rfl rfl rfl (jE _ _ [old,name] (Vw.ae rfl) (by simp)) rfl (fun _ _ w hp hw=>by obtain⟨_,rfl⟩:=hp;exact(fun _ w hw=>hw.cV (by first|exact al.bE [1,2] rfl|exact al.bE [2,3] rfl)) 0 w hw) ?_;rintro _ _⟨rfl,rfl⟩)|(refine cF [1] rfl rfl rfl rfl (jE _ _ [old,name] (Vw.ae rfl) (by simp)) rfl (fun _ _ w hp hw=>by obtain⟨_,rfl⟩:=hp;exact(fun _ w hw=>hw.cV (by(exact al.bE [2,3] rfl))) 0 w hw) ?_;rintro _ _⟨rfl,rfl⟩)|(refine cF [3] rfl rfl rfl rfl (jX bd D A hR old ([old,name].all isName)) rfl (fun _ _ w hp hw=>by obtain⟨_,_,rfl,_⟩:=hp;exact(fun _ w hw=>hw.cV (by(exact al.bE [2,3] rfl))) 0 w hw) ?_;rintro _ _⟨D',gx,rfl,rfl⟩;rw[Di])|(refine cF [4] rfl rfl rfl rfl (jX bd D A hR old ([old,name].all isName)) rfl (fun _ _ w hp hw=>by obtain⟨_,_,rfl,_⟩:=hp;exact(fun _ w hw=>hw.cV (by(exact al.bE [3,4] rfl))) 0 w hw) ?_;rintro _ _⟨D',gx,rfl,rfl⟩;rw[Di])|(refine aT ?_;first|refine cq 0 (fun w hw=>(fun _ w hw=>hw.cV (by(exact al.bE [3,4] rfl))) 0 w hw) zr zr zr zr zr zr zr zr zr ?_|refine cq 1 (fun w hw=>(fun _ w hw=>hw.cV (by(exact al.bE [3,4] rfl))) 0 w hw) zr zr zr zr zr zr zr zr zr ?_|refine cq 2 (fun w hw=>(fun _ w hw=>hw.cV (by(exact al.bE [3,4] rfl))) 0 w hw) zr zr zr zr zr zr zr zr zr ?_))
  all_goals(
   have nZ:¬(A.find old ([old,name].all isName)).1=0:=fun h=>by obtain⟨_,fl,h1,_⟩:=mu h;rw[Di]at h1;cases h1
   have hw:A.rename ([old,name].all isName) old name=((A.find old ([old,name].all isName)).1,(A.find old ([old,name].all isName)).2.2):=by
    unfold Ab.rename
    generalize A.find old ([old,name].all isName)=z at nZ Di ⊢
    obtain⟨e,fo,A1⟩:=z
    simp only at Di
    subst Di
    cases e <;> rfl
   rw[hw]at hE
   first|(exfalso;omega)|refine aL hE Tryz.func173 rfl _ rfl ⟨D',gx,rfl,rfl⟩ (al.fin [0] 4 zr zr)|refine aL hE Tryz.func173 rfl _ rfl ⟨D',gx,rfl,rfl⟩ (al.fin [1] 4 zr zr))
 | some fl =>
  refine aF (fun w=>Sat G w ([ae zq (cl [.string name] 9),ae zt (cl [.string old] 9)])) (cZ 0 4 (.fork (.act 4 (.fork (.act 5 (.fork (.act 6 (cZ 7 3 (.act 10 (.act 11 (.st 12 .nil))))) (.act 10 (.act 6 (cZ 7 3 (.act 11 (.st 12 .nil))))))) (.act 10 (.act 5 (.act 6 (cZ 7 3 (.act 11 (.st 12 .nil)))))))) (.act 10 (.act 4 (.act 5 (.act 6 (cZ 7 3 (.act 11 (.st 12 .nil))))))))) rfl ak ak ak (fun w hw=>hw.cV (al.bE ([0,1]) rfl)) ?_
  repeat'(first|(with_reducible intro pM)|refine gy ?_|refine qL ?_ ?_|refine aq zr zr ?_ ?_|(refine aj zr zr zr zr zr zr zr zr zr (fun _ w hw=>hw.cV (by first|exact al.bE [1,2] rfl|exact al.bE [2,3] rfl)) ?_;intro _)|(refine az zr zr zr (fun _ w hw=>hw.cV (by first|exact al.bE [1,2] rfl|exact al.bE [2,3] rfl|exact al.bE [3,4] rfl)) ?_;intro _)|(refine cF [0] rfl rfl rfl rfl (jE _ _ [old,name] (Vw.ae rfl) (by simp)) rfl (fun _ _ w hp hw=>by obtain⟨_,rfl⟩:=hp;exact(fun _ w hw=>hw.cV (by first|exact al.bE [1,2] rfl|exact al.bE [2,3] rfl)) 0 w hw) ?_;rintro _ _⟨rfl,rfl⟩)|(refine cF [1] rfl rfl rfl rfl (jE _ _ [old,name] (Vw.ae rfl) (by simp)) rfl (fun _ _ w hp hw=>by obtain⟨_,rfl⟩:=hp;exact(fun _ w hw=>hw.cV (by(exact al.bE [2,3] rfl))) 0 w hw) ?_;rintro _ _⟨rfl,rfl⟩)|(refine cF [3] rfl rfl rfl rfl (jX bd D A hR old ([old,name].all isName)) rfl (fun _ _ w hp hw=>by obtain⟨_,_,rfl,_⟩:=hp;exact(fun _ w hw=>hw.cV (by(exact al.bE [2,3] rfl))) 0 w hw) ?_;rintro _ _⟨D',gx,rfl,rfl⟩;rw[Di])|(refine cF [4] rfl rfl rfl rfl (jX bd D A hR old ([old,name].all isName)) rfl (fun _ _ w hp hw=>by obtain⟨_,_,rfl,_⟩:=hp;exact(fun _ w hw=>hw.cV (by(exact al.bE [3,4] rfl))) 0 w hw) ?_;rintro _ _⟨D',gx,rfl,rfl⟩;rw[Di])|(refine aT ?_;first|refine cq 0 (fun w hw=>(fun _ w hw=>hw.cV (by(exact al.bE [3,4] rfl))) 0 w hw) zr zr zr zr zr zr zr zr zr ?_|refine cq 1 (fun w hw=>(fun _ w hw=>hw.cV (by(exact al.bE [3,4] rfl))) 0 w hw) zr zr zr zr zr zr zr zr zr ?_|refine cq 2 (fun w hw=>(fun _ w hw=>hw.cV (by(exact al.bE [3,4] rfl))) 0 w hw) zr zr zr zr zr zr zr zr zr ?_))
  all_goals(
   have nZ:(A.find old ([old,name].all isName)).1=0:=by
    rcases Nat.eq_zero_or_pos (A.find old ([old,name].all isName)).1 with h|h
    ·exact h
    ·exfalso
     unfold Ab.find at Di h
     split at Di
     ·rename_i h1
      rw[if_pos h1]at h
      cases hl:(A.meet ([old,name].all isName)).2.look old with
      | none=>rw[hl]at Di;cases Di
      | some f=>rw[hl]at h;simp at h
     ·cases Di)
  any_goals (exfalso;omega)
  all_goals(
   obtain⟨_,fl',abM,fz⟩:=mu nZ
   rw[Di]at abM
   cases abM
   have hw:A.rename ([old,name].all isName) old name=(0,(A.find old ([old,name].all isName)).2.2.ng (Ab.jQ (Ab.dI (A.find old ([old,name].all isName)).2.2.names old) name fl)):=by
    unfold Ab.rename
    generalize A.find old ([old,name].all isName)=z at nZ Di ⊢
    obtain⟨e,fo,A1⟩:=z
    simp only at nZ Di
    subst nZ Di
    rfl
   rw[hw]at hE
   have OA:(A.find old ([old,name].all isName)).2.2.aw.length≤1000000000:=by rw[(n6 A old _).2.2.1];exact cK
   generalize (A.find old ([old,name].all isName)).2.2=A1 at *
   have Oz:D'.gF.length≤1000000000:=by rw[gx.aw.1];exact OA
   have hN:=gx.fE _ (List.mem_cons_self ..)
   have de:=Sf fz
   have wI:=Ni (Ab.dI A1.names old) name fl
   have X7:∀b' v,Rel { D' with bm:=b',maps:=(b',eS (Ab.jQ (Ab.dI A1.names old) name fl))::D'.maps,kM:=v,gF:=D'.gF++[b'] } (A1.ng (Ab.jQ (Ab.dI A1.names old) name fl)):=fun b' v=>gx.ng
    (fun x hx=>by
     rcases Nh hx with rfl|hx
     ·have:=gx.known _ (List.mem_cons_self ..) _ fz;exact this
     ·exact gx.known _ (List.mem_cons_self ..) _ (Fg hx).1)
    (Gy (zg (gx.nodup _ (List.mem_cons_self ..)) old) name fl) ag
   first|(refine aI (al.pick ([4,0,3,1]) rfl) ?_;refine aI (al.bS [_,_,_] _) ?_;refine cF [1,0] zr zr zr zr (my (α:=Unit) bd D' A1.names gx.names 209 #[ptr zt,ptr _,ptr zq] _ (fun _=>Ab.jQ (Ab.dI A1.names old) name fl) (fun _=>emp) (fun _=>True) (fun b'=>aE.post (qB b' zt _ zq fl A1.names old name) (fun v H h=>⟨(),trivial,h⟩)) Oz) rfl mM ?_;rintro _ _⟨_,b',v,_,rfl⟩;refine go ?_;refine aL hE Tryz.func173 rfl _ rfl ⟨_,X7 b' v,rfl,rfl⟩ (al.fin [0] 2 zr zr))|(refine aI (al.pick ([4,1,3,0]) rfl) ?_;refine aI (al.bS [_,_,_] _) ?_;refine cF [1,0] zr zr zr zr (my (α:=Unit) bd D' A1.names gx.names 209 #[ptr zt,ptr _,ptr zq] _ (fun _=>Ab.jQ (Ab.dI A1.names old) name fl) (fun _=>emp) (fun _=>True) (fun b'=>aE.post (qB b' zt _ zq fl A1.names old name) (fun v H h=>⟨(),trivial,h⟩)) Oz) rfl mM ?_;rintro _ _⟨_,b',v,_,rfl⟩;refine go ?_;refine aL hE Tryz.func173 rfl _ rfl ⟨_,X7 b' v,rfl,rfl⟩ (al.fin [0] 2 zr zr))|(refine aI (al.pick ([4,2,3,0]) rfl) ?_;refine aI (al.bS [_,_,_] _) ?_;refine cF [1,0] zr zr zr zr (my (α:=Unit) bd D' A1.names gx.names 209 #[ptr zt,ptr _,ptr zq] _ (fun _=>Ab.jQ (Ab.dI A1.names old) name fl) (fun _=>emp) (fun _=>True) (fun b'=>aE.post (qB b' zt _ zq fl A1.names old name) (fun v H h=>⟨(),trivial,h⟩)) Oz) rfl mM ?_;rintro _ _⟨_,b',v,_,rfl⟩;refine go ?_;refine aL hE Tryz.func173 rfl _ rfl ⟨_,X7 b' v,rfl,rfl⟩ (al.fin [0] 2 zr zr)))
end Go.Proofs.YtedjnjkijiddlaaGreatDoor
namespace Go.SL
def Dn(M:fU)(s:Nat)(v:Value)(n:Nat)(cs:List Value):Prop :=
 cs.length=n*s∧∃a cap,v = .slice a n cap∧n≤cap∧(n=0∨∃b o row,a=Option.some ⟨b,o,none⟩∧(b,row)∈M∧(row.drop o).take cs.length=cs)
def Dn.mono{M M':fU}{s n:Nat}{v:Value}{cs:List Value}(h:Dn M s v n cs)(hs:∀x∈M,x∈M'):Dn M' s v n cs:=by
 obtain⟨hl,a,cap,hv,hc,h0|⟨b,o,row,ha,hm,ht⟩⟩:=h
 ·exact⟨hl,a,cap,hv,hc,.inl h0⟩
 ·exact⟨hl,a,cap,hv,hc,.inr ⟨b,o,row,ha,hs _ hm,ht⟩⟩
def Dn.nil(M:fU)(s:Nat)(a:Option Addr)(cap:Nat):Dn M s (.slice a 0 cap) 0 []:=⟨by simp,a,cap,rfl,Nat.zero_le _,.inl rfl⟩
def Dn.shape{M:fU}{s n:Nat}{v:Value}{cs:List Value}(h:Dn M s v n cs):∃a cap,v = .slice a n cap∧n≤cap:=by
 obtain⟨_,a,cap,hv,hc,_⟩:=h;exact⟨a,cap,hv,hc⟩
def Dn.view{M:fU}{s n:Nat}{v:Value}{cs:List Value}(h:Dn M s v n cs)(e:TypeId):Vw (aZ e M) v n cs:=by
 obtain⟨hl,a,cap,rfl,hc,h0|⟨b,o,row,ha,hm,ht⟩⟩:=h
 ·have:cs=[]:=List.eq_nil_of_length_eq_zero (by rw[hl,h0,Nat.zero_mul])
  subst h0 this;exact⟨a,cap,rfl,.inl rfl⟩
 ·have h1:Vw (ae b (cl row e)) (.slice a n cap) n cs:=by rw[ha];exact Vw.ae ht
  exact h1.mono fun h hs=>CX (List.mem_map.2 ⟨(b,row),hm,rfl⟩) hs
def DR(e:TypeId)(s n:Nat)(v:Value)(cs:List Value)(M:fU):∀h,star (aB e s v n cs) (aZ e M) h→∃M',(Dn M' s v n cs∧∀x∈M,x∈M')∧Sep [aZ e M'] h:=by
 rintro h⟨h1,h2,⟨hl,⟨a,rfl,hn,he⟩|⟨b,o,cap,pre,bT,rfl,hp,hn,hc,wA⟩⟩,hM,hd,hj⟩
 ·have:cs=[]:=List.eq_nil_of_length_eq_zero (by rw[hl,hn,Nat.zero_mul])
  subst hn this
  exact⟨M,⟨Dn.nil M s a 0,fun _ h=>h⟩,gm (ze ⟨h1,h2,he,hM,hd,hj⟩)⟩
 ·refine⟨(b,pre++cs++bT)::M,⟨⟨hl,_,cap,rfl,hn,.inr ⟨b,o,pre++cs++bT,rfl,by simp,?_⟩⟩,fun x hx=>by simp[hx]⟩,gm ⟨h1,h2,wA,hM,hd,hj⟩⟩
  subst hp
  rw[List.append_assoc,List.drop_left,List.take_left]
def aE.conv{P:Program}{f:FuncId}{args:List Value}{Pre PT:List HP}{Post wj:Value→List HP→Prop}(c:aE P f args Pre Post)(h:al PT Pre)(hp:∀v H,Post v H→∃H',wj v H'∧al H H'):aE P f args PT wj :=
 ⟨c.1,fun G w F hw=>(c.2 G w F (hw.cV (al.append F h))).mono fun e w' h'=>let ⟨v,H,he,RC,hs⟩:=h';let ⟨H',hq,hE⟩:=hp v H RC;⟨v,H',he,hq,hs.cV (al.append F hE)⟩⟩
def aE.frame{P:Program}{f:FuncId}{args:List Value}{Pre:List HP}{Post:Value→List HP→Prop}(X:List HP)(c:aE P f args Pre Post):aE P f args (Pre++X) (fun v H=>∃H',Post v H'∧H=H'++X) :=
 ⟨c.1,fun G w F hw=>(c.2 G w (X++F) (by rw[List.append_assoc]at hw;exact hw)).mono fun e w' h'=>let ⟨v,H,he,RC,hs⟩:=h';⟨v,H++X,he,⟨H,RC,rfl⟩,by rw[List.append_assoc];exact hs⟩⟩
end Go.SL
namespace Go.Proofs.YtedjnjkijiddlaaGreatDoor
open Go Go.SL
def iZ{σ:Type}:List (σ→Nat→σ→Prop)→σ→Nat→σ→Prop
 | [],x,e,y=>e=0∧y=x
 | s::ss,x,e,y=>∃e1 x1,s x e1 x1∧((e1≠0∧e=e1∧y=x1)∨(e1=0∧iZ ss x1 e y))
attribute [local irreducible] J K aE Ends ae aB aP bP bq aS aZ
def aC(bd:Nat)(A:Ab):HP:=fun h=>∃D,Rel D A∧hJ bd D h
def hG{bd:Nat}{D:Dk}{A:Ab}(h:Rel D A)(H:List HP):al (hJ bd D::H) (aC bd A::H):=al.fold (B:=[_]) fun h' hs=>⟨h',sub.refl h',D,h,eU hs⟩
def Kk{G:cJ}{w:World}{bd:Nat}{A:Ab}{H:List HP}(hs:Sat G w (aC bd A::H)):∃D,Rel D A∧Sat G w (hJ bd D::H):=by
 obtain⟨t,o,u,hp,K3,h1,h2,⟨D,hR,hA⟩,hH,hd,he⟩:=hs
 exact⟨D,hR,t,o,u,hp,K3,h1,h2,hA,hH,hd,he⟩
end Go.Proofs.YtedjnjkijiddlaaGreatDoor
namespace Go.Proofs.YtedjnjkijiddlaaGreatDoor
open Go Go.SL
def iM{P:Program}{f:FuncId}{args:List Value}{bd:Nat}{A:Ab}{Pre:List HP}{Post wj:Value→List HP→Prop}(hc:P.funcs[f]?.map mz=some true)(h:∀D,Rel D A→aE P f args (hJ bd D::Pre) Post)(hp:∀v H,Post v H→∃H',wj v H'∧al H H'):aE P f args (aC bd A::Pre) wj :=
  ⟨hc,fun G w F hw=>by
    obtain⟨D,hR,A9⟩:=Kk hw
    exact((h D hR).2 G w F A9).mono fun e w' h'=>let ⟨v,H,he,RC,hs⟩:=h';let ⟨H',hq,hE⟩:=hp v H RC;⟨v,H',he,hq,hs.cV (al.append F hE)⟩⟩
attribute [local irreducible] J K aE Ends ae aB aP bP bq aS aZ
def PX(bd:Nat)(A:Ab):aE Tryz.prog 65 [ptr bd] [aC bd A] (fun v H=>v = .bool A.off∧H=[aC bd A]):=by
 refine iM ak (Post:=fun v H=>v = .bool A.off∧H=[aC bd A]) (fun D hR=>?_) (fun v H h=>⟨H,h,al.refl _⟩)
 obtain⟨room,bm,kM,oH,nK,off,maps,ec,files,gF,wl⟩:=D
 have jV:=hR.off
 simp only at jV
 subst jV
 refine aE.ao Tryz.func65 Tryz.ntmps65 fun G F R hE=>?_
 refine ai (iY _ _ _ _ _ _ _ _ _ _ _ _ _) (go ?_)
 refine ai ((al.pick [0,1,2,3,4,5] rfl).trans (ek _ _ _ _ _ _ _ _ _ _ _ _ _)) ?_
 refine ai (hG hR _) ?_
 refine ad hE Tryz.func65 zr zr ⟨rfl,rfl⟩
def Ij(room:Nat)(h1:1≤room)(h2:room≤1073741824):aE Tryz.prog 7 [.int .i64 room] [] (fun v H=>∃bd,v = .tuple #[ptr bd,.int .i64 0]∧H=[aC bd (Ab.new room)]) :=
 (PY room h1 h2).conv (al.refl _) (by rintro v H⟨bd,D,hR,rfl,rfl⟩;exact⟨_,⟨bd,rfl,rfl⟩,hG hR _⟩)
def um(bd:Nat)(A:Ab)(name:ByteArray):aE Tryz.prog 130 [ptr bd,.string name] [aC bd A] (fun v H=>H=[aC bd A]∧v = .tuple #[.int .i64 (A.size name).1,.int .i64 (A.size name).2]) :=
 iM ak (Post:=fun v H=>∃D,Rel D A∧H=[hJ bd D]∧v = .tuple #[.int .i64 (A.size name).1,.int .i64 (A.size name).2]) (fun D hR=>(PL bd D A hR name).conv (al.refl _) (by rintro v H⟨rfl,rfl⟩;exact⟨_,⟨D,hR,rfl,rfl⟩,al.refl _⟩)) (by rintro v H⟨D,hR,rfl,rfl⟩;exact⟨_,⟨rfl,rfl⟩,hG hR _⟩)
def xq(bd:Nat)(A:Ab)(name:ByteArray)(at_ n:Int):aE Tryz.prog 62 [ptr bd,.string name,.int .i64 at_,.int .i64 n] [aC bd A]
  (fun v H=>∃r,H=[aC bd A,aB 5 1 r (A.read name at_ n).1.length (bV (A.read name at_ n).1)]∧v = .tuple #[r,.int .i64 (A.read name at_ n).2]) :=
 iM ak (Post:=fun v H=>∃D r,Rel D A∧H=[aB 5 1 r (A.read name at_ n).1.length (bV (A.read name at_ n).1),hJ bd D]∧v = .tuple #[r,.int .i64 (A.read name at_ n).2])
  (fun D hR=>(PR bd D A hR name at_ n).conv (al.refl _) (by rintro v H⟨r,rfl,rfl⟩;exact⟨_,⟨D,r,hR,rfl,rfl⟩,al.refl _⟩)) (by rintro v H⟨D,r,hR,rfl,rfl⟩;exact⟨_,⟨r,rfl,rfl⟩,(al.pick [1,0] rfl).trans (hG hR _)⟩)
def vB(bd:Nat)(A:Ab)(name:ByteArray)(cK:A.aw.length≤1000000000):aE Tryz.prog 89 [ptr bd,.string name] [aC bd A]
  (fun v H=>∃f,f ∉ A.fs.map (·.1)∧H=[aC bd (A.create (isName name) name f).2]∧v = .int .i64 (A.create (isName name) name f).1) :=
 iM ak (fun D hR=>Iu bd D A hR name cK) (by rintro v H⟨f,D',hf,hR,rfl,rfl⟩;exact⟨_,⟨f,hf,rfl,rfl⟩,hG hR _⟩)
def vx(bd:Nat)(A:Ab)(name:ByteArray)(cK:A.aw.length≤1000000000):aE Tryz.prog 114 [ptr bd,.string name] [aC bd A]
  (fun v H=>H=[aC bd (A.remove (isName name) name).2]∧v = .int .i64 (A.remove (isName name) name).1) :=
 iM ak (fun D hR=>Ig bd D A hR name cK) (by rintro v H⟨D',hR,rfl,rfl⟩;exact⟨_,⟨rfl,rfl⟩,hG hR _⟩)
def ui(bd:Nat)(A:Ab)(name:ByteArray)(at_:Int)(X:HP)(bv:Value)(b:List UInt8)(hv:Vw X bv b.length (bV b))(fb:A.writes.length≤1000000000)(iC:b.length≤1000000000)(QE : -9223372036854775808≤at_∧at_≤9223372036854775807) :
  aE Tryz.prog 102 [ptr bd,.string name,.int .i64 at_,bv] [aC bd A,X]
   (fun v H=>H=[aC bd (A.write (fZ name at_ b) name at_.toNat b).2,X]∧v = .int .i64 (A.write (fZ name at_ b) name at_.toNat b).1) :=
 iM ak (fun D hR=>LV bd D A hR name at_ X bv b hv fb iC QE) (by rintro v H⟨D',hR,rfl,rfl⟩;exact⟨_,⟨rfl,rfl⟩,hG hR _⟩)
def uj(bd:Nat)(A:Ab)(name:ByteArray)(fb:A.writes.length≤1000000000):aE Tryz.prog 104 [ptr bd,.string name] [aC bd A]
  (fun v H=>H=[aC bd (A.sync (isName name) name).2]∧v = .int .i64 (A.sync (isName name) name).1) :=
 iM ak (fun D hR=>PK bd D A hR name fb) (by rintro v H⟨D',hR,rfl,rfl⟩;exact⟨_,⟨rfl,rfl⟩,hG hR _⟩)
def pw(bd:Nat)(A:Ab):aE Tryz.prog 75 [ptr bd] [aC bd A]
  (fun v H=>H=[aC bd A.cu.2]∧v = .int .i64 A.cu.1) :=
 iM ak (fun D hR=>Ao bd D A hR) (by rintro v H⟨D',hR,rfl,rfl⟩;exact⟨_,⟨rfl,rfl⟩,hG hR _⟩)
def BE(bd:Nat)(A:Ab)(old name:ByteArray)(cK:A.aw.length≤1000000000):aE Tryz.prog 173 [ptr bd,.string old,.string name] [aC bd A]
  (fun v H=>H=[aC bd (A.rename ([old,name].all isName) old name).2]∧v = .int .i64 (A.rename ([old,name].all isName) old name).1) :=
 iM ak (fun D hR=>Ie bd D A hR old name cK) (by rintro v H⟨D',hR,rfl,rfl⟩;exact⟨_,⟨rfl,rfl⟩,hG hR _⟩)
def Qg(bd:Nat)(A:Ab)(last dN cut:Int)(X:HP)(bv:Value)(stay:List UInt8)(hv:Vw X bv stay.length (bV stay))(gk:stay.length≤9223372036854775807)(cK:A.aw.length≤1000000000)(fb:A.writes.length≤1000000000)(h1 : -9223372036854775808≤last∧last≤9223372036854775807)(h2 : -9223372036854775808≤dN∧dN≤9223372036854775807)(h3 : -9223372036854775808≤cut∧cut≤9223372036854775807) :
  aE Tryz.prog 16 [ptr bd,.int .i64 last,bv,.int .i64 dN,.int .i64 cut] [aC bd A,X] (fun v H=>H=[aC bd (A.du last stay dN cut),X]) :=
 iM ak (fun D hR=>Mp bd D A hR last dN cut X bv stay hv gk cK fb h1 h2 h3) (by rintro v H⟨D',hR,rfl⟩;exact⟨_,rfl,hG hR _⟩)
end Go.Proofs.YtedjnjkijiddlaaGreatDoor
namespace Go.Proofs.YtedjnjkijiddlaaGreatDoor
open Go Go.SL
def j0(A B:Ab):Prop:=B.aw.length≤A.aw.length+1∧B.writes.length≤A.writes.length+1
def rl(A:Ab)(n:ByteArray)(ok:Bool):(A.find n ok).2.2.aw.length=A.aw.length∧(A.find n ok).2.2.writes.length=A.writes.length:=by
 have h:=n6 A n ok
 rw[h.2.2.1,h.2.2.2.1];exact⟨rfl,rfl⟩
def Bm(A:Ab)(ok:Bool):(A.meet ok).2.aw.length=A.aw.length∧(A.meet ok).2.writes.length=A.writes.length:=by
 unfold Ab.meet
 split
 ·exact⟨rfl,rfl⟩
 split
 ·exact⟨rfl,rfl⟩
 split
 ·exact⟨rfl,rfl⟩
 ·split
  ·exact⟨rfl,rfl⟩
  split <;> exact⟨rfl,rfl⟩
def qs(A:Ab)(ok:Bool)(n:ByteArray):j0 A (A.remove ok n).2:=by
 have h:=rl A n ok
 unfold Ab.remove
 split
 ·rename_i f A1 he
  rw[he]at h
  simp only at h
  constructor <;> simp[Ab.ng] <;> omega
 ·rename_i e o A1 _ he
  rw[he]at h
  simp only at h
  constructor <;> simp only <;> omega
def qq(A:Ab)(ok:Bool)(o n:ByteArray):j0 A (A.rename ok o n).2:=by
 have h:=rl A o ok
 unfold Ab.rename
 split
 ·rename_i f A1 he
  rw[he]at h
  simp only at h
  constructor <;> simp[Ab.ng] <;> omega
 ·rename_i e o A1 _ he
  rw[he]at h
  simp only at h
  constructor <;> simp only <;> omega
def qt(A:Ab)(ok:Bool)(n:ByteArray)(f:Nat):j0 A (A.create ok n f).2:=by
 have h:=Bm A ok
 unfold Ab.create
 split
 ·split
  ·constructor <;> simp only <;> omega
  split
  ·constructor <;> simp only <;> omega
  ·constructor <;> simp[Ab.ng] <;> omega
 ·constructor <;> simp only <;> omega
def kD(A:Ab)(ok:Bool)(n:ByteArray)(at_:Nat)(b:List UInt8):j0 A (A.write ok n at_ b).2:=by
 have h:=rl A n ok
 unfold Ab.write
 split
 ·split
  ·split
   ·constructor <;> simp only <;> omega
   ·constructor <;> simp <;> omega
  ·constructor <;> simp only <;> omega
 ·constructor <;> simp only <;> omega
def kE(A:Ab)(ok:Bool)(n:ByteArray):j0 A (A.sync ok n).2:=by
 have h:=rl A n ok
 unfold Ab.sync
 split
 ·split
  ·constructor
   ·simp only;omega
   ·simp only
    refine Nat.le_trans (List.length_filter_le _ _) ?_
    omega
  ·constructor <;> simp only <;> omega
 ·constructor <;> simp only <;> omega
def jW(A:Ab):j0 A A.cu.2:=by
 have h:=Bm A true
 unfold Ab.cu
 split
 ·constructor <;> simp only[List.length_singleton] <;> omega
 ·constructor <;> simp only <;> omega
instance acK(n:ByteArray)(K:List ByteArray):Decidable (n∈K):=decidable_of_iff (K.any (fun x=>decide (x=n))=true) (by rw[List.any_eq_true];exact⟨fun⟨x,hx,h⟩=>of_decide_eq_true h ▸ hx,fun h=>⟨n,h,decide_eq_true rfl⟩⟩)
def eg(A:Ab):List ByteArray:=A.names.map (·.1)
def G6{α:Type}{a b:List α}(ha:a.Nodup)(hb:b.Nodup)(h:∀n,n∈a↔n∈b):a.length=b.length :=
 ((List.perm_ext_iff_of_nodup ha hb).2 h).length_eq
def pY(l:List ByteArray):List (List UInt8):=(l.map fun b=>b.data.toList).mergeSort fun x y=>decide (x≤y)
def tu(l:List ByteArray):(pY l).Pairwise (·≤·) :=
 (List.pairwise_mergeSort (le:=fun x y:List UInt8=>decide (x≤y)) (fun a b c h1 h2=>decide_eq_true (List.le_trans (of_decide_eq_true h1) (of_decide_eq_true h2))) (fun a b=>by simpa using List.le_total a b) _).imp fun h=>of_decide_eq_true h
def mW(l:List ByteArray):(pY l).Perm (l.map fun b=>b.data.toList):=List.mergeSort_perm _ _
def Gx{a b:List ByteArray}(h:a.Perm b):pY a=pY b :=
 List.Perm.eq_of_pairwise (fun x y _ _ h1 h2=>List.le_antisymm h1 h2) (tu a) (tu b) ((mW a).trans ((h.map _).trans (mW b).symm))
def uV(l:List ByteArray):(pY l).length=l.length:=by rw[(mW l).length_eq,List.length_map]
def kS:List UInt8:=[115,45]
def kB:List UInt8:=[98,45]
def kN:List UInt8:=[110,45]
def kI:List UInt8:=[105,45]
def qp(A:Ab)(nm:ByteArray):Bool:=(A.look nm).isSome
def fm(A:Ab)(nm:ByteArray):Option (List UInt8):=match A.look nm with
 | none=>none
 | some f=>if A.off then none else some (A.now f)
def nq(A:Ab)(d:Dg):Option (List Bl):=(fm A (df kI d)).bind zh
def ju(A:Ab)(d:Dg):Bool:=match fm A (df kB d)with
 | none=>false
 | some b=>decide (dK b=d)
def gg(A:Ab)(d:Dg):Bool:=match nq A d with
 | none=>false
 | some x=>decide (yo x=d) && x.all fun y=>ju A y.d
def rM(A:Ab):Nat:=(A.names.map fun x=>if(jJ kB x.1).isSome then(A.now x.2).length else 0).sum
def fY(A:Ab):List ByteArray:=(pY (eg A)).map strOf
abbrev BD:=Ab→Nat→Ab→Prop
def iF(nm:ByteArray):BD:=fun A e B=>∃f,f ∉ A.fs.map (·.1)∧(e,B)=A.create (isName nm) nm f
def jg(nm:ByteArray):BD:=fun A e B=>(e,B)=A.remove (isName nm) nm
def fM(nm:ByteArray)(at_:Nat)(b:List UInt8):BD:=fun A e B=>(e,B)=A.write (fZ nm at_ b) nm at_ b
def fg(nm:ByteArray):BD:=fun A e B=>(e,B)=A.sync (isName nm) nm
def kV(o n:ByteArray):BD:=fun A e B=>(e,B)=A.rename ([o,n].all isName) o n
def dO:BD:=fun A e B=>(e,B)=A.cu
def mF(kind:List UInt8)(right:Ab→Dg→Bool):List ByteArray→BD
 | [],A,e,B=>e=0∧B=A
 | nm::l,A,e,B=>match jJ kind nm with
  | none=>mF kind right l A e B
  | some d=>if right A d then mF kind right l A e B else ∃e1 A1,jg nm A e1 A1∧((e1≠0∧e=e1∧B=A1)∨(e1=0∧mF kind right l A1 e B))
def eH(kind:List UInt8)(right:Ab→Dg→Bool):BD:=fun A=>mF kind right (fY A) A
def qC:BD:=fun A e B=>∃e1 A1,iZ [eH kB ju,eH kN (fun _ _=>false),eH kI gg] A e1 A1 ∧
 if e1=0∧A1.names.length<A.names.length then dO A1 e B else e=e1∧B=A1
structure fe where
 A:Ab
 bt:List (Dg × Bl)
 brk:Bool
def gN(l:List (Dg × Bl))(d:Dg):Option Bl:=(l.find? fun x=>decide (x.1=d)).map (·.2)
def tI(s:fe)(x:Bl):Bool:=decide (gN s.bt x.d=some x)
def jP(s:fe):Int:=rM s.A+(s.bt.map (·.2.size)).sum
def CK(ss:List BD)(s:fe)(e:Nat)(t:fe):Prop:=∃B,iZ ss s.A e B∧t=⟨B,s.bt,s.brk || decide (e≠0)⟩
def jh(s:fe)(x:Bl):Nat:=if s.brk then 10 else if tI s x then 0 else 4
def fS(x:Bl):ByteArray:=df kS x.d
def fB(x:Bl):ByteArray:=df kB x.d
def Ej(o n:ByteArray):List BD:=[fg o,kV o n,dO]
def dS(q:Int)(x:Bl)(s:fe)(e:Nat)(t:fe):Prop :=
 if s.brk then e=10∧t=s else if bz x=false then e=1∧t=s else if(gN s.bt x.d).isSome∨qp s.A (fB x)then e=5∧t=s
 else if q<jP s+x.size then e=11∧t=s
 else if qp s.A (fS x)then e=0∧t=⟨s.A,s.bt++[(x.d,x)],s.brk⟩
 else ∃e1 s1,CK [iF (fS x),dO] s e1 s1∧((e1≠0∧e=e1∧t=s1)∨(e1=0∧e=0∧t=⟨s1.A,s1.bt++[(x.d,x)],s1.brk⟩))
def mU(x:Bl)(i:Int)(b:List UInt8)(s:fe)(e:Nat)(t:fe):Prop :=
 if jh s x≠0 then e=jh s x∧t=s else match cC x i with
  | none=>e=1∧t=s
  | some (at_,n)=>if(b.length:Int)≠n then e=1∧t=s else CK [fM (fS x) at_.toNat b] s e t
def ko(x:Bl)(s:fe)(e:Nat)(t:fe):Prop:=if jh s x≠0 then e=jh s x∧t=s else CK [fg (fS x)] s e t
def oe(l:List (Dg × Bl))(d:Dg):List (Dg × Bl):=l.filter fun x => !decide (x.1=d)
def j6(x:Bl)(s:fe)(e:Nat)(t:fe):Prop :=
 if jh s x≠0 then e=jh s x∧t=s else ∃s1,CK [jg (fS x)] s e s1∧t=if e≠0 then s1 else⟨s1.A,oe s1.bt x.d,s1.brk⟩
def dR(x:Bl)(s:fe)(e:Nat)(t:fe):Prop :=
 if jh s x≠0 then e=jh s x∧t=s
 else if dX x ((fm s.A (fS x)).getD [])=false then ∃e1,j6 x s e1 t∧e=if e1≠0 then e1 else 8
 else ∃s1,CK (Ej (fS x) (fB x)) s e s1∧t=if e≠0 then s1 else⟨s1.A,oe s1.bt x.d,s1.brk⟩
end Go.Proofs.YtedjnjkijiddlaaGreatDoor
namespace Go.SL
section
variable{P:Program}{U:Tr}[hU:fX P U]{f:FuncId}{n:Nat}{R:Ending→World→Prop}{G:cJ}{k:List Item}{L:fJ}{H H':List HP}{S:World→Prop}{all:Array Oper}{rest:Pl}{ty:TypeId}{pos:String}{af:Array Edge}{gd:Option (Nat × Bool)}{m:Bool}{d:Tmp}
def fq{Hs:List HP}{t:TypeId}{x:Operand}{b o off nn cap:Nat}{bR:Ty}{es cs:List Value}{A:HP}(i idx:Nat)(hd:Nat.blt d n=true)(hx:ev L x=some (.pointer (some ⟨b,off,none⟩)))(hi:cE Hs i=some A)(hv:Vw A (.slice (some ⟨b,o,none⟩) nn cap) nn cs)(jV:off=o+idx)(rK:∀j v,es[j]?=some v→cs[idx+j]?=some v)(ht:U.get t=some bR)(hg:bR.isAgg=true)(hl:Nat.beq es.length bR.info.size=true)(h:J P f n R G (fun w=>Sat G w Hs) all rest k ((d,.agg es.toArray)::L) H):J P f n R G (fun w=>Sat G w Hs) all (.cons true true ⟨some d,.load t x,ty,pos,af,gd⟩ rest) k L H :=
 kR hd (fun a w ha hw=>by
  have hc:∀j v,es[j]?=some v→w.cell? ⟨b,off+j,none⟩=some v:=fun j v hj=>by
   obtain⟨h,hh,hA⟩:=Sat.lf hw hi
   have:=hv.cell (rK j v hj) h hA
   rw[jV,show o+idx+j=o+(idx+j) by omega]
   exact dW hh this
  simp[execOp,ha.ev hx,iH (P:=P) ht hg (Nat.eq_of_beq_eq_true hl) hc]) h
end
end Go.SL
