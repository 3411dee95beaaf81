import Derived.Test.YtlionahpheehaaaGreatDoorQTP1
import Derived.Laws.BytesString
import Derived.Laws.IdiomStrings
import Derived.Lib.MakeNoZero
set_option linter.unusedSectionVars false
set_option linter.unusedSimpArgs false
set_option linter.unusedVariables false
set_option linter.defProp false
namespace Go.SL
theorem Vw.lj(e:TypeId)(size:Nat)(v:Value)(n:Nat)(cs:List Value)(h0:∃h,aK e size v n cs h):Vw (aK e size v n cs) v n cs:=by
 obtain⟨h,hl,⟨a,rfl,rfl,_⟩|⟨b,o,cap,pre,junk,rfl,hp,hn,hc,_⟩⟩:=h0
 ·exact⟨a,0,rfl,.inl (List.eq_nil_of_length_eq_zero (by simpa using hl))⟩
 ·refine⟨_,cap,rfl,.inr ⟨b,o,rfl,fun h hA j c hj=>?_⟩⟩
  obtain⟨_,⟨a,hv,_,_⟩|⟨b',o',gV,af7,tZ,hv,yY,_,_,T7⟩⟩:=hA
  ·grind
  ·simp only[Value.slice.injEq,Option.some.injEq,Addr.mk.injEq,and_true,true_and]at hv
   obtain⟨⟨rfl,rfl⟩,rfl⟩:=hv
   unfold eB
   rw[T7 b,if_pos rfl]
   grind [cl]
theorem Vw.ak{b:Nat}{l:List Value}{e:TypeId}{o n cap:Nat}{cs:List Value}(h:(l.drop o).take cs.length=cs):Vw (ak b (cl l e)) (.slice (some ⟨b,o,none⟩) n cap) n cs:=by
 refine⟨_,cap,rfl,.inr ⟨b,o,rfl,fun h' hA j c hj=>?_⟩⟩
 unfold eB
 rw[hA b,if_pos rfl]
 grind [cl]
theorem Vw.nil(A:HP)(a:Option Addr)(cap:Nat):Vw A (.slice a 0 cap) 0 []:=⟨a,cap,rfl,.inl rfl⟩
theorem Vw.mono{A B:HP}{v:Value}{n:Nat}{cs:List Value}(h:Vw A v n cs)(O':∀h,B h→∃h',sub h' h∧A h'):Vw B v n cs:=by
 obtain⟨a,cap,hv,h0|⟨b,o,ha,hc⟩⟩:=h
 ·exact⟨a,cap,hv,.inl h0⟩
 ·refine⟨a,cap,hv,.inr ⟨b,o,ha,fun h hB j c hj=>?_⟩⟩
  obtain⟨h',hs,hA⟩:=O' h hB
  have:=hc h' hA j c hj
  unfold eB at this ⊢
  split at this
  ·rename_i x y z hb;rw[hs b _ hb];exact this
  grind
theorem Vw.cells{A:HP}{v:Value}{n:Nat}{cs:List Value}(h:Vw A v n cs){G:cL}{w:World}{H:List HP}(hw:Sat G w H){i:Nat}(hi:cD H i=some A) :
  ∃a cap,v = .slice a n cap∧(cs=[]∨∃b o,a=some ⟨b,o,none⟩∧∀j c,cs[j]?=some c→w.cell? ⟨b,o+j,none⟩=some c):=by
 obtain⟨a,cap,hv,h0|⟨b,o,ha,hc⟩⟩:=h
 ·grind
 ·obtain⟨h,hh,hA⟩:=hw.kp hi
  grind [ek]
theorem Addr.add_eq(b o i:Nat):(⟨b,o,none⟩:Addr).add i=⟨b,o+i,none⟩:=by
 unfold Addr.add;split
 ·rename_i h;subst h;rfl
 ·rfl
section
variable{P:Program}{U:Tr}[hU:gF P U]{f:FuncId}{n:Nat}{R:Ending→World→Prop}{G:cL}{k:List Item}{L:gh}{H H':List HP}{S:World→Prop}{all:Array Oper}{rest:Pl}{ty:TypeId}{pos:String}{af:Array Edge}{gd:Option (Nat × Bool)}{m:Bool}{d:Tmp}
def mN{A:HP}{v:Value}{nn size:Nat}{cs:List Value}{w:World}{i:Nat}(hv:Vw A v nn cs)(hw:Sat G w H)(hi:cD H i=some A)(hl:cs.length=nn*size) :
  (Builtin.firstCells size nn v).run P w = .ok cs.toArray w:=by
 obtain⟨a,cap,rfl,h0|⟨b,o,rfl,hc⟩⟩:=hv.cells hw hi
 ·subst h0
  have h0:nn*size=0:=by simpa using hl.symm
  cases a with
  | none=>simp[Builtin.firstCells]
  | some a=>simp[Builtin.firstCells,h0,loadCells,loadCellsFrom]
 ·have:=run_loadCells_list (P:=P) w ⟨b,o,none⟩ cs (fun j c hj=>by rw[Addr.add_eq];exact hc j c hj)
  rw[hl]at this
  simp[Builtin.firstCells,this]
def Aq{A:HP}{v:Value}{nn size q:Nat}{cs:List Value}{w:World}{i:Nat}(hv:Vw A v nn cs)(hw:Sat G w H)(hi:cD H i=some A)(hl:cs.length=nn*size)(hq:q≤nn) :
  (Builtin.firstCells size q v).run P w = .ok (cs.take (q*size)).toArray w:=by
 obtain⟨a,cap,rfl,h0|⟨b,o,rfl,hc⟩⟩:=hv.cells hw hi
 ·subst h0
  have h0:nn*size=0:=by simpa using hl.symm
  have h1:q*size=0:=by have:=Nat.mul_le_mul_right size hq;omega
  cases a with
  | none=>simp[Builtin.firstCells]
  | some a=>simp[Builtin.firstCells,h1,loadCells,loadCellsFrom]
 ·have h2:(cs.take (q*size)).length=q*size:=by rw[List.length_take,hl];exact Nat.min_eq_left (Nat.mul_le_mul_right size hq)
  have:=run_loadCells_list (P:=P) w ⟨b,o,none⟩ (cs.take (q*size)) (fun j c hj=>by
   rw[Addr.add_eq]
   rw[List.getElem?_take]at hj
   split at hj
   ·exact hc j c hj
   ·cases hj)
  rw[h2]at this
  simp[Builtin.firstCells,this]
def Tp(e:TypeId)(size:Nat)(a:Option Addr):∀h,emp h→aK e size (.slice a 0 0) 0 [] h:=fun h he=>⟨by simp,.inl ⟨a,rfl,rfl,he⟩⟩
theorem xu(pre cs junk news:List Value)(o:Nat)(ho:pre.length=o) :
  (pre++cs++junk).take (o+cs.length)++news++(pre++cs++junk).drop (o+cs.length+news.length)=pre++(cs++news)++junk.drop news.length:=by
 subst ho
 have h1:(pre++cs++junk).take (pre.length+cs.length)=pre++cs:=by
  grind
 have h2:(pre++cs++junk).drop (pre.length+cs.length+news.length)=junk.drop news.length:=by
  rw[show pre.length+cs.length=(pre++cs).length by simp];rw[List.drop_append];simp
 grind
theorem Jz{t t2 elem:TypeId}{cd zm te:Ty}{z v v2:Value}{nn mm:Nat}{cs news:List Value}{A:HP}{rty:TypeId}{w:World}(i j:Nat)(ht:U.get t=some cd)(hu:cd.gx = .slice elem)(h2:U.get t2=some zm)(L7:∀q,zm.gx ≠ .int q)(he:U.get elem=some te)(hz:te.info.zero=some z)(OZ:(bC z).length=te.info.size)(hw:Sat G w H)(hi:cD H i=some (aK elem te.info.size v nn cs))(hj:cD H j=some A)(rl:Vw A v2 mm news)(rX:news.length=mm*te.info.size)(gD:∀u∈news,u.oneCell'=true)(NP:nn+mm≤9223372036854775807)(rZ:(nn+mm)*te.info.bytes≤140737488355328) :
    ∃v' w',(Builtin.append_ #[t,t2] rty #[v,v2]).run P w = .ok v' w'∧(∀H',mE i (aK elem te.info.size v' (nn+mm) (cs++news)) H [] = .mk H'→Sat G w' H'):=by
  have Q8:∀B H',mE i B H [] = .mk H'→H'.Perm (B::H.eraseIdx i):=fun B H' hp=>by simpa using sU i _ _ H [] H' hp hi
  have aeL:∃h,aK elem te.info.size v nn cs h:=by obtain⟨h,_,hA⟩:=hw.kp hi;exact⟨h,hA⟩
  have dH:=Vw.lj _ _ _ _ _ aeL
  have E1:=mN (P:=P) rl hw hj rX
  obtain⟨a2,c2,aeB,_⟩:=rl
  subst aeB
  have J4:=hw.cI (aq.perm (dN (by rw[← ed];exact hi)))
  obtain⟨hT,hO,Uv,hh,eg,h1,h2h,u5,hB2,adH,Rp⟩:=J4
  obtain⟨hl,g8⟩:=u5
  have rT:∀ {w:World},(underlying t2).run P w = .ok zm.gx w:=fun {w}=>run_underlying h2 w
  have VM:(zm.gx matches .int _)=false:=by
    cases hq:zm.gx <;> first|rfl|exact absurd hq (L7 _)
  have ad':=mN (P:=P) dH hw hi hl
  by_cases mz:∃a cap,v = .slice a nn cap∧nn+mm≤cap
  · obtain⟨a,cap,rfl,mz⟩:=mz
    rcases g8 with⟨a',hv,Re,Kf⟩|⟨b,o,gV,pre,junk,hv,hp,hn,hc,T7⟩
    · simp only[Value.slice.injEq]at hv
      obtain⟨rfl,rfl,rfl⟩:=hv
      have yZ:mm=0:=by omega
      subst yZ
      have pR:cs=[]:=List.eq_nil_of_length_eq_zero (by simpa using hl)
      have ade:news=[]:=List.eq_nil_of_length_eq_zero (by simpa using rX)
      subst pR;subst ade
      refine⟨.slice a 0 0,w,?_,fun H' hp=>?_⟩
      · cases a with
        | none=>simp[Builtin.append_,run_underlying ht,hu,run_sizeOf he,rT,VM,Builtin.lenOf,E1]
        | some a=>simp[Builtin.append_,run_underlying ht,hu,run_sizeOf he,rT,VM,Builtin.lenOf,E1,storeCells]
      · refine(show Sat G w (aK elem te.info.size (.slice a 0 0) 0 []::H.eraseIdx i)from ?_).cI (aq.perm (Q8 _ _ hp).symm)
        exact⟨hT,hO,Uv,hh,eg,h1,h2h,⟨hl,.inl ⟨a,rfl,rfl,Kf⟩⟩,hB2,adH,Rp⟩
    · simp only[Value.slice.injEq]at hv
      obtain⟨rfl,_,rfl⟩:=hv
      have we:news.length≤junk.length:=by
        have h3:(nn+mm)*te.info.size≤cap*te.info.size:=Nat.mul_le_mul_right _ mz
        grind
      have hb:w.heap[b]?=some (cl (pre++cs++junk) elem):=by
        refine eg b _ ?_
        rw[Rp b,T7 b];simp
      have cN:=gm (P:=P) news 0 (o+nn*te.info.size) (pre++cs++junk) w hb (by simp;omega) gD
      simp only[Nat.add_zero]at cN
      rw[← hl,xu pre cs junk news o hp]at cN
      refine⟨.slice (some ⟨b,o,none⟩) (nn+mm) cap,{ w with heap:=w.heap.setIfInBounds b (cl (pre++(cs++news)++junk.drop news.length) elem) },?_,fun H' yY=>?_⟩
      · rw[hl]at cN
        simp[Builtin.append_,run_underlying ht,hu,run_sizeOf he,rT,VM,Builtin.lenOf,mz,E1,Addr.add_eq,cN]
      · have h4:=Sat.Es (o':=cl (pre++(cs++news)++junk.drop news.length) elem) (show Sat G w (ak b (cl (pre++cs++junk) elem)::H.eraseIdx i)from⟨hT,hO,Uv,hh,eg,h1,h2h,T7,hB2,adH,Rp⟩)
        refine(h4.cI ?_).cI (aq.perm (Q8 _ _ yY).symm)
        refine aq.fold (B:=[_]) fun h hs=>⟨h,sub.refl h,?_⟩
        refine⟨by simp[hl,rX,Nat.add_mul],.inr ⟨b,o,cap,pre,_,rfl,hp,mz,?_,eO hs⟩⟩
        simp;omega
  · have hvs:∃a cap,v = .slice a nn cap:=by obtain⟨a,cap,hv,_⟩:=dH;exact⟨a,cap,hv⟩
    obtain⟨a,cap,rfl⟩:=hvs
    have O6:¬nn+mm≤cap:=fun h=>mz ⟨a,cap,rfl,h⟩
    have hgs:=growslice_fits (need:=nn+mm) (old:=cap) (bytes:=te.info.bytes) aj rZ
    have fO:=grownCap_ge w (nn+mm) cap elem
    have hzc:z.cells=(bC z).toArray:=ec z
    refine⟨.slice (some ⟨w.heap.size,0,none⟩) (nn+mm) (grownCap w (nn+mm) cap elem),w.drew.alloc (cl (cs++news++(Builtin.zeroCells z.cells (grownCap w (nn+mm) cap elem-(nn+mm))).toList) elem),?_,fun H' yY=>?_⟩
    · have Kb:=mN (P:=P) (G:=G) (w:=w.drew) dH (hw.draw _) hi hl
      have ae6:=mN (P:=P) (G:=G) (w:=w.drew) ⟨a2,c2,rfl,by assumption⟩ (hw.draw _) hj rX
      have Ka:¬((9223372036854775807:Int)<(nn:Int)+(mm:Int)):=by omega
      have aaw:¬281474976710656<Builtin.nextslicecap (nn+mm) cap*te.info.bytes:=by omega
      simp[Builtin.append_,run_underlying ht,hu,run_sizeOf he,rT,VM,Builtin.lenOf,O6,Ka,aaw,Question.forced,run_typeInfo he,ej he hz,newRow,Kb,ae6,grownCap,cl]
      congr 2
      grind
    · have h5 : Sat G (w.drew.alloc (cl (cs ++ news ++ (Builtin.zeroCells z.cells (grownCap w (nn + mm) cap elem - (nn + mm))).toList) elem))
          (ak w.heap.size (cl (cs++news++(Builtin.zeroCells z.cells (grownCap w (nn+mm) cap elem-(nn+mm))).toList) elem)::H.eraseIdx i):=by
        have h6:Sat G w (H.eraseIdx i):=(hw.cI (aq.perm (dN (by rw[← ed];exact hi)))).cI (aq.drop _ _)
        exact Sat.alloc (w:=w.drew) (h6.draw _) _
      refine(h5.cI ?_).cI (aq.perm (Q8 _ _ yY).symm)
      refine aq.fold (B:=[_]) fun h hs=>⟨h,sub.refl h,?_⟩
      refine⟨by simp[hl,rX,Nat.add_mul],.inr ⟨w.heap.size,0,_,[],_,rfl,rfl,fO,?_,by simpa using eO hs⟩⟩
      have h7:(Builtin.zeroCells z.cells (grownCap w (nn+mm) cap elem-(nn+mm))).size=(grownCap w (nn+mm) cap elem-(nn+mm))*te.info.size:=by rw[size_zeroCells,hzc];simp[OZ]
      rw[List.length_append,hl,rX,Array.length_toList,h7,← Nat.add_mul,← Nat.add_mul]
      grind
theorem SB{x y:Operand}{t t2 elem:TypeId}{cd zm te:Ty}{z v v2:Value}{nn mm:Nat}{cs news:List Value}{A:HP}(i j:Nat)(hd:Nat.blt d n=true)(hx:ev L x=some v)(hy:ev L y=some v2)(ht:U.get t=some cd)(hu:cd.gx = .slice elem)(h2:U.get t2=some zm)(L7:(match zm.gx with | .int _=>false|_=>true)=true)(he:U.get elem=some te)(hz:te.info.zero=some z)(OZ:Nat.beq (bC z).length te.info.size=true)(hi:cD H i=some (aK elem te.info.size v nn cs))(hj:cD H j=some A)(rl:Vw A v2 mm news)(rX:news.length=mm*te.info.size)(gD:∀u∈news,u.oneCell'=true)(NP:nn+mm≤9223372036854775807)(rZ:(nn+mm)*te.info.bytes≤140737488355328){Hf:Value→List HP}(hp:∀v',mE i (aK elem te.info.size v' (nn+mm) (cs++news)) H [] = .mk (Hf v'))(hS:∀v' w,Sat G w (Hf v')→Sx rest S w)(h:∀v',J P f n R G S all rest k ((d,v')::L) (Hf v')) :
  J P f n R G S all (.cons false true ⟨some d,.call { callee := .builtin .append,args := #[x,y],argTypes := #[t,t2] },ty,pos,af,gd⟩ rest) k L H:=by
 refine oe hd (fun u H1=>H1=Hf u) (fun a w ha hw=>?_) ?_ ?_
 ·obtain⟨v',w',hr,hs⟩:=Jz (P:=P) (rty:=ty) i j ht hu h2 (fun q e=>by rw[e]at L7;cases L7) he hz (Nat.eq_of_beq_eq_true OZ) hw hi hj rl rX gD NP rZ
  refine⟨v',w',_,?_,rfl,hs _ (hp v')⟩
  simp[execOp,resolve,invoke,builtin,ha.ev hx,ha.ev hy,hr]
 ·grind
 grind
theorem aa'{x y:Operand}{t t2 elem:TypeId}{cd te:Ty}{v2:Value}{b o dl dc mm:Nat}{l src l':List Value}{e:TypeId}{A:HP}(i j:Nat)(hd:Nat.blt d n=true)(hx:ev L x=some (.slice (some ⟨b,o,none⟩) dl dc))(hy:ev L y=some v2)(ht:U.get t=some cd)(hu:cd.gx = .slice elem)(he:U.get elem=some te)(hi:cD H i=some (ak b (cl l e)))(hj:cD H j=some A)(rl:Vw A v2 mm src)(rX:src.length=mm*te.info.size)(gD:∀u∈src,u.oneCell'=true)(we:o+(min mm dl)*te.info.size≤l.length)(EZ:l'=l.take o++src.take (min mm dl*te.info.size)++l.drop (o+min mm dl*te.info.size))(hp:mE i (ak b (cl l' e)) H [] = .mk H')(hS:∀w,Sat G w H'→Sx rest S w)(h:J P f n R G S all rest k ((d,.int .i64 (min mm dl:Nat))::L) H') :
  J P f n R G S all (.cons false true ⟨some d,.call { callee := .builtin .copy,args := #[x,y],argTypes := #[t,t2] },ty,pos,af,gd⟩ rest) k L H:=by
 refine oe hd (fun u H1=>u = .int .i64 (min mm dl:Nat)∧H1=H') (fun a w ha hw=>?_) ?_ ?_
 ·have hf:=Aq (P:=P) (q:=min mm dl) rl hw hj rX (Nat.min_le_left _ _)
  obtain⟨a2,c2,SV,_⟩:=rl
  subst SV
  have h3:(src.take (min mm dl*te.info.size)).length=min mm dl*te.info.size:=by rw[List.length_take,rX];exact Nat.min_eq_left (Nat.mul_le_mul_right _ (Nat.min_le_left _ _))
  have cN:=gm (P:=P) (src.take (min mm dl*te.info.size)) 0 o l w (hw.q9 hi) (by rw[h3];simpa using we) (fun u hu=>gD u (List.mem_of_mem_take hu))
  simp only[Nat.add_zero,h3,← EZ]at cN
  refine⟨_,_,H',?_,⟨rfl,rfl⟩,hw.put hi hp⟩
  simp only[execOp,resolve,invoke,builtin,Sem.run_bind,Sem.run_pure,Result.andThen_ok,List.map_toArray,List.map_cons,List.map_nil,ha.ev hx,ha.ev hy,Builtin.copy_,List.getElem?_toArray,List.getElem?_cons_zero,List.getElem?_cons_succ,
   run_underlying ht,hu,Builtin.lenOf,run_sizeOf he]
  rw[show Nat.min mm dl=min mm dl from rfl]
  simp only[hf,Result.andThen_ok,cN,goInt]
 ·grind
 grind
theorem od{x y:Operand}{t elem:TypeId}{cd te:Ty}{z:Value}{p q:Nat}(hd:Nat.blt d n=true)(hx:ev L x=some (.int .i64 (p:Int)))(hy:ev L y=some (.int .i64 (q:Int)))(ht:U.get t=some cd)(hu:cd.gx = .slice elem)(he:U.get elem=some te)(hz:te.info.zero=some z)(OZ:Nat.beq (bC z).length 1=true)(aep:Nat.beq te.info.size 1=true)(LW:p≤q)(NP:q≤9223372036854775807)(rZ:te.info.bytes*q≤281474976710656)(hS:∀b w,Sat G w (ak b (cl (List.replicate q ((bC z).headD undef)) elem)::H)→Sx rest S w)(h:∀b,J P f n R G S all rest k ((d,.slice (some ⟨b,0,none⟩) p q)::L) (ak b (cl (List.replicate q ((bC z).headD undef)) elem)::H)) :
  J P f n R G S all (.cons false true ⟨some d,.makeSlice t x y,ty,pos,af,gd⟩ rest) k L H:=by
 refine oe hd (fun u H1=>∃b,u = .slice (some ⟨b,0,none⟩) p q∧H1=ak b (cl (List.replicate q ((bC z).headD undef)) elem)::H) (fun a w ha hw=>?_) ?_ ?_
 ·refine⟨_,_,_,?_,⟨w.heap.size,rfl,rfl⟩,hw.alloc _⟩
  have h1:te.info.size=1:=Nat.eq_of_beq_eq_true aep
  have h2:(bC z).length=1:=Nat.eq_of_beq_eq_true OZ
  obtain⟨u,hu1⟩:∃u,bC z=[u]:=List.length_eq_one_iff.1 h2
  have wq:IntKind.i64.wrap (q:Int)=q:=dr (by simp only[js];omega)
  have wp:IntKind.i64.wrap (p:Int)=p:=dr (by simp only[js];omega)
  have hb:¬((281474976710656:Int)<(te.info.bytes:Int)*(q:Int)):=by omega
  have aeQ:¬((q:Int)<(p:Int)):=by omega
  have Kh:z.cells = #[u]:=by rw[ec,hu1]
  have T5:¬((q:Int)<0):=by omega
  have zq:¬((p:Int)<0):=by omega
  by_cases h0:q=0
  ·subst h0
   have aeV:p=0:=by omega
   subst aeV
   have w0:IntKind.i64.wrap 0=0:=dr (by simp only[js];omega)
   simp[execOp,ha.ev hx,ha.ev hy,Instr.makeSlice,run_underlying ht,hu,asInt,asIntOf,run_typeInfo he,w0,run_sizeOf he,h1,newRow,cl]
   grind
  ·have pR:(Array.range q).map (fun i=>(#[u]:Array Value)[i%(#[u]:Array Value).size]!)=(List.replicate q u).toArray:=by
    grind
   have iJ:(Instr.makeSlice t (.int .i64 (p:Int)) (.int .i64 (q:Int))).run P w = .ok (.slice (some ⟨w.heap.size,0,none⟩) p q) { w with heap:=w.heap.push (.cells (List.replicate q u).toArray elem) }:=by
    unfold Instr.makeSlice
    simp only[Sem.run_bind,run_underlying ht,Result.andThen_ok,hu,asInt,asIntOf,Sem.run_pure,run_typeInfo he,wp,wq]
    rw[if_neg (by simp[hb,aeQ])]
    simp only[pure_bind,Sem.run_bind,run_askRoom,Result.andThen_ok,run_sizeOf he,h1,Nat.mul_one,Int.toNat_natCast,h0,if_false,ej he hz,Sem.run_pure,Kh,pR,newRow,run_newObj]
   simp only[execOp,ha.ev hx,ha.ev hy,Sem.run_bind,iJ,Result.andThen_ok,Sem.run_pure,hu1,List.headD_cons,cl]
 ·grind
 grind
def Nt(L:gh):Option Operand→Option Int
 | none=>some 0
 | some x=>match ev L x with
  | some (.int _ l)=>some l
  | _=>none
def DB(L:gh)(len:Nat):Option Operand→Option Int
 | none=>some (len:Int)
 | some x=>match ev L x with
  | some (.int _ l)=>some l
  | _=>none
def uN{lo hi:Option Operand}{len cap:Nat}{p q:Int}{a:Act}{w:World}(isSlice:Bool)(ha:Has n L a)(xX:Nt L lo=some p)(Bh:DB L len hi=some q)(h0:0≤p)(LW:p≤q)(hqc:hi=none∨q≤(cap:Int)) :
  (Instr.sliceBounds isSlice len cap (lo.map a.eval) (hi.map a.eval) none).run P w = .ok (p.toNat,q.toNat,cap) w:=by
 have hh:(match hi.map a.eval with|some v=>Instr.sliceBound v cap (if isSlice then .sliceAcap else .sliceAlen)|none=>pure len:Sem Nat).run P w = .ok q.toNat w:=by
  cases hi with
  | none=>simp only[DB,Option.some.injEq]at Bh;subst Bh;simp
  | some x =>
   simp only[DB]at Bh
   split at Bh
   ·rename_i j l hx
    cases Bh
    simp only[Option.map_some,ha.ev hx,Instr.sliceBound,asIntOf,Sem.run_bind,Sem.run_pure,Result.andThen_ok]
    rw[if_pos ⟨aj,hqc.resolve_left (by simp)⟩];rfl
   ·cases Bh
 have hl:(match lo.map a.eval with|some v=>Instr.sliceBound v q.toNat .sliceB|none=>pure 0:Sem Nat).run P w = .ok p.toNat w:=by
  cases lo with
  | none=>simp only[Nt,Option.some.injEq]at xX;subst xX;simp
  | some x =>
   simp only[Nt]at xX
   split at xX
   ·rename_i j l hx
    cases xX
    simp only[Option.map_some,ha.ev hx,Instr.sliceBound,asIntOf,Sem.run_bind,Sem.run_pure,Result.andThen_ok]
    rw[if_pos ⟨h0,aj⟩];rfl
   ·cases xX
 unfold Instr.sliceBounds
 cases hi with
 | none =>
  cases lo with
  | none=>simp at hh hl ⊢;exact⟨hl.symm ▸ rfl,hh⟩
  | some x=>simp at hh hl ⊢;simp[hl,hh]
 | some y =>
  cases lo with
  | none=>simp at hh hl ⊢;simp[hl,hh]
  | some x=>simp at hh hl ⊢;simp[hl,hh]
theorem Va{t elem:TypeId}{cd te:Ty}{x:Operand}{lo hi:Option Operand}{b o len cap:Nat}{p q:Int}(hd:Nat.blt d n=true)(ht:U.get t=some cd)(hu:cd.gx = .slice elem)(he:U.get elem=some te)(hx:ev L x=some (.slice (some ⟨b,o,none⟩) len cap))(xX:Nt L lo=some p)(Bh:DB L len hi=some q)(h0:0≤p)(LW:p≤q)(hqc:hi=none∨q≤(cap:Int))(h:∀o',(p.toNat≠cap→o'=o+p.toNat*te.info.size)→(p.toNat=cap→o'=o)→J P f n R G S all rest k ((d,.slice (some ⟨b,o',none⟩) (q.toNat-p.toNat) (cap-p.toNat))::L) H) :
  J P f n R G S all (.cons m true ⟨some d,.slice t x lo hi none,ty,pos,af,gd⟩ rest) k L H:=by
 refine dK hd (v := .slice (some ⟨b,if p.toNat=cap then o else o+p.toNat*te.info.size,none⟩) (q.toNat-p.toNat) (cap-p.toNat)) (fun a ha w=>?_) (h _ (fun e=>if_neg e) (fun e=>if_pos e))
 have hr:=uN (P:=P) (w:=w) true ha xX Bh h0 LW hqc
 simp only[execOp,ha.ev hx,Instr.sliceAt,Sem.run_bind,run_underlying ht,Result.andThen_ok,hu,Instr.slice,Option.map_none,hr,run_sizeOf he,Sem.run_pure]
 grind [Addr.add_eq]
def sliceAt(a0:Option Addr)(cap p size:Nat):Option Addr:=if p=cap then a0 else a0.map fun a=>a.add (p*size)
theorem KV{t elem:TypeId}{cd te:Ty}{x:Operand}{lo hi:Option Operand}{a0:Option Addr}{len cap:Nat}{p q:Int}(hd:Nat.blt d n=true)(ht:U.get t=some cd)(hu:cd.gx = .slice elem)(he:U.get elem=some te)(hx:ev L x=some (.slice a0 len cap))(xX:Nt L lo=some p)(Bh:DB L len hi=some q)(h0:0≤p)(LW:p≤q)(hqc:hi=none∨q≤(cap:Int))(h:J P f n R G S all rest k ((d,.slice (sliceAt a0 cap p.toNat te.info.size) (q.toNat-p.toNat) (cap-p.toNat))::L) H) :
  J P f n R G S all (.cons m true ⟨some d,.slice t x lo hi none,ty,pos,af,gd⟩ rest) k L H:=by
 refine dK hd (fun a ha w=>?_) h
 have hr:=uN (P:=P) (w:=w) true ha xX Bh h0 LW hqc
 simp only[execOp,ha.ev hx,Instr.sliceAt,Sem.run_bind,run_underlying ht,Result.andThen_ok,hu,Instr.slice,Option.map_none,hr,run_sizeOf he,Sem.run_pure,sliceAt]
 grind
def BX{t:TypeId}{cd:Ty}{x:Operand}{lo hi:Option Operand}{s:ByteArray}{p q:Int}(hd:Nat.blt d n=true)(ht:U.get t=some cd)(hu:cd.gx = .string)(hx:ev L x=some (.string s))(xX:Nt L lo=some p)(Bh:DB L s.size hi=some q)(h0:0≤p)(LW:p≤q)(hqc:q≤(s.size:Int))(h:J P f n R G S all rest k ((d,.string (s.extract p.toNat q.toNat))::L) H) :
  J P f n R G S all (.cons m true ⟨some d,.slice t x lo hi none,ty,pos,af,gd⟩ rest) k L H:=by
 refine dK hd (fun a ha w=>?_) h
 have hr:=uN (P:=P) (w:=w) false ha xX Bh h0 LW (.inr hqc)
 simp only[execOp,ha.ev hx,Instr.sliceAt,Sem.run_bind,run_underlying ht,Result.andThen_ok,hu,Instr.slice,Option.map_none,hr,Option.isSome_none,Bool.false_eq_true,if_false,Sem.run_pure]
def Iy{t elem:TypeId}{cd te:Ty}{x y:Operand}{j:IntKind}{b o len cap:Nat}{p:Int}(hd:Nat.blt d n=true)(ht:U.get t=some cd)(hu:cd.gx = .slice elem)(he:U.get elem=some te)(hx:ev L x=some (.slice (some ⟨b,o,none⟩) len cap))(hy:ev L y=some (.int j p))(h0:0≤p)(hp:p<(len:Int))(h:J P f n R G S all rest k ((d,.pointer (some ⟨b,o+p.toNat*te.info.size,none⟩))::L) H) :
  J P f n R G S all (.cons m true ⟨some d,.indexAddr t x y,ty,pos,af,gd⟩ rest) k L H:=by
 refine dK hd (fun a ha w=>?_) h
 simp only[execOp,ha.ev hx,ha.ev hy,Instr.indexAt,asIntOf,Sem.run_bind,Sem.run_pure,run_underlying ht,Result.andThen_ok,hu]
 rw[if_pos ⟨h0,hp⟩]
 simp only[Sem.run_bind,run_sizeOf he,Result.andThen_ok,Sem.run_pure,Addr.add_eq]
def ad8{t elem:TypeId}{cd te:Ty}{x y:Operand}{j:IntKind}{b o len cap:Nat}{p:Int}(q sz:Nat)(hd:Nat.blt d n=true)(ht:U.get t=some cd)(hu:cd.gx = .slice elem)(he:U.get elem=some te)(hs:te.info.size=sz)(hx:ev L x=some (.slice (some ⟨b,o,none⟩) len cap))(hy:ev L y=some (.int j p))(hq:p=(q:Int))(dk:q<len)(h:J P f n R G S all rest k ((d,.pointer (some ⟨b,o+q*sz,none⟩))::L) H) :
  J P f n R G S all (.cons m true ⟨some d,.indexAddr t x y,ty,pos,af,gd⟩ rest) k L H:=by
 subst hq;subst hs
 exact Iy hd ht hu he hx hy aj aj (by simpa using h)
def ad7{t elem:TypeId}{cd te:Ty}{x y:Operand}{j:IntKind}{b o len cap:Nat}{p:Int}(q:Nat)(hd:Nat.blt d n=true)(ht:U.get t=some cd)(hu:cd.gx = .slice elem)(he:U.get elem=some te)(hs:te.info.size=1)(hx:ev L x=some (.slice (some ⟨b,o,none⟩) len cap))(hy:ev L y=some (.int j p))(hq:p=(q:Int))(dk:q<len)(h:J P f n R G S all rest k ((d,.pointer (some ⟨b,o+q,none⟩))::L) H) :
  J P f n R G S all (.cons m true ⟨some d,.indexAddr t x y,ty,pos,af,gd⟩ rest) k L H :=
 ad8 q 1 hd ht hu he hs hx hy hq dk (by simpa using h)
def B0{t elem:TypeId}{cd te:Ty}{x y:Operand}{j:IntKind}{b o len:Nat}{p:Int}(hd:Nat.blt d n=true)(ht:U.get t=some cd)(hu:cd.gx = .array len elem)(he:U.get elem=some te)(hx:ev L x=some (.pointer (some ⟨b,o,none⟩)))(hy:ev L y=some (.int j p))(h0:0≤p)(hp:p<(len:Int))(h:J P f n R G S all rest k ((d,.pointer (some ⟨b,o+p.toNat*te.info.size,none⟩))::L) H) :
  J P f n R G S all (.cons m true ⟨some d,.indexAddr t x y,ty,pos,af,gd⟩ rest) k L H:=by
 refine dK hd (fun a ha w=>?_) h
 simp only[execOp,ha.ev hx,ha.ev hy,Instr.indexAt,asIntOf,Sem.run_bind,Sem.run_pure,run_underlying ht,Result.andThen_ok,hu,Instr.sureAddr]
 rw[if_pos ⟨h0,hp⟩]
 simp only[Sem.run_bind,run_sizeOf he,Result.andThen_ok,Sem.run_pure,Addr.add_eq]
def vd(s:ByteArray)(i:Nat):UInt8:=s.data.toList.getD i 0
def vk{t:TypeId}{cd:Ty}{x y:Operand}{j:IntKind}{s:ByteArray}{p:Int}(hd:Nat.blt d n=true)(ht:U.get t=some cd)(hu:cd.gx = .string)(hx:ev L x=some (.string s))(hy:ev L y=some (.int j p))(h0:0≤p)(hp:p<(s.size:Int))(h:J P f n R G S all rest k ((d,.int .u8 ((vd s p.toNat).toNat:Int))::L) H) :
  J P f n R G S all (.cons m true ⟨some d,.index t x y,ty,pos,af,gd⟩ rest) k L H:=by
 refine dK hd (fun a ha w=>?_) h
 have dk:p.toNat<s.size:=by omega
 have hb:s[p.toNat]?=some (vd s p.toNat):=by
  have h1:p.toNat<s.data.size:=dk
  have h2:s[p.toNat]?=some s[p.toNat]:=by simp[dk]
  rw[h2]
  congr 1
  unfold vd
  rw[List.getD_eq_getElem?_getD,Array.getElem?_toList,Array.getElem?_eq_getElem h1]
  rfl
 simp[execOp,ha.ev hx,ha.ev hy,Instr.index,asIntOf,run_underlying ht,hu,h0,hb]
def B3{t elem:TypeId}{cd te:Ty}{x y:Operand}{j:IntKind}{cs:Array Value}{len:Nat}{p:Int}{v:Value}(hd:Nat.blt d n=true)(ht:U.get t=some cd)(hu:cd.gx = .array len elem)(he:U.get elem=some te)(hg:te.isAgg=false)(h1:Nat.beq te.info.size 1=true)(hx:ev L x=some (.agg cs))(hy:ev L y=some (.int j p))(h0:0≤p)(hp:p<(len:Int))(hv:cs.toList[p.toNat]?=some v)(h:J P f n R G S all rest k ((d,v)::L) H) :
  J P f n R G S all (.cons m true ⟨some d,.index t x y,ty,pos,af,gd⟩ rest) k L H:=by
 refine dK hd (fun a ha w=>?_) h
 have SV:cs[p.toNat]?=some v:=by simpa using hv
 have h1':te.info.size=1:=Nat.eq_of_beq_eq_true h1
 simp[execOp,ha.ev hx,ha.ev hy,Instr.index,asIntOf,run_underlying ht,hu,h0,hp,run_sizeOf he,h1',part,sQ he,hg,SV]
def wY{t:TypeId}{x:Operand}{b off:Nat}{cd:Ty}{v:Value}{A:HP}(i:Nat)(hd:Nat.blt d n=true)(hx:ev L x=some (.pointer (some ⟨b,off,none⟩)))(hi:cD H i=some A)(hv:∀h,A h→eB h b off=some v)(ht:U.get t=some cd)(hg:cd.isAgg=false)(h:J P f n R G S all rest k ((d,v)::L) H):J P f n R G S all (.cons false true ⟨some d,.load t x,ty,pos,af,gd⟩ rest) k L H :=
 zV hd hx (fun w hw=>by
  obtain⟨h,hh,hA⟩:=hw.kp hi
  exact ek hh (hv h hA)) ht hg h
def u8(x:UInt8):Value := .int .u8 (x.toNat:Int)
def bV(bs:List UInt8):List Value:=bs.map u8
theorem bN(bs:List UInt8):(bV bs).length=bs.length:=by simp[bV]
theorem dR(bs:List UInt8):∀u∈bV bs,u.oneCell'=true:=by
 intro u hu
 simp only[bV,List.mem_map]at hu
 obtain⟨x,_,rfl⟩:=hu
 rfl
def foldl_push(bs:List UInt8):∀s:ByteArray,(bs.map fun x=>(x.toNat:Int)).foldl (fun r n=>r.push (UInt8.ofNat n.toNat)) s=⟨(s.data.toList++bs).toArray⟩:=by
 induction bs with
 | nil=>intro s;simp
 | cons x l ih =>
  simp_all
def strOf(bs:List UInt8):ByteArray:=⟨bs.toArray⟩
theorem Aj(s:ByteArray):strOf s.data.toList=s:=by simp[strOf]
theorem CU{a b:List UInt8}:strOf a=strOf b↔a=b:=by
 grind [strOf]
theorem tx{a b:List UInt8}:V9 (strOf a) (strOf b)=decide (a=b):=by
 grind [UK,CU]
def U'{src dst e:TypeId}{ts td te:Ty}{x:Operand}{v:Value}{A:HP}{bs:List UInt8}(i:Nat)(hd:Nat.blt d n=true)(hx:ev L x=some v)(hs:U.get src=some ts)(NI:ts.gx = .slice e)(he:U.get e=some te)(heu:te.gx = .int .u8)(NX:U.get dst=some td)(Hv:td.gx = .string)(hi:cD H i=some A)(hv:Vw A v bs.length (bV bs))(h:J P f n R G S all rest k ((d,.string (strOf bs))::L) H):J P f n R G S all (.cons false true ⟨some d,.convert src dst x,ty,pos,af,gd⟩ rest) k L H:=by
 refine kR hd (fun a w ha hw=>?_) h
 obtain⟨a0,cap,rfl,h0|⟨b,o,rfl,hc⟩⟩:=hv.cells hw hi
 ·have hb:bs=[]:=by simpa[bV]using h0
  subst hb
  cases a0 with
  | none =>
   simp only[execOp,ha.ev hx,Sem.run_bind]
   rw[run_convert_bytes_string w src dst e _ _ _ (by rw[kz (P:=P) hs,NI]) (by rw[kz (P:=P) he,heu]) (by rw[kz (P:=P) NX,Hv])]
   simp[Conv.bytesToString,strOf]
   rfl
  | some a1 =>
   simp only[execOp,ha.ev hx,Sem.run_bind]
   rw[run_convert_bytes_string w src dst e _ _ _ (by rw[kz (P:=P) hs,NI]) (by rw[kz (P:=P) he,heu]) (by rw[kz (P:=P) NX,Hv])]
   rw[run_bytesToString w a1 _ _ [] (by simp[loadCells,loadCellsFrom])]
   simp[strOf]
   rfl
 ·have h1:=run_loadCells_list (P:=P) w ⟨b,o,none⟩ (bV bs) (fun j c hj=>by rw[Addr.add_eq];exact hc j c hj)
  rw[bN]at h1
  simp only[execOp,ha.ev hx,Sem.run_bind]
  rw[run_convert_bytes_string w src dst e _ _ _ (by rw[kz (P:=P) hs,NI]) (by rw[kz (P:=P) he,heu]) (by rw[kz (P:=P) NX,Hv])]
  rw[run_bytesToString w _ _ _ (bs.map fun x=>(x.toNat:Int)) (by rw[h1];simp[bV,u8]),foldl_push]
  simp[strOf]
def bj(b:Nat)(s:ByteArray)(e:TypeId)(cap:Nat):HP:=ak b (.cells (bytesRow s cap) e ((bytesRow s cap).size,(bytesRow s cap).size+1))
theorem Jt(b:Nat)(s:ByteArray)(e:TypeId)(cap gV:Nat):Vw (bj b s e cap) (.slice (some ⟨b,0,none⟩) s.size gV) s.size (bV s.data.toList):=by
 refine⟨_,gV,rfl,.inr ⟨b,0,rfl,fun h hA j c hj=>?_⟩⟩
 unfold eB
 rw[hA b,if_pos rfl]
 simp only[bytesRow,Nat.zero_add]
 grind [bV,u8]
theorem OG{src dst e:TypeId}{ts td te:Ty}{x:Operand}{s:ByteArray}(hd:Nat.blt d n=true)(hx:ev L x=some (.string s))(hs:U.get src=some ts)(NI:ts.gx = .string)(NX:U.get dst=some td)(Hv:td.gx = .slice e)(he:U.get e=some te)(heu:te.gx = .int .u8)(hS:∀b cap w,Sat G w (bj b s e cap::H)→Sx rest S w)(h:∀b cap,J P f n R G S all rest k ((d,.slice (some ⟨b,0,none⟩) s.size cap)::L) (bj b s e cap::H)):J P f n R G S all (.cons false true ⟨some d,.convert src dst x,ty,pos,af,gd⟩ rest) k L H:=by
 refine oe hd (fun u H1=>∃b cap,u = .slice (some ⟨b,0,none⟩) s.size cap∧H1=bj b s e cap::H) (fun a w ha hw=>?_) ?_ ?_
 ·refine⟨_,w.drew.alloc (.cells (bytesRow s (grownCap w s.size 0 e)) e ((bytesRow s (grownCap w s.size 0 e)).size,(bytesRow s (grownCap w s.size 0 e)).size+1)),_,?_,⟨w.heap.size,grownCap w s.size 0 e,rfl,rfl⟩,?_⟩
  ·have:=run_bytes_of_string (P:=P) w src dst e s (by rw[kz (P:=P) hs,NI]) (by rw[kz (P:=P) NX,Hv]) (by rw[kz (P:=P) he,heu])
   simp only[execOp,ha.ev hx,Sem.run_bind,this,Result.andThen_ok,Sem.run_pure]
  ·exact Sat.alloc (w:=w.drew) (hw.draw _) _
 ·grind
 grind
end
end Go.SL
namespace Go.SL
structure nF(P:Program)(kt:TypeId){κ:Type}(kv:κ→Value):Prop where
 inj:∀a b,kv a=kv b→a=b
 check:∀(e:Bool) (k:κ) (w:World),(Instr.checkKey e 10000 kt (kv k)).run P w = .ok () w
 find:∀(k:κ) (l:List MapEntry) (ks:List κ) (w:World),l.map (·.key)=ks.map kv →
  ∃r,(Instr.findKey kt (kv k) l).run P w = .ok r w ∧
   ((r=none∧k ∉ ks)∨∃i e,r=some (i,e.val)∧l[i]?=some e∧ks[i]?=some k∧∀j,j<i→ks[j]? ≠ some k)
 bits:∀k,Instr.sameBits 10000 (kv k) (kv k)=true
def findNow_spec{κ:Type}{kv:κ→Value}{kind:TypeDesc}[DecidableEq κ](hs:∀a b,Instr.sameNow kind (kv a) (kv b)=some (decide (a=b)))(k:κ) :
  ∀(l:List MapEntry) (ks:List κ) (o:Nat),l.map (·.key)=ks.map kv →
   ∃r,Instr.findNow kind (kv k) l o=some r∧((r=none∧k ∉ ks)∨∃i e,r=some (o+i,e.val)∧l[i]?=some e∧ks[i]?=some k∧∀j,j<i→ks[j]? ≠ some k):=by
 intro l
 induction l with
 | nil =>
  intro ks o h
  have:ks=[]:=by simpa using h.symm
  subst this
  exact⟨none,rfl,.inl ⟨rfl,by simp⟩⟩
 | cons e l ih =>
  intro ks o h
  cases ks with
  | nil=>simp at h
  | cons c ks =>
   simp only[List.map_cons,List.cons.injEq]at h
   obtain⟨h1,h2⟩:=h
   simp only[Instr.findNow,h1,hs]
   by_cases NQ:k=c
   ·subst NQ
    refine⟨_,by simp;rfl,.inr ⟨0,e,by simp,by simp,by simp,fun j hj=>absurd hj aj⟩⟩
   ·obtain⟨r,hr,g8⟩:=ih ks (o+1) h2
    refine⟨r,by simp[NQ,hr],?_⟩
    rcases g8 with⟨rfl,hn⟩|⟨i,e',rfl,hi,hk,hj⟩
    ·exact .inl ⟨rfl,by simp[NQ,hn]⟩
    ·refine .inr ⟨i+1,e',by congr 2;omega,by simpa using hi,by simpa using hk,fun j tP=>?_⟩
     cases j with
     | zero=>simp;exact fun h=>NQ h.symm
     | succ j=>simpa using hj j aj
theorem tY{P:Program}{kt:TypeId}{kind:TypeDesc}{κ:Type}[DecidableEq κ]{kv:κ→Value}(hu:P.underlying kt=some kind)(hs:∀a b,Instr.sameNow kind (kv a) (kv b)=some (decide (a=b)))(hk:(match kind with | .interface _=>false | .array _ _=>false | .struct _=>false|_=>true)=true)(inj:∀a b,kv a=kv b→a=b)(bits:∀k,Instr.sameBits 10000 (kv k) (kv k)=true):nF P kt kv where
 inj:=inj
 check:=fun e k w=>by
  unfold Instr.checkKey
  simp only[Sem.run_bind,underlying,run_program,Result.andThen_ok,hu,Sem.run_pure]
  cases kind <;> simp_all
 find:=fun k l ks w h=>by
  obtain⟨r,hr,g8⟩:=findNow_spec hs k l ks 0 h
  refine⟨r,?_,?_⟩
  ·simp only[Instr.findKey,Sem.run_bind,underlying,run_program,Result.andThen_ok,hu,Sem.run_pure,hr]
  grind
 bits:=bits
def adY(a b:ByteArray):(a == b)=decide (a=b):=by
 rw[Bool.eq_iff_iff]
 simp only[decide_eq_true_eq]
 constructor
 ·intro h
  have h1:(a.data == b.data)=true:=h
  cases a;cases b;simp at h1;rw[h1]
 ·rintro rfl
  show(a.data == a.data)=true
  simp
theorem lE{α β:Type}(g:α→β)(l:List α)(i:Nat):(l.eraseIdx i).map g=(l.map g).eraseIdx i:=by
 induction l generalizing i with
 | nil=>rfl
 | cons x l ih=>cases i <;> simp[ih]
def QP{P:Program}{kt:TypeId}(hu:P.underlying kt=some .string):nF P kt Value.string :=
 tY hu (fun a b=>by simp only[Instr.sameNow,adY]) rfl (fun a b h=>by cases h;rfl) (fun k=>by simp[Instr.sameBits,adY])
def EP{P:Program}{kt:TypeId}{j:IntKind}(hu:P.underlying kt=some (.int j)):nF P kt (Value.int j) :=
 tY hu (fun a b=>by simp only[Instr.sameNow,if_true,adX]) rfl (fun a b h=>by cases h;rfl) (fun k=>by simp[Instr.sameBits])
section
variable{κ:Type}[DecidableEq κ]
def fh(es:List (κ × Value))(k:κ):Option Value:=(es.find? fun x=>decide (x.1=k)).map (·.2)
def pC(es:List (κ × Value))(k:κ)(v:Value):List (κ × Value):=if k∈es.map (·.1)then es.map (fun x=>if x.1=k then(k,v)else x)else es++[(k,v)]
def wO(es:List (κ × Value))(k:κ):List (κ × Value):=es.filter fun x => !decide (x.1=k)
def BO{es:List (κ × Value)}{k:κ}:fh es k=none↔k ∉ es.map (·.1):=by
 unfold fh
 simp only[Option.map_eq_none_iff,List.find?_eq_none,decide_eq_true_eq,List.mem_map,not_exists,not_and]
theorem DZ{es:List (κ × Value)}{k:κ}{i:Nat}{v:Value}(hi:es[i]?=some (k,v))(hj:∀j,j<i→(es.map (·.1))[j]? ≠ some k):fh es k=some v:=by
 induction es generalizing i with
 | nil=>simp at hi
 | cons x es ih =>
  cases i with
  | zero=>simp at hi;subst hi;simp[fh]
  | succ i =>
   simp at hi
   have h0:=hj 0 aj
   grind [fh]
def rO(kv:κ→Value)(o:Obj)(es:List (κ × Value)):Prop :=
 ∃entries clock,o = .map entries clock∧entries.toList.map (fun e=>(e.key,e.val))=es.map (fun x=>(kv x.1,x.2))∧(es.map (·.1)).Nodup∧(∀e∈entries.toList,e.born<clock)∧(entries.toList.map (·.born)).Nodup
def aV(kv:κ→Value)(b:Nat)(es:List (κ × Value)):HP:=fun h=>∃o,rO kv o es∧ak b o h
def Sat.qv{G:cL}{w:World}{H:List HP}{kv:κ→Value}{b:Nat}{es:List (κ × Value)}(hs:Sat G w H){i:Nat}(hi:cD H i=some (aV kv b es)):∃o,rO kv o es∧w.heap[b]?=some o:=by
 obtain⟨h,hh,o,ho,hp⟩:=hs.kp hi
 exact⟨o,ho,hh b o (by rw[hp b];simp)⟩
def oW(kv:κ→Value)(b:Nat):∀h,ak b (.map #[] 0) h→aV kv b [] h:=fun h hp=>⟨_,⟨#[],0,rfl,rfl,by simp,by simp,by simp⟩,hp⟩
def JV{kv:κ→Value}{b:Nat}{es:List (κ × Value)}{h:Hp}(hm:aV kv b es h):(es.map (·.1)).Nodup:=by
 obtain⟨o,⟨_,_,_,_,hn,_⟩,_⟩:=hm;exact hn
def Sat.ED{G:cL}{w:World}{H H':List HP}{kv:κ→Value}{b:Nat}{es es':List (κ × Value)}{o':Obj}{i:Nat}(hs:Sat G w H)(hi:cD H i=some (aV kv b es))(hm:rO kv o' es')(hp:mE i (aV kv b es') H [] = .mk H') :
  Sat G { w with heap:=w.heap.setIfInBounds b o' } H':=by
 have zI:=hs.cI (aq.perm (dN (by rw[← ed];exact hi)))
 obtain⟨hT,hO,Uv,hh,eg,h1,h2,⟨o,ho,Bc⟩,hB,hd,hj⟩:=zI
 have vt:Sat G w (ak b o::H.eraseIdx i):=⟨hT,hO,Uv,hh,eg,h1,h2,Bc,hB,hd,hj⟩
 have h3:=vt.Es (o':=o')
 have h4:=sU i _ _ H [] H' hp hi
 refine(h3.cI ?_).cI (aq.perm (by simpa using h4.symm))
 exact aq.fold (B:=[_]) fun h hs=>⟨h,sub.refl h,o',hm,eO hs⟩
end
section
variable{P:Program}{U:Tr}[hU:gF P U]{f:FuncId}{n:Nat}{R:Ending→World→Prop}{G:cL}{k:List Item}{L:gh}{H H':List HP}{S:World→Prop}{all:Array Oper}{rest:Pl}{ty:TypeId}{pos:String}{af:Array Edge}{gd:Option (Nat × Bool)}{m:Bool}{d:Tmp}
variable{κ:Type}[DecidableEq κ]{kv:κ→Value}
def run_getObj_map{w:World}{b:Nat}{es:Array MapEntry}{c:Nat}(h:w.heap[b]?=some (.map es c)):(getObj b).run P w = .ok (.map es c) w:=by
 simp[getObj,Sem.run,h]
theorem qa{t kt et:TypeId}{cd te:Ty}{z:Value}{b:Nat}{es:List (κ × Value)}{key:κ}{o:Obj}{w:World}(c:Bool)(Cv:nF P kt kv)(ht:U.get t=some cd)(hu:cd.gx = .map kt et)(he:U.get et=some te)(hz:te.info.zero=some z)(hm:rO kv o es)(hb:w.heap[b]?=some o) :
  (Instr.lookup t (.map (some b)) (kv key) c).run P w = .ok (if c then .tuple #[(fh es key).getD z,.bool (fh es key).isSome]else(fh es key).getD z) w:=by
 obtain⟨entries,clock,rfl,tR,lq,ug,DG⟩:=hm
 have hks:entries.toList.map (·.key)=(es.map (·.1)).map kv:=by
  have:=congrArg (List.map (·.1)) tR
  simpa[Function.comp_def]using this
 obtain⟨r,hr,g8⟩:=Cv.find key entries.toList (es.map (·.1)) w hks
 unfold Instr.lookup
 simp only[Sem.run_bind,run_underlying ht,Result.andThen_ok,hu,run_getObj_map hb,Sem.run_pure,Cv.check,hr]
 rcases g8 with⟨rfl,hn⟩|⟨i,e,rfl,hi,hk,hj⟩
 ·have:=BO.2 hn
  simp only[Sem.run_bind,ej he hz,Result.andThen_ok,Sem.run_pure,this]
  cases c <;> rfl
 ·have hv:es[i]?=some (key,e.val):=by
   have h1:=congrArg (·[i]?) tR
   grind
  have:=DZ hv hj
  simp_all
def Sv{t kt et:TypeId}{cd te:Ty}{z:Value}{x y:Operand}{b:Nat}{es:List (κ × Value)}{key:κ}{rS:Value}(i:Nat)(hd:Nat.blt d n=true)(Cv:nF P kt kv)(hx:ev L x=some (.map (some b)))(hy:ev L y=some rS)(Rn:rS=kv key)(ht:U.get t=some cd)(hu:cd.gx = .map kt et)(he:U.get et=some te)(hz:te.info.zero=some z)(hi:cD H i=some (aV kv b es))(h:J P f n R G S all rest k ((d,(fh es key).getD z)::L) H):J P f n R G S all (.cons false true ⟨some d,.lookup t x y false,ty,pos,af,gd⟩ rest) k L H :=
 kR hd (fun a w ha hw=>by
  obtain⟨o,hm,hb⟩:=hw.qv hi
  subst Rn
  simp[execOp,ha.ev hx,ha.ev hy,qa (P:=P) (key:=key) false Cv ht hu he hz hm hb]) h
def sE{t kt et:TypeId}{cd te:Ty}{z:Value}{x y:Operand}{b:Nat}{es:List (κ × Value)}{key:κ}{rS:Value}(hd:Nat.blt d n=true)(Cv:nF P kt kv)(hx:ev L x=some (.map (some b)))(hy:ev L y=some rS)(Rn:rS=kv key)(ht:U.get t=some cd)(hu:cd.gx = .map kt et)(he:U.get et=some te)(hz:te.info.zero=some z)(hi:∀w,Sat G w H→∃o,rO kv o es∧w.heap[b]?=some o)(h:J P f n R G S all rest k ((d,.tuple #[(fh es key).getD z,.bool (fh es key).isSome])::L) H):J P f n R G S all (.cons false true ⟨some d,.lookup t x y true,ty,pos,af,gd⟩ rest) k L H :=
 kR hd (fun a w ha hw=>by
  obtain⟨o,hm,hb⟩:=hi w hw
  subst Rn
  simp[execOp,ha.ev hx,ha.ev hy,qa (P:=P) (key:=key) true Cv ht hu he hz hm hb]) h
def D8{t kt et:TypeId}{cd te:Ty}{z:Value}{x y:Operand}{b:Nat}{es:List (κ × Value)}{key:κ}{rS:Value}(hd:Nat.blt d n=true)(Cv:nF P kt kv)(hx:ev L x=some (.map (some b)))(hy:ev L y=some rS)(Rn:rS=kv key)(ht:U.get t=some cd)(hu:cd.gx = .map kt et)(he:U.get et=some te)(hz:te.info.zero=some z)(hi:∀w,S w→∃o,rO kv o es∧w.heap[b]?=some o)(h:J P f n R G S all rest k ((d,(fh es key).getD z)::L) H):J P f n R G S all (.cons true true ⟨some d,.lookup t x y false,ty,pos,af,gd⟩ rest) k L H :=
 mK hd (fun a w ha hw=>by
  obtain⟨o,hm,hb⟩:=hi w hw
  subst Rn
  simp[execOp,ha.ev hx,ha.ev hy,qa (P:=P) (key:=key) false Cv ht hu he hz hm hb]) h
def sD{t kt et:TypeId}{cd te:Ty}{z:Value}{x y:Operand}{b:Nat}{es:List (κ × Value)}{key:κ}{rS:Value}(hd:Nat.blt d n=true)(Cv:nF P kt kv)(hx:ev L x=some (.map (some b)))(hy:ev L y=some rS)(Rn:rS=kv key)(ht:U.get t=some cd)(hu:cd.gx = .map kt et)(he:U.get et=some te)(hz:te.info.zero=some z)(hi:∀w,S w→∃o,rO kv o es∧w.heap[b]?=some o)(h:J P f n R G S all rest k ((d,.tuple #[(fh es key).getD z,.bool (fh es key).isSome])::L) H):J P f n R G S all (.cons true true ⟨some d,.lookup t x y true,ty,pos,af,gd⟩ rest) k L H :=
 mK hd (fun a w ha hw=>by
  obtain⟨o,hm,hb⟩:=hi w hw
  subst Rn
  simp[execOp,ha.ev hx,ha.ev hy,qa (P:=P) (key:=key) true Cv ht hu he hz hm hb]) h
theorem QF{entries:Array MapEntry}{clock:Nat}{es:List (κ × Value)}{key:κ}{v:Value}{i:Nat}{e:MapEntry}(hm:rO kv (.map entries clock) es)(hi:entries.toList[i]?=some e)(hk:(es.map (·.1))[i]?=some key) :
  rO kv (.map (entries.modify i fun e=>{ e with key:=kv key,val:=v }) clock) (pC es key v):=by
 obtain⟨wF,Fj,heq,tR,lq,ug,DG⟩:=hm
 cases heq
 have fk:key∈es.map (·.1):=List.mem_of_getElem? hk
 have aan:(entries.modify i fun e=>{ e with key:=kv key,val:=v }).toList=entries.toList.modify i (fun e=>{ e with key:=kv key,val:=v }):=by simp
 refine⟨_,clock,rfl,?_,?_,?_,?_⟩
 ·rw[aan]
  apply List.ext_getElem?
  intro j
  have hj:=congrArg (·[j]?) tR
  simp only[List.getElem?_map]at hj
  simp only[pC,fk,if_true,List.getElem?_map,List.getElem?_modify]
  cases hx:es[j]? with
  | none =>
   grind
  | some x =>
   rw[hx]at hj
   simp only[Option.map_some]at hj
   cases hy:entries.toList[j]? with
   | none=>rw[hy]at hj;cases hj
   | some y =>
    rw[hy]at hj
    simp only[Option.map_some,Option.some.injEq,Prod.mk.injEq]at hj
    by_cases L1:i=j
    ·grind
    ·have dw:x.1≠key:=fun hxk=>by
      have h1:(es.map (·.1))[j]?=some key:=by simp[hx,hxk]
      exact L1 ((List.getElem?_inj (by
       rcases Nat.lt_or_ge i (es.map (·.1)).length with h|h
       ·exact h
       ·rw[List.getElem?_eq_none h]at hk;cases hk) lq).1 (hk.trans h1.symm))
     grind
 ·grind [pC]
 ·intro e' NW
  rw[aan]at NW
  obtain⟨j,hj⟩:=List.getElem?_of_mem NW
  grind
 ·rw[aan]
  have:(entries.toList.modify i (fun e=>{ e with key:=kv key,val:=v })).map (·.born)=entries.toList.map (·.born):=by
   apply List.ext_getElem?
   grind
  grind
theorem Ns{entries:Array MapEntry}{clock:Nat}{es:List (κ × Value)}{key:κ}{v:Value}(hm:rO kv (.map entries clock) es)(hn:key ∉ es.map (·.1)) :
  rO kv (.map (entries.push { key:=kv key,val:=v,born:=clock }) (clock+1)) (pC es key v):=by
 obtain⟨wF,Fj,heq,tR,lq,ug,DG⟩:=hm
 cases heq
 refine⟨_,clock+1,rfl,?_,?_,?_,?_⟩
 ·simp[pC,hn,tR]
 ·grind [pC]
 ·grind
 grind
theorem Jw{t kt et:TypeId}{cd:Ty}{b:Nat}{es:List (κ × Value)}{key:κ}{v:Value}{w:World}{i:Nat}(Cv:nF P kt kv)(ht:U.get t=some cd)(hu:cd.gx = .map kt et)(hw:Sat G w H)(hi:cD H i=some (aV kv b es))(hp:mE i (aV kv b (pC es key v)) H [] = .mk H') :
  ∃w',(Instr.mapUpdate t (.map (some b)) (kv key) v).run P w = .ok () w'∧Sat G w' H':=by
 obtain⟨o,hm,hb⟩:=hw.qv hi
 have yZ:=hm
 obtain⟨entries,clock,rfl,tR,lq,ug,DG⟩:=hm
 have hks:entries.toList.map (·.key)=(es.map (·.1)).map kv:=by
  have:=congrArg (List.map (·.1)) tR
  simpa[Function.comp_def]using this
 obtain⟨r,hr,g8⟩:=Cv.find key entries.toList (es.map (·.1)) w hks
 have nM:∀o',(setObj b o').run P w = .ok () { w with heap:=w.heap.setIfInBounds b o' }:=fun o'=>by simp[setObj,Sem.run,hb]
 rcases g8 with⟨rfl,hn⟩|⟨j,e,rfl,hj,hk,dk⟩
 ·refine⟨_,?_,hw.ED hi (Ns (v:=v) yZ hn) hp⟩
  unfold Instr.mapUpdate
  simp only[Sem.run_bind,run_underlying ht,Result.andThen_ok,hu,run_getObj_map hb,Cv.check,hr,nM]
 ·refine⟨_,?_,hw.ED hi (QF (v:=v) yZ hj hk) hp⟩
  have hek:e.key=kv key:=by
   have h1:=congrArg (·[j]?) hks
   grind
  have tP:entries[j]?=some e:=by simpa using hj
  unfold Instr.mapUpdate
  simp only[Sem.run_bind,run_underlying ht,Result.andThen_ok,hu,run_getObj_map hb,Cv.check,hr,tP,Option.map_some,Option.getD_some,hek,Instr.keyThatStays,Cv.bits,if_true,Sem.run_pure,nM]
def Ix{t kt et:TypeId}{cd:Ty}{x y v0:Operand}{b:Nat}{es:List (κ × Value)}{key:κ}{rS v:Value}(i:Nat)(Cv:nF P kt kv)(hS:∀w,Sat G w H'→Sx rest S w)(hx:ev L x=some (.map (some b)))(hy:ev L y=some rS)(Rn:rS=kv key)(hv:ev L v0=some v)(ht:U.get t=some cd)(hu:cd.gx = .map kt et)(hi:cD H i=some (aV kv b es))(hp:mE i (aV kv b (pC es key v)) H [] = .mk H')(h:J P f n R G S all rest k L H'):J P f n R G S all (.cons false true ⟨none,.mapUpdate t x y v0,ty,pos,af,gd⟩ rest) k L H:=by
 refine SD (fun H1=>H1=H') (fun a w ha hw=>?_) (fun H1 w e hw=>hS w (e ▸ hw)) (fun H1 e=>e ▸ h)
 subst Rn
 obtain⟨w',hr,hs⟩:=Jw (P:=P) Cv ht hu hw hi hp
 exact⟨w',H',by simp[execOp,ha.ev hx,ha.ev hy,ha.ev hv,hr],rfl,hs⟩
theorem E8{es:List (κ × Value)}{key:κ}:∀ {i:Nat},(es.map (·.1)).Nodup→(es.map (·.1))[i]?=some key→wO es key=es.eraseIdx i:=by
 induction es with
 | nil=>intro i _ h;simp at h
 | cons x es ih =>
  intro i lq hk
  simp only[List.map_cons,List.nodup_cons]at lq
  cases i with
  | zero =>
   simp at hk
   subst hk
   simp only[wO,decide_true,Bool.not_true,List.filter_cons,Bool.false_eq_true,if_false,List.eraseIdx_cons_zero]
   apply List.filter_eq_self.2
   grind
  | succ i =>
   grind [wO]
theorem Ot{es:List (κ × Value)}{key:κ}(h:key ∉ es.map (·.1)):wO es key=es:=by
 apply List.filter_eq_self.2
 grind
theorem QG{entries:Array MapEntry}{clock:Nat}{es:List (κ × Value)}{key:κ}{i:Nat}{e:MapEntry}(hm:rO kv (.map entries clock) es)(hi:entries.toList[i]?=some e)(hk:(es.map (·.1))[i]?=some key) :
  rO kv (.map (entries.eraseIdxIfInBounds i) clock) (wO es key):=by
 obtain⟨wF,Fj,heq,tR,lq,ug,DG⟩:=hm
 cases heq
 have tq:(entries.eraseIdxIfInBounds i).toList=entries.toList.eraseIdx i:=by simp
 rw[E8 lq hk]
 refine⟨_,clock,rfl,?_,?_,?_,?_⟩
 ·grind [lE]
 ·grind
 ·grind
 grind
def Sy{t kt et:TypeId}{cd:Ty}{x y:Operand}{t2:TypeId}{b:Nat}{es:List (κ × Value)}{key:κ}{rS:Value}(i:Nat)(Cv:nF P kt kv)(hS:∀w,Sat G w H'→Sx rest S w)(hx:ev L x=some (.map (some b)))(hy:ev L y=some rS)(Rn:rS=kv key)(ht:U.get t=some cd)(hu:cd.gx = .map kt et)(hi:cD H i=some (aV kv b es))(hp:mE i (aV kv b (wO es key)) H [] = .mk H')(h:J P f n R G S all rest k L H'):J P f n R G S all (.cons false true ⟨none,.call { callee := .builtin .delete,args := #[x,y],argTypes := #[t,t2] },ty,pos,af,gd⟩ rest) k L H:=by
 intro a w ha hw _
 subst Rn
 obtain⟨o,hm,hb⟩:=hw.qv hi
 have yZ:=hm
 obtain⟨entries,clock,rfl,tR,lq,ug,DG⟩:=hm
 have hks:entries.toList.map (·.key)=(es.map (·.1)).map kv:=by
  have:=congrArg (List.map (·.1)) tR
  simpa[Function.comp_def]using this
 obtain⟨r,hr,g8⟩:=Cv.find key entries.toList (es.map (·.1)) w hks
 have nM:∀o',(setObj b o').run P w = .ok () { w with heap:=w.heap.setIfInBounds b o' }:=fun o'=>by simp[setObj,Sem.run,hb]
 refine .inl ⟨.inl rfl,.inr ⟨rfl,?_⟩⟩
 rcases g8 with⟨rfl,hn⟩|⟨j,e,rfl,hj,hk,dk⟩
 ·have hs:=hw.ED hi (o' := .map entries clock) (es':=wO es key) (by rw[Ot hn];exact yZ) hp
  have:(execOp a.eval ⟨none,.call { callee := .builtin .delete,args := #[x,y],argTypes := #[t,t2] },ty,pos,af,gd⟩).run P w = .ok (.value (.tuple #[])) { w with heap:=w.heap.setIfInBounds b (.map entries clock) }:=by
   simp only[execOp,resolve,invoke,builtin,Sem.run_bind,Sem.run_pure,Result.andThen_ok,List.map_toArray,List.map_cons,List.map_nil,ha.ev hx,ha.ev hy,Builtin.delete_,List.getElem?_toArray,List.getElem?_cons_zero,List.getElem?_cons_succ,
    run_underlying ht,hu,run_getObj_map hb,Cv.check,hr,nM]
  exact iC this ⟨hS _ hs,h a _ ha hs (hS _ hs)⟩
 ·have hs:=hw.ED hi (QG yZ hj hk) hp
  have:(execOp a.eval ⟨none,.call { callee := .builtin .delete,args := #[x,y],argTypes := #[t,t2] },ty,pos,af,gd⟩).run P w = .ok (.value (.tuple #[])) { w with heap:=w.heap.setIfInBounds b (.map (entries.eraseIdxIfInBounds j) clock) }:=by
   simp only[execOp,resolve,invoke,builtin,Sem.run_bind,Sem.run_pure,Result.andThen_ok,List.map_toArray,List.map_cons,List.map_nil,ha.ev hx,ha.ev hy,Builtin.delete_,List.getElem?_toArray,List.getElem?_cons_zero,List.getElem?_cons_succ,
    run_underlying ht,hu,run_getObj_map hb,Cv.check,hr,nM]
  exact iC this ⟨hS _ hs,h a _ ha hs (hS _ hs)⟩
def Jx{t kt et:TypeId}{cd:Ty}{b:Nat}{es:List (κ × Value)}{o:Obj}{w:World}{rty:TypeId}(ht:U.get t=some cd)(hu:cd.gx = .map kt et)(hm:rO kv o es)(hb:w.heap[b]?=some o) :
  (Builtin.len_ #[t] rty #[.map (some b)]).run P w = .ok (.int .i64 es.length) w:=by
 obtain⟨entries,clock,rfl,tR,lq,ug,DG⟩:=hm
 have hl:entries.size=es.length:=by have:=congrArg List.length tR;simpa using this
 simp[Builtin.len_,run_underlying ht,hu,run_getObj_map hb,goInt,hl]
def OM{t kt et:TypeId}{cd:Ty}{x:Operand}{b:Nat}{es:List (κ × Value)}(hd:Nat.blt d n=true)(hx:ev L x=some (.map (some b)))(ht:U.get t=some cd)(hu:cd.gx = .map kt et)(hi:∀w,Sat G w H→∃o,rO kv o es∧w.heap[b]?=some o)(h:J P f n R G S all rest k ((d,.int .i64 es.length)::L) H):J P f n R G S all (.cons false true ⟨some d,.call { callee := .builtin .len,args := #[x],argTypes := #[t] },ty,pos,af,gd⟩ rest) k L H :=
 kR hd (fun a w ha hw=>by
  obtain⟨o,hm,hb⟩:=hi w hw
  simp[execOp,resolve,invoke,builtin,ha.ev hx,Jx (P:=P) ht hu hm hb]) h
def bX(kv:κ→Value)(b it:Nat)(es:List (κ × Value))(done:List κ):HP:=fun h =>
 ∃entries clock seen,rO kv (.map entries clock) es∧(∀(i:Nat) (e:MapEntry) (x:κ × Value),entries.toList[i]?=some e→es[i]?=some x→(seen.contains e.born=true↔x.1∈done)) ∧
  (∀key,done.head?=some key→∃e∈entries.toList,e.key=kv key∧seen.back?=some e.born) ∧
  star (ak b (.map entries clock)) (ak it (.mapIter (some b) clock seen clock)) h
def sZ{b it:Nat}{es:List (κ × Value)}{done:List κ}:∀h,bX kv b it es done h→∃h',sub h' h∧aV kv b es h':=by
 rintro h⟨entries,clock,seen,hm,_,_,hs⟩
 obtain⟨h',s,hp⟩:=jY hs
 exact⟨h',s,_,hm,hp⟩
theorem zS{t kt et:TypeId}{cd:Ty}{x:Operand}{b:Nat}{es:List (κ × Value)}(i:Nat)(hd:Nat.blt d n=true)(hx:ev L x=some (.map (some b)))(ht:U.get t=some cd)(hu:cd.gx = .map kt et)(hi:cD H i=some (aV kv b es)){Hf:Nat→List HP}(hp:∀it,mE i (bX kv b it es []) H [] = .mk (Hf it))(hS:∀it w,Sat G w (Hf it)→Sx rest S w)(h:∀it,J P f n R G S all rest k ((d,.pointer (some ⟨it,0,none⟩))::L) (Hf it)):J P f n R G S all (.cons false true ⟨some d,.range t x,ty,pos,af,gd⟩ rest) k L H:=by
 refine oe hd (fun u H1=>∃it,u = .pointer (some ⟨it,0,none⟩)∧H1=Hf it) (fun a w ha hw=>?_) ?_ ?_
 ·obtain⟨o,hm,hb⟩:=hw.qv hi
  have zI:=hw.cI (aq.perm (dN (by rw[← ed];exact hi)))
  obtain⟨hT,hO,Uv,hh,eg,h1,h2,⟨o',ho',Bc⟩,hB,hdj,hj⟩:=zI
  have hoo:o'=o:=by
   have:w.heap[b]?=some o':=eg b o' (by rw[hj b,Bc b];simp)
   grind
  subst hoo
  have vt:Sat G w (ak b o'::H.eraseIdx i):=⟨hT,hO,Uv,hh,eg,h1,h2,Bc,hB,hdj,hj⟩
  obtain⟨entries,clock,rfl,nW⟩:=hm
  refine⟨_,{ w with heap:=w.heap.push (.mapIter (some b) clock #[] clock) },Hf w.heap.size,?_,⟨w.heap.size,rfl,rfl⟩,?_⟩
  ·simp only[execOp,ha.ev hx,Instr.range,Sem.run_bind,run_underlying ht,Result.andThen_ok,hu,run_getObj_map hb,Sem.run_pure,run_newObj]
  ·have h3:=vt.alloc (.mapIter (some b) clock #[] clock)
   have h4:=sU i _ _ H [] (Hf w.heap.size) (hp _) hi
   refine(h3.cI ?_).cI (aq.perm (by simpa using h4.symm))
   refine(aq.perm (List.Perm.swap _ _ _)).trans ?_
   refine aq.fold (B:=[_,_]) fun h hs=>⟨h,sub.refl h,entries,clock,#[],⟨entries,clock,rfl,nW⟩,fun i e x _ _=>by simp,by simp,?_⟩
   exact fm (fun _ h=>h) (fun _ h=>eO h) hs
 ·grind
 grind
theorem zW{x:Operand}{b it:Nat}{es:List (κ × Value)}{done:List κ}{key:κ}{v:Value}(i:Nat)(hd:Nat.blt d n=true)(adu:∀a b,kv a=kv b→a=b)(hx:ev L x=some (.pointer (some ⟨it,0,none⟩)))(hi:cD H i=some (bX kv b it es (key::done)))(hv:(key,v)∈es)(h:J P f n R G S all rest k ((d,.tuple #[kv key,v])::L) H):J P f n R G S all (.cons false true ⟨some d,.entry x,ty,pos,af,gd⟩ rest) k L H :=
 kR hd (fun a w ha hw=>by
  have zI:=hw.cI (aq.perm (dN (by rw[← ed];exact hi)))
  obtain⟨hT,hO,Uv,hh,eg,h1,h2,hA,hB,hdj,hj⟩:=zI
  obtain⟨entries,clock,seen,hm,VC,lV,h3,h4,nN,NR,Un,O5⟩:=hA
  have hb:w.heap[b]?=some (.map entries clock):=eg b _ (by rw[hj b,O5 b,nN b];simp)
  have NS:w.heap[it]?=some (.mapIter (some b) clock seen clock):=by
   refine eg it _ ?_
   rw[hj it,O5 it,NR it]
   rcases Un it with e|e
   ·rw[e];simp
   ·rw[NR it]at e;simp at e
  obtain⟨wF,Fj,heq,tR,lq,ug,DG⟩:=hm
  cases heq
  have hgm:=run_getObj_map (P:=P) hb
  have VW:(getObj it).run P w = .ok (.mapIter (some b) clock seen clock) w:=by simp[getObj,Sem.run,NS]
  obtain⟨e,he,hek,jo⟩:=lV key rfl
  -- the cell's value
  obtain⟨j,I3⟩:=List.getElem?_of_mem he
  have hev:e.val=v:=by
   have h6:=congrArg (·[j]?) tR
   simp only[List.getElem?_map,I3,Option.map_some]at h6
   cases Hc:es[j]? with
   | none=>rw[Hc]at h6;cases h6
   | some x2 =>
    rw[Hc]at h6
    simp only[Option.map_some,Option.some.injEq,Prod.mk.injEq]at h6
    have hkk:x2.1=key:=adu _ _ (h6.1.symm.trans hek)
    obtain⟨j2,aau⟩:=List.getElem?_of_mem hv
    have UC:(es.map (·.1))[j]?=(es.map (·.1))[j2]? := by simp only[List.getElem?_map,Hc,aau,Option.map_some,hkk]
    have h12:j=j2:=(List.getElem?_inj (by
     have:j<es.length:=by
      grind
     rw[List.length_map];exact this) lq).1 UC
    grind
  have L3:entries.find? (fun x=>x.born == e.born)=some e:=by
   rw[← Array.find?_toList]
   cases hf:entries.toList.find? (fun x=>x.born == e.born)with
   | none=>have:=List.find?_eq_none.1 hf e he;simp at this
   | some e2 =>
    have h1:=List.find?_some hf
    have h2:=List.mem_of_find?_eq_some hf
    simp only[beq_iff_eq]at h1
    obtain⟨j2,aau⟩:=List.getElem?_of_mem h2
    have UC:(entries.toList.map (·.born))[j2]?=(entries.toList.map (·.born))[j]? := by simp only[List.getElem?_map,I3,aau,Option.map_some,h1]
    have h12:j2=j:=(List.getElem?_inj (by
     have:j2<entries.toList.length:=by
      grind
     rw[List.length_map];exact this) DG).1 UC
    grind
  simp only[execOp,ha.ev hx,Instr.entry,Sem.run_bind,VW,hgm,Result.andThen_ok,jo,L3,Sem.run_pure,hek,hev,bne_self_eq_false,Bool.false_eq_true,if_false]) h
theorem FI{x:Operand}{b it:Nat}{es:List (κ × Value)}{done:List κ}(i:Nat)(hd:Nat.blt d n=true)(adu:∀a b,kv a=kv b→a=b)(hx:ev L x=some (.pointer (some ⟨it,0,none⟩)))(hi:cD H i=some (bX kv b it es done)){Hf:κ→List HP}(hp:∀key,mE i (bX kv b it es (key::done)) H [] = .mk (Hf key))(hS0:∀w,Sat G w H→Sx rest S w)(hS:∀key w,Sat G w (Hf key)→Sx rest S w)(eA:(∀y∈es,y.1∈done)→J P f n R G S all rest k ((d,.tuple #[.bool false])::L) H)(hgo:∀key v,(key,v)∈es→key ∉ done→J P f n R G S all rest k ((d,.tuple #[.bool true,kv key,v])::L) (Hf key)) :
  J P f n R G S all (.cons false true ⟨some d,.next x false,ty,pos,af,gd⟩ rest) k L H:=by
 intro a w ha hw _
 refine .inl ⟨.inl rfl,.inr ⟨rfl,?_⟩⟩
 have zI:=hw.cI (aq.perm (dN (by rw[← ed];exact hi)))
 obtain⟨hT,hO,Uv,hh,eg,h1,h2,hA,hB,hdj,hj⟩:=zI
 obtain⟨entries,clock,seen,hm,VC,_,h3,h4,nN,NR,Un,O5⟩:=hA
 have hb:w.heap[b]?=some (.map entries clock):=eg b _ (by rw[hj b,O5 b,nN b];simp)
 have NS:w.heap[it]?=some (.mapIter (some b) clock seen clock):=by
  refine eg it _ ?_
  rw[hj it,O5 it,NR it]
  rcases Un it with e|e
  ·rw[e];simp
  ·rw[NR it]at e;simp at e
 obtain⟨wF,Fj,heq,tR,lq,ug,DG⟩:=hm
 cases heq
 have hgm:=run_getObj_map (P:=P) hb
 have VW:(getObj it).run P w = .ok (.mapIter (some b) clock seen clock) w:=by simp[getObj,Sem.run,NS]
 have fH:(!seen.isEmpty && !entries.isEmpty && entries.all (·.born≥clock))=false:=by
  cases he:entries.isEmpty with
  | true=>simp
  | false =>
   have dw:entries.toList≠[]:=by simpa[Array.isEmpty_iff]using he
   obtain⟨e,l,tq⟩:=List.exists_cons_of_ne_nil dw
   grind
 have hold:∀(l:Array MapEntry),(∀e∈l.toList,e∈entries.toList)→l.filter (·.born<clock)=l∧l.filter (·.born≥clock) = #[]:=by
  simp_all
 have VS:=hold (entries.filter fun e => !seen.contains e.born) (fun e he=>by simp at he;simpa using he.1)
 -- the entry that comes, if one does
 have adg:∀e,e∈entries.toList→∃(j:Nat) (x:κ × Value),entries.toList[j]?=some e∧es[j]?=some x∧x∈es∧e.key=kv x.1∧e.val=x.2∧(seen.contains e.born=true↔x.1∈done):=by
  intro e he
  obtain⟨j,I3⟩:=List.getElem?_of_mem he
  have h6:=congrArg (·[j]?) tR
  grind
 have acP:∀x,x∈es→∃e,e∈entries.toList∧e.key=kv x.1∧(seen.contains e.born=true↔x.1∈done):=by
  intro x2 Hc
  obtain⟨j,I3⟩:=List.getElem?_of_mem Hc
  have h6:=congrArg (·[j]?) tR
  grind
 have acZ:(execOp a.eval ⟨some d,.next x false,ty,pos,af,gd⟩)=(do let v ← Instr.next (.pointer (some ⟨it,0,none⟩)) false ty;pure (.value v)):=by simp only[execOp,ha.ev hx]
 refine mX (fun c hc=>by cases hc) rfl ?_
 rw[acZ]
 simp only[Sem.run_bind,Instr.next,VW,Result.andThen_ok,hgm,fH,Bool.false_eq_true,if_false,VS.1,VS.2,Array.append_empty]
 by_cases Kf:(entries.filter fun e => !seen.contains e.born).isEmpty=true
 ·have he:(entries.filter fun e => !seen.contains e.born) = #[]:=Array.isEmpty_iff.1 Kf
  have adF:∀y∈es,y.1∈done:=by
   intro y hy
   obtain⟨e,hem,_,Ug⟩:=acP y hy
   simp_all
  have:=eA adF
  simp only[he,Array.isEmpty_empty,if_true,Array.map_empty,Array.append_empty,Sem.run_bind,run_choose]
  simp only[Question.forced,List.size_toArray,List.length_singleton,Nat.le_refl,decide_true,if_true,Result.andThen_ok,List.getElem?_toArray,List.getElem?_cons_zero,Sem.run_pure]
  exact⟨hS0 w hw,this _ w (ha.put hd _) hw (hS0 w hw)⟩
 ·have adD:(entries.filter fun e => !seen.contains e.born).isEmpty=false:=by simpa using Kf
  obtain⟨q,w1,hq,Ds,Ur⟩:∃q w1,q<(entries.filter fun e => !seen.contains e.born).size∧(w1=w∨w1=w.drew) ∧
    (choose (.mapNext ((entries.filter fun e => !seen.contains e.born).map some).size)).run P w = .ok q w1:=by
   have kY:0<(entries.filter fun e => !seen.contains e.born).size:=by
    grind
   simp only[run_choose,Array.size_map]
   by_cases hf:(Question.mapNext (entries.filter fun e => !seen.contains e.born).size).forced=true
   ·exact⟨0,w,kY,.inl rfl,by rw[if_pos hf]⟩
   ·exact⟨_,w.drew,Nat.mod_lt _ kY,.inr rfl,by rw[if_neg hf];rfl⟩
  have Kd:((entries.filter fun e => !seen.contains e.born).map some)[q]?=some (some (entries.filter fun e => !seen.contains e.born)[q]):=by simp[hq]
  generalize hE:(entries.filter fun e => !seen.contains e.born)[q]=e at Kd
  have VQ:e∈(entries.filter fun e => !seen.contains e.born):=by rw[← hE];exact Array.getElem_mem hq
  simp only[Array.mem_filter]at VQ
  obtain⟨aap,Rh⟩:=VQ
  obtain⟨i3,x2,hi3,hx3,Hc,Ch,rl,adv⟩:=adg e (by simpa using aap)
  have ae1:x2.1 ∉ done:=fun h=>by have:=adv.2 h;rw[this]at Rh;cases Rh
  have adx:=hgo x2.1 x2.2 Hc ae1
  simp only[adD,Bool.false_eq_true,if_false,Array.empty_append,Sem.run_bind]
  rw[Ur]
  have nM:(setObj it (.mapIter (some b) clock (seen.push e.born) clock)).run P w1 = .ok () { w1 with heap:=w1.heap.setIfInBounds it (.mapIter (some b) clock (seen.push e.born) clock) }:=by
   have:w1.heap[it]?=some (.mapIter (some b) clock seen clock):=by rcases Ds with rfl|rfl <;> exact NS
   simp[setObj,Sem.run,this]
  simp only[Result.andThen_ok,Kd,Sem.run_bind,nM,Sem.run_pure,Ch,rl]
  have J4:Sat G { w1 with heap:=w1.heap.setIfInBounds it (.mapIter (some b) clock (seen.push e.born) clock) } (Hf x2.1):=by
   have aex:Sat G w1 (ak it (.mapIter (some b) clock seen clock)::ak b (.map entries clock)::H.eraseIdx i):=by
    have h7:Sat G w (ak it (.mapIter (some b) clock seen clock)::ak b (.map entries clock)::H.eraseIdx i):=by
     refine⟨hT,hO,Uv,hh,eg,?_⟩
     have h8:star (star (ak b (.map entries clock)) (ak it (.mapIter (some b) clock seen clock))) (Sep (H.eraseIdx i)) hh:=⟨h1,h2,⟨h3,h4,nN,NR,Un,O5⟩,hB,hdj,hj⟩
     exact CV (jZ h8)
    rcases Ds with rfl|rfl
    ·exact h7
    ·exact h7.draw _
   have h9:=aex.Es (o' := .mapIter (some b) clock (seen.push e.born) clock)
   have h10:=sU i _ _ H [] (Hf x2.1) (hp _) hi
   refine(h9.cI ?_).cI (aq.perm (by simpa using h10.symm))
   refine(aq.perm (List.Perm.swap _ _ _)).trans ?_
   refine aq.fold (B:=[_,_]) fun h hs=>⟨h,sub.refl h,entries,clock,seen.push e.born,⟨entries,clock,rfl,tR,lq,ug,DG⟩,?_,?_,?_⟩
   ·intro i2 e2 y2 Hu J1
    have ac6:=VC i2 e2 y2 Hu J1
    simp only[Array.contains_eq_mem,Array.mem_push,decide_eq_true_eq,List.mem_cons]at ac6 ⊢
    constructor
    ·rintro(h|h)
     ·grind
     ·left
      -- the borns are one, so the entries are
      have UC:(entries.toList.map (·.born))[i2]?=(entries.toList.map (·.born))[i3]? := by simp only[List.getElem?_map,Hu,hi3,Option.map_some,h]
      have h12:i2=i3:=(List.getElem?_inj (by
       have:i2<entries.toList.length:=by
        grind
       rw[List.length_map];exact this) DG).1 UC
      grind
    ·rintro(h|h)
     ·right
      have UC:(es.map (·.1))[i2]?=(es.map (·.1))[i3]? := by simp only[List.getElem?_map,J1,hx3,Option.map_some,h]
      have h12:i2=i3:=(List.getElem?_inj (by
       have:i2<es.length:=by
        grind
       rw[List.length_map];exact this) lq).1 UC
      grind
     grind
   ·grind
   ·exact fm (fun _ h=>h) (fun _ h=>eO h) hs
  exact⟨hS _ _ J4,adx _ _ (ha.put hd _) J4 (hS _ _ J4)⟩
end
end Go.SL
namespace Go.SL
section
variable{P:Program}{U:Tr}[hU:gF P U]{f:FuncId}{n:Nat}{R:Ending→World→Prop}{G:cL}{k:List Item}{L:gh}{H H':List HP}{S:World→Prop}{all:Array Oper}{rest:Pl}{ty:TypeId}{pos:String}{af:Array Edge}{gd:Option (Nat × Bool)}{m:Bool}{d:Tmp}
def uM{g:FuncId}{fn:Func}{e:Array Value→Sem Value}{vs:Array Value}{w:World}(hf:P.funcs[g]?=some fn)(hb:fn.body=none)(hn:(fn.name == "runtime.NumGoroutine")=false)(rn:(Extern.findNext fn).isNone=true)(he:Extern.find fn=some e) :
  (callFunc g vs).run P w=((e vs).run P w).andThen fun v w' => .ok (.value v) w':=by
 have ae0:Extern.findNext fn=none:=Option.isNone_iff_eq_none.1 rn
 simp only[callFunc,Sem.run_bind,run_program,Result.andThen_ok,hf,hn,hb,Option.isNone_none,Bool.false_eq_true,if_false,if_true,run_mark,ae0,he,Sem.run_pure]
theorem Iw{κ:Type}[DecidableEq κ]{kv:κ→Value}{g:FuncId}{fn:Func}{args:Array Operand}{uF:Array TypeId}{t:TypeId}{b:Nat}{es:List (κ × Value)}(i:Nat)(hd:Nat.blt d n=true)(hf:P.funcs[g]?=some fn)(hb:fn.body=none)(hn:(fn.name == "runtime.NumGoroutine")=false)(rn:(Extern.findNext fn).isNone=true)(he:Extern.find fn=some Extern.MapsClone.clone)(gb:Fb L args.toList [] = .mk [.iface t (.map (some b))])(hi:cD H i=some (aV kv b es))(hS:∀b' w,Sat G w (aV kv b' es::H)→Sx rest S w)(h:∀b',J P f n R G S all rest k ((d,.iface t (.map (some b')))::L) (aV kv b' es::H)) :
  J P f n R G S all (.cons false true ⟨some d,.call { callee := .value (.func g),args:=args,argTypes:=uF },ty,pos,af,gd⟩ rest) k L H:=by
 refine oe hd (fun u H1=>∃b',u = .iface t (.map (some b'))∧H1=aV kv b' es::H) (fun a w ha hw=>?_) ?_ ?_
 ·obtain⟨o,hm,L4⟩:=hw.qv hi
  have yZ:=hm
  obtain⟨entries,clock,rfl,tR,lq,ug,DG⟩:=hm
  refine⟨_,{ w with heap:=w.heap.push (.map entries clock) },_,?_,⟨w.heap.size,rfl,rfl⟩,?_⟩
  ·simp only[execOp,resolve,Sem.run_bind,Act.eval,Deferred.ofValue,Sem.run_pure,Result.andThen_ok,invoke]
   rw[show(args.map fun x=>a.eval x)=args.map a.eval from rfl]at *
   have hav:=kO ha _ _ gb
   rw[show Array.map a.eval args = #[.iface t (.map (some b))]from hav]
   simp only[Array.empty_append,Array.append_empty]
   rw[uM hf hb hn rn he]
   have kJ:Extern.MapsClone.clone #[.iface t (.map (some b))]=(getObj b >>= fun o=>match o with
     | .map entries clock=>newObj (.map entries clock) >>= fun r=>pure (.iface t (.map (some r)))
     | _=>stuck "maps.clone: a map expected"):=rfl
   rw[kJ]
   simp only[Sem.run_bind,run_getObj_map L4,Result.andThen_ok,run_newObj,Sem.run_pure]
  ·have h3:=hw.alloc (.map entries clock)
   exact h3.cI (aq.fold (B:=[_]) fun h hs=>⟨h,sub.refl h,_,yZ,eO hs⟩)
 ·grind
 grind
def SA{x:Operand}{xt t:TypeId}{cd:Ty}{v:Value}(hd:Nat.blt d n=true)(hx:ev L x=some (.iface t v))(ht:U.get t=some cd)(hni:(match cd.gx with | .interface _=>false|_=>true)=true)(h:J P f n R G S all rest k ((d,v)::L) H):J P f n R G S all (.cons m true ⟨some d,.typeAssert x xt t false,ty,pos,af,gd⟩ rest) k L H :=
 dK hd (fun a ha w=>by
  simp only[execOp,ha.ev hx,Instr.typeAssert,Sem.run_bind,run_underlying ht,Result.andThen_ok]
  cases hu:cd.gx <;> simp_all) h
def OJ{x:Operand}{t:TypeId}{cd:Ty}{v:Value}(hd:Nat.blt d n=true)(hx:ev L x=some v)(ht:U.get t=some cd)(hni:(match cd.gx with | .interface _=>false|_=>true)=true)(h:J P f n R G S all rest k ((d,.iface t v)::L) H):J P f n R G S all (.cons m true ⟨some d,.makeInterface t x,ty,pos,af,gd⟩ rest) k L H :=
 dK hd (fun a ha w=>by
  simp only[execOp,ha.ev hx,Instr.makeInterface,Sem.run_bind,run_underlying ht,Result.andThen_ok]
  cases hu:cd.gx <;> simp_all) h
def Row(w:World)(b:Nat):Prop:=∃l e,w.heap[b]?=some (cl l e)
theorem Gj{b1 o1 b2 o2:Nat}{w:World}(h1:Row w b1)(h2:Row w b2):(sameAddr ⟨b1,o1,none⟩ ⟨b2,o2,none⟩).run P w = .ok (decide (b1=b2∧o1=o2)) w:=by
 obtain⟨l1,e1,nN⟩:=h1
 obtain⟨l2,e2,qZ⟩:=h2
 unfold sameAddr
 by_cases hb:b1=b2
 ·subst hb
  simp only[beq_self_eq_true,if_true,Sem.run_pure,true_and]
  congr 1
  grind
 ·have dw:(b1 == b2)=false:=by simpa using hb
  have f1:∀o,w.frozen? ⟨b1,o,none⟩=false:=fun o=>ik nN
  have f2:∀o,w.frozen? ⟨b2,o,none⟩=false:=fun o=>ik qZ
  have s1:w.shape? b1=some (e1,l1.length):=by simp[World.shape?,nN,cl]
  have s2:w.shape? b2=some (e2,l2.length):=by simp[World.shape?,qZ,cl]
  simp[dw,f1,f2,noView,viewAt,s1,s2,mayBeOne,stringish,hb]
def Vc{x y:Operand}{t yt el:TypeId}{cd te:Ty}{b1 o1 b2 o2:Nat}(hd:Nat.blt d n=true)(hx:ev L x=some (.pointer (some ⟨b1,o1,none⟩)))(hy:ev L y=some (.pointer (some ⟨b2,o2,none⟩)))(ht:U.get t=some cd)(hu:cd.gx = .pointer el)(he:U.get el=some te)(kr:Nat.beq te.info.size 0=false)(h1:∀w,Sat G w H→Row w b1)(h2:∀w,Sat G w H→Row w b2)(h:J P f n R G S all rest k ((d,.bool (decide (b1=b2∧o1=o2)))::L) H):J P f n R G S all (.cons false true ⟨some d,.binOp .eql t x y yt,ty,pos,af,gd⟩ rest) k L H :=
 kR hd (fun a w ha hw=>by
  have hr:=Gj (P:=P) (o1:=o1) (o2:=o2) (h1 w hw) (h2 w hw)
  have dw:te.info.size≠0:=Nat.ne_of_beq_eq_false kr
  have heq:(Op.equal t (.pointer (some ⟨b1,o1,none⟩)) (.pointer (some ⟨b2,o2,none⟩))).run P w = .ok (decide (b1=b2∧o1=o2)) w:=by
   unfold Op.equal Op.maxDepth Op.equalIn
   simp only[Sem.run_bind,run_underlying ht,Result.andThen_ok,hu,run_sizeOf he,ne_eq,dw,not_false_eq_true,if_true,hr]
  have hg:(eqGuard .eql t x y (.pointer (some ⟨b1,o1,none⟩)) (.pointer (some ⟨b2,o2,none⟩))).run P w = .ok () w:=by simp[eqGuard]
  have hb:(binOp .eql t (.pointer (some ⟨b1,o1,none⟩)) (.pointer (some ⟨b2,o2,none⟩))).run P w = .ok (.bool (decide (b1=b2∧o1=o2))) w:=by
   simp only[binOp,Sem.run_bind,heq,Result.andThen_ok,Sem.run_pure]
  simp only[execOp,ha.ev hx,ha.ev hy,Sem.run_bind,hg,hb,Result.andThen_ok,Sem.run_pure]) h
theorem FM{x:Operand}{t elem:TypeId}{cd te:Ty}{z:Value}{b o nn cap:Nat}{l l':List Value}{e:TypeId}(i:Nat)(hS:∀w,Sat G w H'→Sx rest S w)(hx:ev L x=some (.slice (some ⟨b,o,none⟩) nn cap))(ht:U.get t=some cd)(hu:cd.gx = .slice elem)(he:U.get elem=some te)(hz:te.info.zero=some z)(OZ:Nat.beq (bC z).length te.info.size=true)(gD:jV (bC z)=true)(hi:cD H i=some (ak b (cl l e)))(we:o+nn*te.info.size≤l.length)(EZ:l'=l.take o++(List.replicate nn (bC z)).flatten++l.drop (o+nn*te.info.size))(hp:mE i (ak b (cl l' e)) H [] = .mk H')(h:J P f n R G S all rest k L H'):J P f n R G S all (.cons false true ⟨none,.call { callee := .builtin .clear,args := #[x],argTypes := #[t] },ty,pos,af,gd⟩ rest) k L H:=by
 intro a w ha hw _
 have aeq:(bC z).length=te.info.size:=Nat.eq_of_beq_eq_true OZ
 have Kh:(Builtin.zeroCells z.cells nn).toList=(List.replicate nn (bC z)).flatten:=by
  have pR:z.cells.size=(bC z).length:=by rw[ec];simp
  unfold Builtin.zeroCells
  simp only[Array.toList_map,Array.toList_range,pR]
  rw[ec]
  induction nn with
  | zero=>simp
  | succ nn ih =>
   clear ih
   rw[List.replicate_succ',List.flatten_append]
   have afc:∀q,List.map (fun i=>(bC z).toArray[i%(bC z).length]!) (List.range (q*(bC z).length))=(List.replicate q (bC z)).flatten:=by
    intro q
    induction q with
    | zero=>simp
    | succ q ih =>
     rw[List.replicate_succ',List.flatten_append,← ih,Nat.succ_mul,List.range_add,List.map_append]
     congr 1
     simp only[List.map_map,List.flatten_cons,List.flatten_nil,List.append_nil]
     apply List.ext_getElem?
     intro j
     by_cases hj:j<(bC z).length
     ·simp only[List.getElem?_map,List.getElem?_range hj,Option.map_some,Function.comp]
      rw[Nat.mul_comm,Nat.mul_add_mod,Nat.mod_eq_of_lt hj]
      simp[hj]
     grind
   have:=afc (nn+1)
   rw[List.replicate_succ',List.flatten_append]at this
   exact this
 have hlen:((List.replicate nn (bC z)).flatten).length=nn*te.info.size:=by simp[aeq]
 have cN:=gm (P:=P) ((List.replicate nn (bC z)).flatten) 0 o l w (hw.q9 hi) (by rw[hlen];simpa using we) (fun u hu=>by
  simp only[List.mem_flatten,List.mem_replicate]at hu
  obtain⟨l2,⟨_,rfl⟩,hu⟩:=hu
  exact zc gD u hu)
 simp only[Nat.add_zero,hlen,← EZ]at cN
 have hs:=hw.put hi hp
 refine .inl ⟨.inl rfl,.inr ⟨rfl,?_⟩⟩
 by_cases h0:nn=0
 ·subst h0
  have hll:l'=l:=by rw[EZ];simp
  subst hll
  have hss:Sat G w H':=by
   have hb:=hw.q9 hi
   have dk:b<w.heap.size:=by
    grind
   have L4:w.heap[b]=cl l' e:=by rw[Array.getElem?_eq_getElem dk]at hb;exact Option.some.inj hb
   have:w.heap.setIfInBounds b (cl l' e)=w.heap:=by rw[← L4];simp[Array.setIfInBounds,dk]
   rw[this]at hs;exact hs
  have:(execOp a.eval ⟨none,.call { callee := .builtin .clear,args := #[x],argTypes := #[t] },ty,pos,af,gd⟩).run P w = .ok (.value (.tuple #[])) w:=by
   simp[execOp,resolve,invoke,builtin,ha.ev hx,Builtin.clear_,run_underlying ht,hu]
  exact iC this ⟨hS _ hss,h a _ ha hss (hS _ hss)⟩
 ·have:(execOp a.eval ⟨none,.call { callee := .builtin .clear,args := #[x],argTypes := #[t] },ty,pos,af,gd⟩).run P w = .ok (.value (.tuple #[])) { w with heap:=w.heap.setIfInBounds b (cl l' e) }:=by
   obtain⟨q,rfl⟩:∃q,nn=q+1:=⟨nn-1,aj⟩
   simp only[execOp,resolve,invoke,builtin,Sem.run_bind,Sem.run_pure,Result.andThen_ok,List.map_toArray,List.map_cons,List.map_nil,ha.ev hx,Builtin.clear_,List.getElem?_toArray,List.getElem?_cons_zero,run_underlying ht,hu,ej he hz,Kh,cN]
  exact iC this ⟨hS _ hs,h a _ ha hs (hS _ hs)⟩
end
end Go.SL
namespace Go.SL
def jt{α:Type}(p:α→Bool):List α→Int
 | [] => -1
 | x::l=>if p x then 0 else(if jt p l<0 then -1 else jt p l+1)
theorem LL{α:Type}(p:α→Bool)(l:List α) : -1≤jt p l:=by
 induction l with
 | nil=>simp[jt]
 | cons x l ih=>simp only[jt];split;omega;split <;> omega
def j9{α:Type}{p:α→Bool}{l:List α}(h:∀x∈l,p x=false):jt p l = -1:=by
 induction l with
 | nil=>rfl
 | cons x l ih=>simp[jt,h x (by simp),ih (fun y hy=>h y (by simp[hy]))]
theorem iY{α:Type}{p:α→Bool}{l:List α}{i:Nat}{x:α}(hi:l[i]?=some x)(hx:p x=true)(hb:∀y∈l.take i,p y=false):jt p l=i:=by
 induction l generalizing i with
 | nil=>simp at hi
 | cons y l ih =>
  cases i with
  | zero=>simp at hi;subst hi;simp[jt,hx]
  | succ i =>
   grind [jt]
theorem nk{α:Type}{p:α→Bool}{l:List α}:jt p l<0↔l.any p=false:=by
 induction l with
 | nil=>simp[jt]
 | cons x l ih =>
  grind [LL,jt]
theorem Vw.cell{A:HP}{b o n cap:Nat}{cs:List Value}(h:Vw A (.slice (some ⟨b,o,none⟩) n cap) n cs){i:Nat}{c:Value}(hi:cs[i]?=some c):∀h,A h→eB h b (o+i)=some c:=by
 obtain⟨a,gV,hv,h0|⟨b',o',ha,hc⟩⟩:=h
 ·grind
 grind
def Vw.shape{A:HP}{v:Value}{n:Nat}{cs:List Value}(h:Vw A v n cs):∃a cap,v = .slice a n cap:=by
 obtain⟨a,cap,hv,_⟩:=h;exact⟨a,cap,hv⟩
theorem Vw.some{A:HP}{v:Value}{n:Nat}{cs:List Value}(h:Vw A v n cs)(h0:cs≠[]):∃b o cap,v = .slice (some ⟨b,o,none⟩) n cap:=by
 obtain⟨a,cap,hv,h1|⟨b,o,ha,hc⟩⟩:=h
 ·exact absurd h1 h0
 grind
theorem yn{bs:List UInt8}{i:Nat}{x:UInt8}(h:bs[i]?=some x):(bV bs)[i]?=some (u8 x):=by simp[bV,h]
def aq.sm(H:List HP):aq H (emp::H):=fun h hs=>⟨h,sub.refl h,gf (vH hs)⟩
def aq.join(A B:HP)(H:List HP):aq (A::B::H) (star A B::H):=fun h hs=>⟨h,sub.refl h,lf hs⟩
theorem aq.part(A B:HP)(H:List HP):aq (star A B::H) (A::B::H):=fun h hs=>⟨h,sub.refl h,jZ hs⟩
def Vw.left{A B:HP}{v:Value}{n:Nat}{cs:List Value}(h:Vw A v n cs):Vw (star A B) v n cs:=h.mono fun _ hs=>jY hs
def Vw.right{A B:HP}{v:Value}{n:Nat}{cs:List Value}(h:Vw B v n cs):Vw (star A B) v n cs:=h.mono fun _ hs=>Al hs
def abg(x:UInt8):((x.toNat:Nat):Int)<256:=by have:=x.toNat_lt;omega
def Pp{x y:UInt8}(h:(x.toNat:Int)=y.toNat):x=y:=UInt8.toNat_inj.1 aj
def fM{α β:Type}(q:α→β→Prop)(l:List α)(r:List β):Prop:=l.length=r.length∧∀(i:Nat) (x:α) (y:β),l[i]?=Option.some x→r[i]?=Option.some y→q x y
theorem fM.nil{α β:Type}{q:α→β→Prop}:fM q [] []:=⟨rfl,fun i x y h=>by simp at h⟩
theorem fM.snoc{α β:Type}{q:α→β→Prop}{l:List α}{r:List β}{x:α}{y:β}(h:fM q l r)(hq:q x y):fM q (l++[x]) (r++[y]):=by
 obtain⟨hl,ha⟩:=h
 refine⟨by simp[hl],fun i u v hu hv=>?_⟩
 grind
def fM.cons{α β:Type}{q:α→β→Prop}{l:List α}{r:List β}{x:α}{y:β}(h:fM q l r)(hq:q x y):fM q (x::l) (y::r):=by
 obtain⟨hl,ha⟩:=h
 refine⟨by simp[hl],fun i u v hu hv=>?_⟩
 cases i with
 | zero=>simp at hu hv;subst hu;subst hv;exact hq
 | succ i=>exact ha i u v (by simpa using hu) (by simpa using hv)
def fM.one{α β:Type}{q:α→β→Prop}{x:α}{y:β}(hq:q x y):fM q [x] [y]:=fM.nil.cons hq
def fM.mono{α β:Type}{q q':α→β→Prop}{l:List α}{r:List β}(h:fM q l r)(hm:∀x y,q x y→q' x y):fM q' l r:=⟨h.1,fun i x y hx hy=>hm x y (h.2 i x y hx hy)⟩
theorem fM.left{α β:Type}{q:α→β→Prop}{l:List α}{r:List β}(h:fM q l r){i:Nat}{x:α}(hi:l[i]?=Option.some x):∃y,r[i]?=Option.some y∧q x y:=by
 have dk:i<l.length:=by
  grind
 have:i<r.length:=by have:=h.1;omega
 exact⟨r[i],by simp[this],h.2 i x _ hi (by simp[this])⟩
theorem fM.right{α β:Type}{q:α→β→Prop}{l:List α}{r:List β}(h:fM q l r){i:Nat}{y:β}(hi:r[i]?=Option.some y):∃x,l[i]?=Option.some x∧q x y:=by
 have dk:i<r.length:=by
  grind
 have:i<l.length:=by have:=h.1;omega
 exact⟨l[i],by simp[this],h.2 i _ y (by simp[this]) hi⟩
theorem fM.set{α β:Type}{q:α→β→Prop}{l:List α}{r:List β}(h:fM q l r)(i:Nat){x:α}{y:β}(hq:q x y):fM q (l.set i x) (r.set i y):=by
 refine⟨by simp[h.1],fun j u v hu hv=>?_⟩
 rw[List.getElem?_set]at hu hv
 by_cases L1:i=j
 ·grind
 ·rw[if_neg L1]at hu hv;exact h.2 j u v hu hv
def aq.to{H pre rest F T:List HP}(is:List Nat)(m:Nat)(h:rL is [] H [] = .mk pre rest)(hd:rest.drop m=F)(ht:pre++F=T):aq H T:=ht ▸ aq.fin is m h hd
def bS(e:TypeId)(size:Nat)(a:Option Addr)(H:List HP):aq H (aK e size (.slice a 0 0) 0 []::H):=fun h hs=>⟨h,sub.refl h,fm (Tp e size a) (fun _ h=>h) (gf (vH hs))⟩
def fp(e:TypeId)(size b:Nat)(n cap:Nat)(cs junk:List Value)(H:List HP)(hl:cs.length=n*size)(hn:n≤cap)(hc:cap*size≤cs.length+junk.length) :
  aq (ak b (cl (cs++junk) e)::H) (aK e size (.slice (Option.some ⟨b,0,none⟩) n cap) n cs::H) :=
 aq.fold (B:=[_]) fun h hs=>⟨h,sub.refl h,hl,.inr ⟨b,0,cap,[],junk,rfl,rfl,hn,hc,eO hs⟩⟩
theorem n8{α:Type}{q:α→Prop}{l:List α}{i:Nat}{x:α}(hb:∀y∈l.take i,q y)(hi:l[i]?=Option.some x)(hx:q x):∀y∈l.take (i+1),q y:=by
 intro y hy
 have dk:i<l.length:=by
  grind
 rw[List.take_succ_eq_append_getElem dk]at hy
 grind
def G9{L:gh}:∀t v,dU ([]:gh) t=Option.some v→dU L t=Option.some v:=fun _ _ h=>by cases h
def Dm{L L':gh}{t0:Nat}{v0:Value}(h:dU L t0=Option.some v0)(hr:∀t v,dU L' t=Option.some v→dU L t=Option.some v):∀t v,dU ((t0,v0)::L') t=Option.some v→dU L t=Option.some v:=by
 intro t v e
 simp only[dU]at e
 cases hb:Nat.beq t0 t with
 | true=>rw[← Nat.eq_of_beq_eq_true hb,h];simpa[hb]using e
 | false=>exact hr t v (by simpa[hb]using e)
def aN{P:Program}{f:FuncId}{n:Nat}{R:Ending→World→Prop}{G:cL}{k:List Item}{L:gh}{H:List HP}{S:World→Prop}{all:Array Oper}{rest:Pl}{e:TypeId}{size nn:Nat}{v:Value}{cs:List Value}(i:Nat)(hi:cD H i=some (aK e size v nn cs))(h:∀a c,v = .slice a nn c→J P f n R G S all rest k L H):J P f n R G S all rest k L H :=
 zg fun w hw=>by
  obtain⟨h0,_,hA⟩:=hw.kp hi
  obtain⟨_,⟨a,rfl,rfl,_⟩|⟨b,o,cap,pre,junk,rfl,_⟩⟩:=hA
  ·exact h _ _ rfl
  ·exact h _ _ rfl
def aM{P:Program}{f:FuncId}{n:Nat}{R:Ending→World→Prop}{G:cL}{k:List Item}{L:gh}{H:List HP}{e:TypeId}{size nn:Nat}{v:Value}{cs:List Value}(i:Nat)(hi:cD H i=some (aK e size v nn cs))(h:∀a c,v = .slice a nn c→K P f n R G k L H):K P f n R G k L H :=
 pH fun⟨w,hw⟩=>by
  obtain⟨h0,_,hA⟩:=hw.kp hi
  obtain⟨_,⟨a,rfl,rfl,_⟩|⟨b,o,cap,pre,junk,rfl,_⟩⟩:=hA
  ·exact h _ _ rfl
  ·exact h _ _ rfl
def bY(old:List UInt8)(at_:Nat)(b:List UInt8):List UInt8 :=
 let o:=old++List.replicate (at_+b.length-old.length) 0
 o.take at_++b++o.drop (at_+b.length)
section
variable{P:Program}{U:Tr}[hU:gF P U]{f:FuncId}{n:Nat}{R:Ending→World→Prop}{G:cL}{k:List Item}{L:gh}{H H':List HP}{S:World→Prop}{all:Array Oper}{rest:Pl}{ty:TypeId}{pos:String}{af:Array Edge}{gd:Option (Nat × Bool)}{m:Bool}{d:Tmp}
def zR{e:TypeId}{sz nn:Nat}{v:Value}{cs:List Value}(i:Nat)(hi:cD H i=some (aK e sz v nn cs))(h0:0<nn)(h:∀b o c,v = .slice (some ⟨b,o,none⟩) nn c→Vw (aK e sz v nn cs) v nn cs→J P f n R G S all rest k L H):J P f n R G S all rest k L H :=
 zg fun w hw=>by
  obtain⟨h1,_,hA⟩:=hw.kp hi
  have hv:=Vw.lj e sz v nn cs ⟨h1,hA⟩
  obtain⟨_,⟨a,rfl,rfl,_⟩|⟨b,o,cap,pre,junk,rfl,_⟩⟩:=hA
  ·omega
  ·exact h _ _ _ rfl hv
def eZ{e:TypeId}{sz nn:Nat}{v:Value}{cs:List Value}(i:Nat)(hi:cD H i=some (aK e sz v nn cs))(h:Vw (aK e sz v nn cs) v nn cs→J P f n R G S all rest k L H):J P f n R G S all rest k L H :=
 zg fun w hw=>by
  obtain⟨h1,_,hA⟩:=hw.kp hi
  exact h (Vw.lj e sz v nn cs ⟨h1,hA⟩)
def Sw{t:TypeId}{x:Operand}{b o off nn cap:Nat}{cd:Ty}{c:Value}{A:HP}{cs:List Value}(i idx:Nat)(hd:Nat.blt d n=true)(hx:ev L x=some (.pointer (some ⟨b,off,none⟩)))(hi:cD H i=some A)(hv:Vw A (.slice (some ⟨b,o,none⟩) nn cap) nn cs)(mh:off=o+idx)(hc:cs[idx]?=some c)(ht:U.get t=some cd)(hg:cd.isAgg=false)(h:J P f n R G S all rest k ((d,c)::L) H):J P f n R G S all (.cons false true ⟨some d,.load t x,ty,pos,af,gd⟩ rest) k L H :=
 wY (U:=U) i hd (mh ▸ hx) hi (hv.cell hc) ht hg h
def OK{Hs:List HP}{t:TypeId}{x:Operand}{b o off nn cap:Nat}{cd:Ty}{c:Value}{A:HP}{cs:List Value}(i idx:Nat)(hd:Nat.blt d n=true)(hx:ev L x=some (.pointer (some ⟨b,off,none⟩)))(hi:cD Hs i=some A)(hv:Vw A (.slice (some ⟨b,o,none⟩) nn cap) nn cs)(mh:off=o+idx)(hc:cs[idx]?=some c)(ht:U.get t=some cd)(hg:cd.isAgg=false)(h:J P f n R G (fun w=>Sat G w Hs) all rest k ((d,c)::L) H):J P f n R G (fun w=>Sat G w Hs) all (.cons true true ⟨some d,.load t x,ty,pos,af,gd⟩ rest) k L H :=
 FK (U:=U) hd (mh ▸ hx) (fun w hw=>by
  obtain⟨h,hh,hA⟩:=hw.kp hi
  exact ek hh (hv.cell hc h hA)) ht hg h
theorem zK:∀(acc l:List Value),E7 acc l = .mk (acc.reverse++l)
 | [],l=>rfl
 | a::acc,l=>by simp only[E7,zK acc (a::l)];simp
theorem Tv(u:Value):∀(l acc:List Value) (off:Nat),off<l.length→og acc off l [u] = .mk (acc.reverse++l.set off u):=by
 intro l
 induction l with
 | nil=>intro acc off h;simp at h
 | cons y l ih =>
  intro acc off h
  cases off with
  | zero =>
   simp only[og]
   cases l <;> simp[zK]
  | succ off=>simp only[og];rw[ih _ _ (by simpa using h)];simp
def PE{e:TypeId}{b o c nn:Nat}{cs:List Value}:∀h,aK e 1 (.slice (some ⟨b,o,none⟩) nn c) nn cs h→0<nn→∃x:List Value × List Value,(x.1.length=o∧nn≤c∧c≤cs.length+x.2.length∧cs.length=nn)∧Sep [ak b (cl (x.1++cs++x.2) e)] h:=by
 rintro h⟨hl,⟨a,hv,rfl,_⟩|⟨b',o',cap,pre,junk,hv,hp,hn,hc,Bc⟩⟩ h0
 ·omega
 ·simp only[Value.slice.injEq,Option.some.injEq,Addr.mk.injEq,and_true,true_and]at hv
  obtain⟨⟨rfl,rfl⟩,rfl⟩:=hv
  exact⟨(pre,junk),⟨hp,hn,by simpa using hc,by simpa using hl⟩,fL Bc⟩
def ML{e:TypeId}{b o c nn:Nat}{cs pre junk:List Value}(hp:pre.length=o)(hn:nn≤c)(hc:c≤cs.length+junk.length)(hl:cs.length=nn)(H:List HP) :
  aq (ak b (cl (pre++cs++junk) e)::H) (aK e 1 (.slice (some ⟨b,o,none⟩) nn c) nn cs::H) :=
 aq.fold (B:=[_]) fun h hs=>⟨h,sub.refl h,by simpa using hl,.inr ⟨b,o,c,pre,junk,rfl,hp,hn,by simpa using hc,eO hs⟩⟩
theorem BW{t:TypeId}{x y:Operand}{b o q c nn:Nat}{cd:Ty}{u:Value}{e:TypeId}{cs:List Value}(i:Nat)(hS:∀w,Sat G w H'→Sx rest S w)(hx:ev L x=some (.pointer (some ⟨b,o+q,none⟩)))(hy:ev L y=some u)(ht:U.get t=some cd)(kr:Nat.beq cd.info.size 1=true)(hc:bC u=[u])(gD:jV [u]=true)(hi:cD H i=some (aK e 1 (.slice (some ⟨b,o,none⟩) nn c) nn cs))(hq:q<nn)(hp:mE i (aK e 1 (.slice (some ⟨b,o,none⟩) nn c) nn (cs.set q u)) H [] = .mk H')(h:J P f n R G S all rest k L H'):J P f n R G S all (.cons false true ⟨none,.store t x y,ty,pos,af,gd⟩ rest) k L H:=by
 refine aT (aq.perm (dN (by rw[← ed];exact hi))) ?_
 refine Su (B:=fun x:List Value × List Value=>[ak b (cl (x.1++cs++x.2) e)]) (fun h hs=>PE h hs aj) ?_
 rintro⟨pre,junk⟩⟨h1,h2,h3,h4⟩
 simp only at h1 h2 h3 h4
 have nM:(pre++cs++junk).set (o+q) u=pre++cs.set q u++junk:=by
  grind
 have hE:aq (ak b (cl (pre++cs.set q u++junk) e)::H.eraseIdx i) H':=by
  have h5:=sU i _ _ H [] H' hp hi
  exact(ML h1 h2 (by rw[List.length_set];exact h3) (by rw[List.length_set];exact h4) _).trans (aq.perm (by simpa using h5.symm))
 refine fX (U:=U) (l':=pre++cs.set q u++junk) 0 (fun w hw=>hS w (hw.cI hE)) hx hy ht (by rw[hc,Nat.eq_of_beq_eq_true kr];rfl) (by rw[hc];rfl) (by rw[hc];exact gD) rfl ?_ rfl (aT hE h)
 grind [Tv]
end
def aH.post{P:Program}{f:FuncId}{args:List Value}{Pre:List HP}{Post ze:Value→List HP→Prop}(c:aH P f args Pre Post)(h:∀v H,Post v H→ze v H):aH P f args Pre ze :=
 ⟨c.1,fun G w F hw=>(c.2 G w F hw).mono fun e w' h'=>let ⟨v,H,he,hp,hs⟩:=h';⟨v,H,he,h v H hp,hs⟩⟩
def aH.pre{P:Program}{f:FuncId}{args:List Value}{Pre Se:List HP}{Post:Value→List HP→Prop}(c:aH P f args Pre Post)(h:aq Se Pre):aH P f args Se Post :=
 ⟨c.1,fun G w F hw=>c.2 G w F (hw.cI (aq.append F h))⟩
structure abb(A:Prop):Prop where
 out:A
def cF{p:Prop}(h:p:=by repeat(first|exact G9|refine Dm rfl ?_)):p:=h
end Go.SL
namespace Go.Proofs.YtlionahpheehaaaGreatDoor
open Go Go.SL
def ptr(f:Nat):Value := .pointer (some ⟨f,0,none⟩)
end Go.Proofs.YtlionahpheehaaaGreatDoor
namespace Go.SL
open Go
def aq.mZ{H H' rest:List HP}{A:HP}(i:Nat)(h:Qt i H [] = .mk A rest)(hr:aq rest H'):aq H (A::H') :=
 (aq.perm (by simpa using Da i H [] A rest h)).trans (aq.cons A hr)
def aq.Vk(H:List HP):aq H []:=fun h hs=>⟨fun _=>none,⟨fun b o e=>(by cases e),fun _=>rfl⟩⟩
def ad{H H':List HP}(h:aq H H':=by(repeat'(first|exact aq.refl _|exact aq.Vk _|refine aq.mZ 0 rfl ?_|refine aq.mZ 1 rfl ?_|refine aq.mZ 2 rfl ?_|refine aq.mZ 3 rfl ?_|refine aq.mZ 4 rfl ?_|refine aq.mZ 5 rfl ?_|refine aq.mZ 6 rfl ?_|refine aq.mZ 7 rfl ?_|refine aq.mZ 8 rfl ?_|refine aq.mZ 9 rfl ?_|refine aq.mZ 10 rfl ?_|refine aq.mZ 11 rfl ?_|refine aq.mZ 12 rfl ?_|refine aq.mZ 13 rfl ?_|refine aq.mZ 14 rfl ?_|refine(aq.drop _ _).trans ?_))):aq H H':=h
section
variable{P:Program}{f:FuncId}{n:Nat}{R:Ending→World→Prop}{G:cL}{k:List Item}{L:gh}{H:List HP}{S:World→Prop}{all:Array Oper}{rest:Pl}{d:Tmp}{ty:TypeId}{pos:String}{af:Array Edge}{gd:Option (Nat × Bool)}
def fq{fo:Operand}{args:Array Operand}{uF:Array TypeId}{g:FuncId}{cap:Array Value}{vs:List Value}{Pre Fr:List HP}{Post:Value→List HP→Prop}(hd:Nat.blt d n=true)(hf:ev L fo=some (.func (.func g) #[] cap))(gb:Fb L args.toList [] = .mk vs){BL:List Value}(has:BL=vs++cap.toList)(c:aH P g BL Pre Post)(he:aq H (Pre++Fr))(h:∀v H',Post v H'→J P f n R G S all rest k ((d,v)::L) (H'++Fr))(hS:∀v H' w,Post v H'→Sat G w (H'++Fr)→Sx rest S w) :
  J P f n R G S all (.cons false true ⟨some d,.call { callee := .value fo,args:=args,argTypes:=uF },ty,pos,af,gd⟩ rest) k L H:=by
 intro a w ha hw _
 refine .inl ⟨.inl rfl,.inr ⟨rfl,?_⟩⟩
 have hr:(execOp a.eval ⟨some d,.call { callee := .value fo,args:=args,argTypes:=uF },ty,pos,af,gd⟩).run P w = .ok (.enter g BL.toArray) w:=by
  simp only[execOp,resolve,Sem.run_bind,ha.ev hf,Deferred.ofValue,Sem.run_pure,Result.andThen_ok,invoke]
  rw[iT c.1,kO ha.1 _ _ gb,has]
  congr 2
  simp
 refine oG (fun c hc=>by cases hc) hr (Calls.mono (c.2 G w Fr (hw.cI he)) ?_)
 rintro e w'⟨v,H',rfl,dQ,l7⟩
 exact⟨v,rfl,hS v H' w' dQ l7,h v H' dQ _ w' (ha.put hd v) l7 (hS v H' w' dQ l7)⟩
def xq{p:Prop}(h:p:=by(intro _ _ w hp hw;(first|(obtain rfl:=hp;exact hw.cI ad)|(obtain⟨rfl,rfl⟩:=hp;exact hw.cI ad)|(obtain⟨_,rfl⟩:=hp;exact hw.cI ad)|(obtain⟨_,_,rfl⟩:=hp;exact hw.cI ad)|(obtain⟨_,_,rfl,rfl⟩:=hp;exact hw.cI ad)|(obtain⟨_,_,_,_,rfl,rfl⟩:=hp;exact hw.cI ad)|(obtain⟨_,_,rfl,rfl,_,_⟩:=hp;exact hw.cI ad)|(obtain⟨_,_,rfl,_⟩:=hp;exact hw.cI ad)|(obtain⟨_,_,rfl,rfl,_⟩:=hp;exact hw.cI ad)|(obtain⟨_,rfl,rfl⟩:=hp;exact hw.cI ad)|(obtain⟨_,_,_,rfl,rfl⟩:=hp;exact hw.cI ad)))):p:=h
def bz{fo:Operand}{args:Array Operand}{uF:Array TypeId}{g:FuncId}{cap:Array Value}{vs:List Value}{Pre Fr:List HP}{Post:Value→List HP→Prop}{BL:List Value}(c:aH P g BL Pre Post)(h:∀v H',Post v H'→J P f n R G S all rest k ((d,v)::L) (H'++Fr))(hd:Nat.blt d n=true:=by exact rfl)(hf:ev L fo=some (.func (.func g) #[] cap):=by exact rfl)(gb:Fb L args.toList [] = .mk vs:=by exact rfl)(has:BL=vs++cap.toList:=by exact rfl)(he:aq H (Pre++Fr):=by exact ad)(hS:∀v H' w,Post v H'→Sat G w (H'++Fr)→Sx rest S w:=by exact xq) :
    J P f n R G S all (.cons false true ⟨some d,.call { callee := .value fo,args:=args,argTypes:=uF },ty,pos,af,gd⟩ rest) k L H:=fq hd hf gb has c he h hS
def af4{p:Prop}[Decidable p](t:Nat)(h:J P f n R G S all rest k ((t,.bool true)::L) H)(hb:dU L t=some (.bool (decide p)):=by exact rfl)(hp:p:=by omega):J P f n R G S all rest k L H:=au t _ hb (congrArg Value.bool (decide_eq_true hp)) h
def af5{p:Prop}[Decidable p](t:Nat)(h:J P f n R G S all rest k ((t,.bool false)::L) H)(hb:dU L t=some (.bool (decide p)):=by exact rfl)(hp:¬p:=by omega):J P f n R G S all rest k L H:=au t _ hb (congrArg Value.bool (decide_eq_false hp)) h
def af2{p:Prop}[Decidable p](t:Nat)(h:K P f n R G k ((t,.bool true)::L) H)(hb:dU L t=some (.bool (decide p)):=by exact rfl)(hp:p:=by omega):K P f n R G k L H:=aE t _ hb (congrArg Value.bool (decide_eq_true hp)) h
def af3{p:Prop}[Decidable p](t:Nat)(h:K P f n R G k ((t,.bool false)::L) H)(hb:dU L t=some (.bool (decide p)):=by exact rfl)(hp:¬p:=by omega):K P f n R G k L H:=aE t _ hb (congrArg Value.bool (decide_eq_false hp)) h
def aea{k0:List Item}{id:Nat}{ops:Array Oper}(Hs:List HP)(ei:Pt)(h:J P f n R G (fun w=>Sat G w Hs) ops (eS ops ei) k L H)(hk:iq 1000 k0 = .mk (.code (.region id ops true)::k):=by exact rfl)(hm:P.follows .mixedOrders=true:=by exact aw)(O4:Region.noSelect ops=true:=by exact aw)(hp:(Dc ops && (Nat.ble ei.depth ops.size && eR ops true ei (Array.replicate ops.size false)))=true:=by exact aw)(hS:∀w,Sat G w H→Sat G w Hs:=by(intro w hw;exact hw.cI ad)):K P f n R G k0 L H:=aO _ ei hk hm O4 hp hS h
def ao{fo:Operand}{args:Array Operand}{uF:Array TypeId}{g:FuncId}{cap:Array Value}{vs:List Value}{Pre Fr:List HP}{Post:Value→List HP→Prop}{BL:List Value}(c:aH P g BL Pre Post)(h:∀v H',Post v H'→J P f n R G S all rest k ((d,v)::L) (H'++Fr))(hd:Nat.blt d n=true:=by exact rfl)(hf:ev L fo=some (.func (.func g) #[] cap):=by exact rfl)(gb:Fb L args.toList [] = .mk vs:=by exact rfl)(has:BL=vs++cap.toList:=by exact rfl)(he:aq H (Pre++Fr):=by exact ad)(hS:∀v H' w,Post v H'→Sat G w (H'++Fr)→Sx rest S w:=by exact fun _ _ _ _ _=>trivial) :
    J P f n R G S all (.cons false true ⟨some d,.call { callee := .value fo,args:=args,argTypes:=uF },ty,pos,af,gd⟩ rest) k L H:=fq hd hf gb has c he h hS
def aeb{fo:Operand}{args:Array Operand}{uF:Array TypeId}{g:FuncId}{cap:Array Value}{vs:List Value}{Pre Fr Hx:List HP}{Post:Value→List HP→Prop}{v:Value}{BL:List Value}(c:aH P g BL Pre Post)(h:J P f n R G S all rest k ((d,v)::L) (Hx++Fr))(hd:Nat.blt d n=true:=by exact rfl)(hf:ev L fo=some (.func (.func g) #[] cap):=by exact rfl)(gb:Fb L args.toList [] = .mk vs:=by exact rfl)(has:BL=vs++cap.toList:=by exact rfl)(he:aq H (Pre++Fr):=by exact ad)(hq:∀r H,Post r H→r=v∧H=Hx:=by(intro _ _ q;obtain⟨rfl,rfl⟩:=q;exact⟨rfl,rfl⟩))(hS:∀v' H' w,Post v' H'→Sat G w (H'++Fr)→Sx rest S w:=by exact fun _ _ _ _ _=>trivial) :
    J P f n R G S all (.cons false true ⟨some d,.call { callee := .value fo,args:=args,argTypes:=uF },ty,pos,af,gd⟩ rest) k L H:=fq hd hf gb has c he (fun _ _ q=>by obtain⟨rfl,rfl⟩:=hq _ _ q;exact h) hS
def Vd{fo:Operand}{args:Array Operand}{uF:Array TypeId}{g:FuncId}{cap:Array Value}{vs:List Value}{Pre Fr Hx:List HP}{Post:Value→List HP→Prop}{v:Value}{BL:List Value}(c:aH P g BL Pre Post)(h:J P f n R G S all rest k ((d,v)::L) (Hx++Fr))(hd:Nat.blt d n=true:=by exact rfl)(hf:ev L fo=some (.func (.func g) #[] cap):=by exact rfl)(gb:Fb L args.toList [] = .mk vs:=by exact rfl)(has:BL=vs++cap.toList:=by exact rfl)(he:aq H (Pre++Fr):=by exact ad)(hq:∀r H,Post r H→r=v∧H=Hx:=by(intro _ _ q;obtain⟨rfl,rfl⟩:=q;exact⟨rfl,rfl⟩))(hS:∀w,Sat G w (Hx++Fr)→Sx rest S w:=by(intro w hw;exact hw.cI ad)) :
    J P f n R G S all (.cons false true ⟨some d,.call { callee := .value fo,args:=args,argTypes:=uF },ty,pos,af,gd⟩ rest) k L H:=fq hd hf gb has c he (fun _ _ q=>by obtain⟨rfl,rfl⟩:=hq _ _ q;exact h) (fun _ _ w q hw=>by obtain⟨rfl,rfl⟩:=hq _ _ q;exact hS w hw)
def ah{k k0:List Item}{fn:Func}{F:List HP}{Post:Value→List HP→Prop}(hR:Ends R G F Post)(hf:P.funcs[f]?=some fn)(hk:iq 1000 k0 = .mk (.code .ret::k)){vs:List Value}(hr:Ax L fn.results.toList [] = .mk vs){Hq:List HP}(hp:Post (dt vs) Hq)(he:aq H (Hq++F):=by exact ad):K P f n R G k0 L H:=aG hR hf hk vs hr hp he
def aH.aC{fn:Func}{c:Code}{args:List Value}{Pre:List HP}{Post:Value→List HP→Prop}(hf:P.funcs[f]?=some fn)(hn:fn.ntmps=n)(h:∀G F R,Ends R G F Post→K P f n R G [.code c] L (Pre++F))(hc:nB fn=true:=by exact aw)(hb:fn.body=some c:=by exact rfl)(hp:Qm 0 args [] = .mk L:=by exact rfl)(hlen:Nat.ble args.length n=true:=by exact rfl):aH P f args Pre Post:=aH.enter hf hc hb hn hp hlen h
def Mq{k0 k':List Item}{α:Type}(m:Nat)(I:α→Prop)(Lf:α→gh)(Hf:α→List HP)(hk:iq 1000 (k0.drop m) = .mk k')(tail:∀y,I y→K P f n R G k' (Lf y) (Hf y))(h:(∀y,I y→K P f n R G k' (Lf y) (Hf y))→K P f n R G k0 L H):K P f n R G k0 L H:=h tail
def FC{k0 k':List Item}{α:Type}{I:α→Prop}{Lf:α→gh}{Hf:α→List HP}(ih:∀y,I y→K P f n R G k' (Lf y) (Hf y))(y:α)(hk:iq 1000 k0 = .mk k')(hI:I y)(hL:∀t v,dU (Lf y) t=some v→dU L t=some v)(hH:aq H (Hf y)):K P f n R G k0 L H:=gJ 1000 hk (Mp hL (al hH (ih y hI)))
def jw{k0 k':List Item}(hk:iq 1000 k0 = .mk k')(h:K P f n R G k' L H):K P f n R G k0 L H:=gJ 1000 hk h
end
def dI{p:Prop}(h:p:=by(intro w hw;exact hw.cI ad)):p:=h
def mL{p:Prop}(h:p:=by(intro _ _ w hp hw;obtain⟨rfl,rfl⟩:=hp;exact hw.cI ad)):p:=h
end Go.SL
namespace Go.SL
open Go
section
variable{P:Program}{U:Tr}[hU:gF P U]{f:FuncId}{n:Nat}{R:Ending→World→Prop}{G:cL}{k:List Item}{L:gh}{H:List HP}{S:World→Prop}{all:Array Oper}{rest:Pl}{d:Tmp}{ty:TypeId}{pos:String}{af:Array Edge}{gd:Option (Nat × Bool)}{m:Bool}
theorem zX{fo:Operand}{args:Array Operand}{uF:Array TypeId}{g:FuncId}{fi cap:Array Value}{vs:List Value}{Pre Fr:List HP}{Post:Value→List HP→Prop}(hd:Nat.blt d n=true)(hf:ev L fo=some (.func (.func g) fi cap))(gb:Fb L args.toList [] = .mk vs){BL:List Value}(has:BL=fi.toList++vs++cap.toList)(c:aH P g BL Pre Post)(he:aq H (Pre++Fr))(h:∀v H',Post v H'→J P f n R G S all rest k ((d,v)::L) (H'++Fr))(hS:∀v H' w,Post v H'→Sat G w (H'++Fr)→Sx rest S w) :
  J P f n R G S all (.cons false true ⟨some d,.call { callee := .value fo,args:=args,argTypes:=uF },ty,pos,af,gd⟩ rest) k L H:=by
 intro a w ha hw _
 refine .inl ⟨.inl rfl,.inr ⟨rfl,?_⟩⟩
 have hr:(execOp a.eval ⟨some d,.call { callee := .value fo,args:=args,argTypes:=uF },ty,pos,af,gd⟩).run P w = .ok (.enter g BL.toArray) w:=by
  simp only[execOp,resolve,Sem.run_bind,ha.ev hf,Deferred.ofValue,Sem.run_pure,Result.andThen_ok,invoke]
  rw[iT c.1,kO ha.1 _ _ gb,has]
  congr 2
  grind
 refine oG (fun c hc=>by cases hc) hr (Calls.mono (c.2 G w Fr (hw.cI he)) ?_)
 rintro e w'⟨v,H',rfl,dQ,l7⟩
 exact⟨v,rfl,hS v H' w' dQ l7,h v H' dQ _ w' (ha.put hd v) l7 (hS v H' w' dQ l7)⟩
def BV{t yt:TypeId}{x y:Operand}{p q:ByteArray}(hd:Nat.blt d n=true)(hx:ev L x=some (.string p))(hy:ev L y=some (.string q))(hr:p.size+q.size≤9223372036854775807)(h:J P f n R G S all rest k ((d,.string (p++q))::L) H):J P f n R G S all (.cons m true ⟨some d,.binOp .add t x y yt,ty,pos,af,gd⟩ rest) k L H :=
  dK hd (fun a ha w=>by
    have h0 : ¬ (((p.size + q.size : Nat) : Int) > IntKind.i64.max) := by have : IntKind.i64.max = 9223372036854775807 := by decide
                                                                          omega
    simp only[execOp,ha.ev hx,ha.ev hy,eqGuard,Sem.run_bind,Sem.run_pure,Result.andThen_ok,binOp_string_add,Op.stringOp]
    rw[if_neg h0]
    rfl) h
theorem FJ{g:FuncId}{fn:Func}{args:Array Operand}{uF:Array TypeId}{t elem:TypeId}{cd:Ty}{q:Nat}(hd:Nat.blt d n=true)(hf:P.funcs[g]?=some fn)(hb:fn.body=none)(hn:(fn.name == "runtime.NumGoroutine")=false)(rn:(Extern.findNext fn).isNone=true)(he:Extern.find fn=some (Extern.BytealgMakeNoZero.makeNoZero fn.params #[t]))(ht:U.get t=some cd)(hu:cd.gx = .slice elem)(gb:Fb L args.toList [] = .mk [.int .i64 (q:Int)])(hq:q≤281474976710656)(hS:∀b l w,Sat G w (ak b (cl l elem)::H)→Sx rest S w)(h:∀b c l,q≤c→List.length l=c→J P f n R G S all rest k ((d,.slice (some ⟨b,0,none⟩) q c)::L) (ak b (cl l elem)::H)) :
  J P f n R G S all (.cons false true ⟨some d,.call { callee := .value (.func g),args:=args,argTypes:=uF },ty,pos,af,gd⟩ rest) k L H:=by
 refine oe hd (fun u H1=>∃b c l,(q≤c∧List.length l=c)∧u = .slice (some ⟨b,0,none⟩) q c∧H1=ak b (cl l elem)::H) (fun a w ha hw=>?_) ?_ ?_
 ·have hav:=kO ha _ _ gb
  obtain⟨cs,hr,h1,_⟩:=Lib.run_makeNoZero (P:=P) w fn.params t elem (by rw[← hu];exact kz ht) q hq
  have QW:Sat G w.drew.drew H:=(hw.draw _).draw _
  refine⟨_,w.drew.drew.alloc (.cells cs elem),_,?_,⟨w.heap.size,cs.size,cs.toList,⟨h1,by simp⟩,rfl,rfl⟩,?_⟩
  ·simp only[execOp,resolve,Sem.run_bind,Act.eval,Deferred.ofValue,Sem.run_pure,Result.andThen_ok,invoke]
   rw[show Array.map (fun x=>a.eval x) args = #[.int .i64 (q:Int)]from hav]
   simp only[Array.empty_append,Array.append_empty]
   rw[uM hf hb hn rn he,hr]
   rfl
  ·have:=QW.alloc (cl cs.toList elem)
   have e:cl cs.toList elem = .cells cs elem:=by simp[cl]
   rw[e]at this ⊢
   exact this
 ·grind
 grind
theorem OH{t elem:TypeId}{cd te:Ty}{x hi mx:Operand}{a0:Option Addr}{len cap:Nat}{q r:Int}{j2 j3:IntKind}(hd:Nat.blt d n=true)(ht:U.get t=some cd)(hu:cd.gx = .slice elem)(he:U.get elem=some te)(hx:ev L x=some (.slice a0 len cap))(Bh:ev L hi=some (.int j2 q))(hmx:ev L mx=some (.int j3 r))(h0:0≤q)(hqr:q≤r)(LR:r≤(cap:Int))(h:J P f n R G S all rest k ((d,.slice (sliceAt a0 r.toNat 0 te.info.size) q.toNat r.toNat)::L) H) :
  J P f n R G S all (.cons m true ⟨some d,.slice t x none (some hi) (some mx),ty,pos,af,gd⟩ rest) k L H:=by
 refine dK hd (fun a ha w=>?_) h
 have hb:(Instr.sliceBounds true len cap none (some (a.eval hi)) (some (a.eval mx))).run P w = .ok (0,q.toNat,r.toNat) w:=by
  unfold Instr.sliceBounds
  have e1:0≤r∧r≤(cap:Int):=⟨aj,LR⟩
  have e2:0≤q∧q≤((r.toNat:Nat):Int):=⟨aj,aj⟩
  have e4:q≤max r 0:=by omega
  simp[ha.ev Bh,ha.ev hmx,Instr.sliceBound,asIntOf,e1,e2,e4,h0]
 simp only[execOp,ha.ev hx,Instr.sliceAt,Sem.run_bind,run_underlying ht,Result.andThen_ok,hu,Instr.slice,Option.map_some,Option.map_none,hb,run_sizeOf he,Sem.run_pure,sliceAt]
 grind
end
end Go.SL
namespace Go.SL
section
variable{P:Program}{U:Tr}[hU:gF P U]{f:FuncId}{n:Nat}{R:Ending→World→Prop}{G:cL}{k:List Item}{L:gh}{H H':List HP}{S:World→Prop}{all:Array Oper}{rest:Pl}{ty:TypeId}{pos:String}{af:Array Edge}{gd:Option (Nat × Bool)}{m:Bool}{d:Tmp}
def BZ{t:TypeId}{x:Operand}{b off:Nat}{cd:Ty}{cs:List Value}(hd:Nat.blt d n=true)(hx:ev L x=some (.pointer (some ⟨b,off,none⟩)))(ht:U.get t=some cd)(hg:cd.isAgg=true)(hl:Nat.beq cs.length cd.info.size=true)(hc:∀w,Sat G w H→∀j v,cs[j]?=some v→w.cell? ⟨b,off+j,none⟩=some v)(h:J P f n R G S all rest k ((d,.agg cs.toArray)::L) H):J P f n R G S all (.cons false true ⟨some d,.load t x,ty,pos,af,gd⟩ rest) k L H :=
 kR hd (fun a w ha hw=>by
  simp[execOp,ha.ev hx,gZ (P:=P) ht hg (Nat.eq_of_beq_eq_true hl) (hc w hw)]) h
def cK{t:TypeId}{x:Operand}{b o off nn cap:Nat}{cd:Ty}{es cs:List Value}{A:HP}(i idx:Nat)(hd:Nat.blt d n=true)(hx:ev L x=some (.pointer (some ⟨b,off,none⟩)))(hi:cD H i=some A)(hv:Vw A (.slice (some ⟨b,o,none⟩) nn cap) nn cs)(mh:off=o+idx)(tR:∀j v,es[j]?=some v→cs[idx+j]?=some v)(ht:U.get t=some cd)(hg:cd.isAgg=true)(hl:Nat.beq es.length cd.info.size=true)(h:J P f n R G S all rest k ((d,.agg es.toArray)::L) H):J P f n R G S all (.cons false true ⟨some d,.load t x,ty,pos,af,gd⟩ rest) k L H :=
 BZ (U:=U) hd hx ht hg hl (fun w hw j v hj=>by
  obtain⟨h,hh,hA⟩:=hw.kp hi
  have:=hv.cell (tR j v hj) h hA
  rw[mh,show o+idx+j=o+(idx+j) by omega]
  exact ek hh this) h
theorem MX:∀(l vs acc:List Value) (off:Nat),off+vs.length≤l.length→og acc off l vs = .mk (acc.reverse++(l.take off++vs++l.drop (off+vs.length))):=by
 intro l
 induction l with
 | nil =>
  intro vs acc off h
  simp only[List.length_nil]at h
  grind [og,zK]
 | cons y l ih =>
  intro vs acc off h
  cases vs with
  | nil=>cases off <;> simp[og,zK]
  | cons v vs =>
   cases off with
   | zero =>
    grind [og]
   | succ off =>
    grind [og]
def lA{t:TypeId}{x y:Operand}{b off:Nat}{cd:Ty}{l l':List Value}{e:TypeId}{v:Value}(i:Nat)(hS:∀w,Sat G w H'→Sx rest S w)(hx:ev L x=some (.pointer (some ⟨b,off,none⟩)))(hy:ev L y=some v)(ht:U.get t=some cd)(kr:Nat.beq (bC v).length cd.info.size=true)(dw:Nat.beq (bC v).length 0=false)(gD:jV (bC v)=true)(hi:cD H i=some (ak b (cl l e)))(we:off+(bC v).length≤l.length)(hl:l'=l.take off++bC v++l.drop (off+(bC v).length))(hp:mE i (ak b (cl l' e)) H [] = .mk H')(h:J P f n R G S all rest k L H'):J P f n R G S all (.cons false true ⟨none,.store t x y,ty,pos,af,gd⟩ rest) k L H :=
 fX (U:=U) i hS hx hy ht kr dw gD hi (by rw[MX _ _ _ _ we,hl];rfl) hp h
theorem vh{e:TypeId}{sz nn:Nat}{v:Value}{cs:List Value}{H:List HP}(h0:∀a,v = .slice a 0 0→nn=0→cs=[]→K P f n R G k L H)(h1:∀b o c pre junk,v = .slice (some ⟨b,o,none⟩) nn c→pre.length=o→nn≤c→c*sz≤cs.length+junk.length→cs.length=nn*sz→K P f n R G k L (ak b (cl (pre++cs++junk) e)::H)) :
  K P f n R G k L (aK e sz v nn cs::H):=by
 intro a w ha hw
 obtain⟨t,o,u,hp,O3,hA,hB,⟨hl,g8⟩,V6,hd,he⟩:=hw
 rcases g8 with⟨a0,hv,hn,Kf⟩|⟨b,oo,cap,pre,junk,hv,mH,hn,hc,Bc⟩
 ·refine h0 a0 hv hn (List.eq_nil_of_length_eq_zero (by rw[hl,hn];simp)) a w ha ⟨t,o,u,hB,fun x y EU=>?_,V6⟩
  grind
 ·exact h1 b oo cap pre junk hv mH hn hc hl a w ha ⟨t,o,u,hp,O3,hA,hB,Bc,V6,hd,he⟩
end
theorem cM{α:Type}{g:α→List Value}{s:Nat}(hs:∀x,(g x).length=s){l:List α}{i:Nat}{x:α}(h:l[i]?=some x)(j:Nat)(hj:j<s):(l.flatMap g)[i*s+j]?=(g x)[j]? := by
 induction l generalizing i with
 | nil=>simp at h
 | cons y l ih =>
  have hy:=hs y
  rw[List.flatMap_cons]
  cases i with
  | zero=>simp at h;subst h;rw[List.getElem?_append_left aj];simp
  | succ i =>
   grind
def bR{α:Type}{g:α→List Value}{s:Nat}(hs:∀x,(g x).length=s)(l:List α):(l.flatMap g).length=l.length*s:=by
 induction l with
 | nil=>simp
 | cons y l ih=>rw[List.flatMap_cons,List.length_append,ih,hs,List.length_cons,Nat.add_mul,Nat.one_mul];omega
theorem yk{α:Type}{g:α→List Value}{s:Nat}(hs:∀x,(g x).length=s){l:List α}{i:Nat}(hi:i<l.length)(x:α):(l.set i x).flatMap g=(l.flatMap g).take (i*s)++g x++(l.flatMap g).drop (i*s+s):=by
 induction l generalizing i with
 | nil=>simp at hi
 | cons y l ih =>
  have hy:=hs y
  cases i with
  | zero =>
   grind
  | succ i =>
   have e:(i+1)*s=s+i*s:=by rw[Nat.add_mul,Nat.one_mul];omega
   rw[List.set_cons_succ,List.flatMap_cons,List.flatMap_cons,ih (by simpa using hi),e,← hy,List.take_length_add_append,show(g y).length+i*(g y).length+(g y).length=(g y).length+(i*(g y).length+(g y).length) by omega,List.drop_length_add_append]
   simp
def jP{e:TypeId}{sz b o c nn:Nat}{cs pre junk:List Value}(hp:pre.length=o)(hn:nn≤c)(hc:c*sz≤cs.length+junk.length)(hl:cs.length=nn*sz)(H:List HP) :
  aq (ak b (cl (pre++cs++junk) e)::H) (aK e sz (.slice (some ⟨b,o,none⟩) nn c) nn cs::H) :=
 aq.fold (B:=[_]) fun h hs=>⟨h,sub.refl h,hl,.inr ⟨b,o,c,pre,junk,rfl,hp,hn,hc,eO hs⟩⟩
theorem A9{α:Type}{p:α→Bool}{l:List α}(h:¬jt p l = -1):∃(i:Nat) (x:α),jt p l=i∧l[i]?=Option.some x∧p x=true∧∀y∈l.take i,p y=false:=by
 have hex:∃(i:Nat) (x:α),l[i]?=Option.some x∧p x=true∧∀y∈l.take i,p y=false:=by
  have mJ:l.any p=true:=by
   cases ha:l.any p with
   | true=>rfl
   | false =>
    have h1:=nk.2 ha
    have h2:=LL p l
    omega
  clear h
  induction l with
  | nil=>simp at mJ
  | cons y l ih =>
   cases hy:p y with
   | true=>exact⟨0,y,by simp,hy,by simp⟩
   | false =>
    simp only[List.any_cons,hy,Bool.false_or]at mJ
    obtain⟨i,x,h1,h2,h3⟩:=ih mJ
    refine⟨i+1,x,by simpa using h1,h2,fun z hz=>?_⟩
    grind
 grind [iY]
theorem p8(pre W junk vs:List Value)(q:Nat)(h:q+vs.length≤W.length):(pre++W++junk).take (pre.length+q)++vs++(pre++W++junk).drop (pre.length+q+vs.length)=pre++(W.take q++vs++W.drop (q+vs.length))++junk:=by
 rw[List.append_assoc pre W junk,List.take_length_add_append,Nat.add_assoc,List.drop_length_add_append,List.take_append_of_le_length aj,List.drop_append_of_le_length aj]
 grind
theorem Ky{α:Type}{g:α→List Value}{s:Nat}(hs:∀x,(g x).length=s)(l:List α)(i:Nat)(hi:i≤l.length):(l.take i).flatMap g=(l.flatMap g).take (i*s):=by
 have h1:l.flatMap g=(l.take i).flatMap g++(l.drop i).flatMap g:=by rw[← List.flatMap_append,List.take_append_drop]
 have h2:((l.take i).flatMap g).length=i*s:=by rw[bR hs,List.length_take,Nat.min_eq_left hi]
 grind
theorem kL(n:Nat)(x:List Value):(List.replicate n x).flatten.length=n*x.length:=by
 simp_all
theorem wN(x n:Nat)(hx:x<9223372036854775808)(hn:n<63):IntKind.i64.wrap ((BitVec.ofInt IntKind.i64.bits (x:Int) &&& BitVec.ofInt IntKind.i64.bits ((2 ^ n-1:Nat):Int)).toNat:Int)=((x%2 ^ n:Nat):Int):=by
 have e1:(BitVec.ofInt IntKind.i64.bits (x:Int)).toNat=x:=by
  rw[BitVec.toNat_ofInt]
  have:IntKind.i64.bits=64:=rfl
  grind
 have hp:2 ^ n<2 ^ 63:=Nat.pow_lt_pow_right aj hn
 have kY:0<2 ^ n:=Nat.pow_pos aj
 have e2:(BitVec.ofInt IntKind.i64.bits ((2 ^ n-1:Nat):Int)).toNat=2 ^ n-1:=by
  rw[BitVec.toNat_ofInt]
  have:IntKind.i64.bits=64:=rfl
  grind
 rw[BitVec.toNat_and,e1,e2,Nat.and_two_pow_sub_one_eq_mod]
 have dk:x%2 ^ n<9223372036854775808:=Nat.lt_of_le_of_lt (Nat.mod_le _ _) hx
 grind [dr,js]
theorem KH(x:Nat)(hx:x<256):IntKind.u8.wrap ((BitVec.ofInt IntKind.u8.bits (x:Int) &&& BitVec.ofInt IntKind.u8.bits 1).toNat:Int)=((x%2:Nat):Int):=by
 have e1:(BitVec.ofInt IntKind.u8.bits (x:Int)).toNat=x:=by
  rw[BitVec.toNat_ofInt]
  have:IntKind.u8.bits=8:=rfl
  grind
 grind [dr,js]
end Go.SL
namespace Go.SL
theorem ofInt64(x:Int):(BitVec.ofInt IntKind.i64.bits x).toNat=(x%18446744073709551616).toNat:=by
 rw[BitVec.toNat_ofInt];rfl
theorem sl(x:Int):IntKind.i64.wrap ((BitVec.ofInt IntKind.i64.bits x &&& BitVec.ofInt IntKind.i64.bits 1).toNat:Int)=x%2:=by
 grind [ofInt64,dr,js]
def lO:Nat→Nat→Pt→Pt
 | _,0,p=>p
 | i,n+1,p => .st i (lO (i+1) n p)
def lG(n:Nat):Value.int .u8 (IntKind.u8.wrap (n:Int))=u8 (UInt8.ofNat n):=by
 have h:IntKind.u8.wrap (n:Int)=(n:Int)%256:=by simp[IntKind.wrap,IntKind.bits,IntKind.signed]
 rw[h]
 simp only[u8,UInt8.toNat_ofNat']
 congr 1
theorem zC{a c k:Nat}(ha:a<2 ^ k):a ||| c*2 ^ k=a+c*2 ^ k:=by
 have:=Nat.shiftLeft_add_eq_or_of_lt ha c
 rw[Nat.shiftLeft_eq]at this
 grind
theorem zE{a:Nat}(h:a<18446744073709551616):(BitVec.ofInt IntKind.i64.bits (a:Int)).toNat=a:=by
 rw[ofInt64];omega
def vS{a:Nat}(h:a<18446744073709551616):(BitVec.ofInt IntKind.u64.bits (a:Int)).toNat=a:=by
 rw[BitVec.toNat_ofInt]
 show((a:Int)%18446744073709551616).toNat=a
 omega
theorem zD{a:Nat}(h:a<256):(BitVec.ofInt IntKind.u8.bits (a:Int)).toNat=a:=by
 rw[BitVec.toNat_ofInt]
 show((a:Int)%256).toNat=a
 omega
theorem JM{a c k:Nat}(ha:a<2 ^ k)(h:a+c*2 ^ k<9223372036854775808) :
  IntKind.i64.wrap ((BitVec.ofInt IntKind.i64.bits (a:Int) ||| BitVec.ofInt IntKind.i64.bits ((c*2 ^ k:Nat):Int)).toNat:Int)=((a+c*2 ^ k:Nat):Int):=by
 rw[BitVec.toNat_or,zE aj,zE aj,zC ha]
 grind [dr,js]
theorem ZW{a c k:Nat}(ha:a<2 ^ k)(h:a+c*2 ^ k<18446744073709551616) :
  IntKind.u64.wrap ((BitVec.ofInt IntKind.u64.bits (a:Int) ||| BitVec.ofInt IntKind.u64.bits ((c*2 ^ k:Nat):Int)).toNat:Int)=((a+c*2 ^ k:Nat):Int):=by
 rw[BitVec.toNat_or,vS aj,vS aj,zC ha]
 grind [dr,js]
set_option maxRecDepth 10000 in
theorem Qo(x:Nat)(hx:x<256):IntKind.u8.wrap ((BitVec.ofInt IntKind.u8.bits (x:Int) ||| BitVec.ofInt IntKind.u8.bits 128).toNat:Int)=((x%128+128:Nat):Int):=by
 have e2:(BitVec.ofInt IntKind.u8.bits (128:Int)).toNat=128:=by decide
 have h:∀y,y<256→y ||| 128=y%128+128:=by decide
 grind [zD,dr,js]
theorem Fv(x:Nat)(hx:x<256):IntKind.u8.wrap ((BitVec.ofInt IntKind.u8.bits (x:Int) &&& ~~~ BitVec.ofInt IntKind.u8.bits 128).toNat:Int)=((x%128:Nat):Int):=by
 have e2:(~~~ BitVec.ofInt IntKind.u8.bits (128:Int)).toNat=2 ^ 7-1:=by decide
 rw[BitVec.toNat_and,zD hx,e2,Nat.and_two_pow_sub_one_eq_mod]
 grind [dr,js]
theorem Fu(x n:Nat)(hx:x<18446744073709551616)(hn:n<64):IntKind.u64.wrap ((BitVec.ofInt IntKind.u64.bits (x:Int) &&& BitVec.ofInt IntKind.u64.bits ((2 ^ n-1:Nat):Int)).toNat:Int)=((x%2 ^ n:Nat):Int):=by
 have hp:2 ^ n<2 ^ 64:=Nat.pow_lt_pow_right aj hn
 have kY:0<2 ^ n:=Nat.pow_pos aj
 rw[BitVec.toNat_and,vS hx,vS aj,Nat.and_two_pow_sub_one_eq_mod]
 have dk:x%2 ^ n<18446744073709551616:=Nat.lt_of_le_of_lt (Nat.mod_le _ _) hx
 grind [dr,js]
def vX(n:Nat):List UInt8:=[UInt8.ofNat n,UInt8.ofNat (n/256),UInt8.ofNat (n/65536),UInt8.ofNat (n/16777216)]
def mf(b:List UInt8):Nat:=(b.getD 0 0).toNat+(b.getD 1 0).toNat*256+(b.getD 2 0).toNat*65536+(b.getD 3 0).toNat*16777216
def tl(n:Nat):(vX n).length=4:=rfl
def LF(n:Nat)(h:n<4294967296)(rest:List UInt8):mf (vX n++rest)=n:=by
 simp only[mf,vX,List.cons_append,List.getD_cons_zero,List.getD_cons_succ,UInt8.toNat_ofNat']
 omega
theorem QM(b:List UInt8):mf b<4294967296:=by
 unfold mf
 have h:∀x:UInt8,x.toNat<256:=fun x=>x.toNat_lt
 grind
section
variable{P:Program}{U:Tr}[hU:gF P U]{f:FuncId}{n:Nat}{R:Ending→World→Prop}{G:cL}{k:List Item}{L:gh}{H H':List HP}{S:World→Prop}{all:Array Oper}{rest:Pl}{ty:TypeId}{pos:String}{af:Array Edge}{gd:Option (Nat × Bool)}{m:Bool}{d:Tmp}
theorem dP{Hs:List HP}{t:TypeId}{x:Operand}{b o off nn cap:Nat}{cd:Ty}{es cs:List Value}{A:HP}(i idx:Nat)(hd:Nat.blt d n=true)(hx:ev L x=some (.pointer (some ⟨b,off,none⟩)))(hi:cD Hs i=some A)(hv:Vw A (.slice (some ⟨b,o,none⟩) nn cap) nn cs)(mh:off=o+idx)(tR:∀j v,es[j]?=some v→cs[idx+j]?=some v)(ht:U.get t=some cd)(hg:cd.isAgg=true)(hl:Nat.beq es.length cd.info.size=true)(h:J P f n R G (fun w=>Sat G w Hs) all rest k ((d,.agg es.toArray)::L) H):J P f n R G (fun w=>Sat G w Hs) all (.cons true true ⟨some d,.load t x,ty,pos,af,gd⟩ rest) k L H :=
 mK hd (fun a w ha hw=>by
  have hc:∀j v,es[j]?=some v→w.cell? ⟨b,off+j,none⟩=some v:=fun j v hj=>by
   obtain⟨h,hh,hA⟩:=Sat.kp hw hi
   have:=hv.cell (tR j v hj) h hA
   grind [ek]
  simp[execOp,ha.ev hx,gZ (P:=P) ht hg (Nat.eq_of_beq_eq_true hl) hc]) h
end
end Go.SL
