import Derived.Test.YtjpboghdolfekaaGreatDoorQMQ1
import Derived.Laws.BytesString
import Derived.Laws.IdiomStrings
import Derived.DeepKeys
set_option linter.unusedSectionVars false
set_option linter.unusedSimpArgs false
set_option linter.unusedVariables false
set_option linter.defProp false
namespace Go.SL
theorem Vw.lV(e:TypeId)(size:Nat)(v:Value)(n:Nat)(cs:List Value)(h0:∃h,aH e size v n cs h):Vw (aH e size v n cs) v n cs:=by
 obtain⟨h,hl,⟨a,rfl,rfl,_⟩|⟨b,o,cap,pre,junk,rfl,hp,hn,hc,_⟩⟩:=h0
 ·exact⟨a,0,rfl,.inl (List.eq_nil_of_length_eq_zero (by simpa using hl))⟩
 ·refine⟨_,cap,rfl,.inr ⟨b,o,rfl,fun h hA j c hj=>?_⟩⟩
  obtain⟨_,⟨a,hv,_,_⟩|⟨b',o',fX,af1,kH,hv,qv,_,_,Pb⟩⟩:=hA
  ·grind
  ·simp only[Value.slice.injEq,Option.some.injEq,Addr.mk.injEq,and_true,true_and]at hv
   obtain⟨⟨rfl,rfl⟩,rfl⟩:=hv
   unfold dq
   rw[Pb b,if_pos rfl]
   grind [cl]
theorem Vw.ag{b:Nat}{l:List Value}{e:TypeId}{o n cap:Nat}{cs:List Value}(h:(l.drop o).take cs.length=cs):Vw (ag b (cl l e)) (.slice (some ⟨b,o,none⟩) n cap) n cs:=by
 refine⟨_,cap,rfl,.inr ⟨b,o,rfl,fun h' hA j c hj=>?_⟩⟩
 unfold dq
 rw[hA b,if_pos rfl]
 grind [cl]
theorem Vw.nil(A:HP)(a:Option Addr)(cap:Nat):Vw A (.slice a 0 cap) 0 []:=⟨a,cap,rfl,.inl rfl⟩
theorem Vw.mono{A B:HP}{v:Value}{n:Nat}{cs:List Value}(h:Vw A v n cs)(hAB:∀h,B h→∃h',sub h' h∧A h'):Vw B v n cs:=by
 obtain⟨a,cap,hv,h0|⟨b,o,ha,hc⟩⟩:=h
 ·exact⟨a,cap,hv,.inl h0⟩
 ·refine⟨a,cap,hv,.inr ⟨b,o,ha,fun h hB j c hj=>?_⟩⟩
  obtain⟨h',hs,hA⟩:=hAB h hB
  have:=hc h' hA j c hj
  unfold dq at this ⊢
  split at this
  ·rename_i x y z hb;rw[hs b _ hb];exact this
  grind
theorem Vw.cells{A:HP}{v:Value}{n:Nat}{cs:List Value}(h:Vw A v n cs){G:cg}{w:World}{H:List HP}(hw:Sat G w H){i:Nat}(hi:bU H i=some A) :
  ∃a cap,v = .slice a n cap∧(cs=[]∨∃b o,a=some ⟨b,o,none⟩∧∀j c,cs[j]?=some c→w.cell? ⟨b,o+j,none⟩=some c):=by
 obtain⟨a,cap,hv,h0|⟨b,o,ha,hc⟩⟩:=h
 ·grind
 ·obtain⟨h,hh,hA⟩:=hw.jM hi
  grind [gb]
theorem Addr.add_eq(b o i:Nat):(⟨b,o,none⟩:Addr).add i=⟨b,o+i,none⟩:=by
 unfold Addr.add;split
 ·rename_i h;subst h;rfl
 ·rfl
section
variable{P:Program}{U:Tr}[hU:eO P U]{f:FuncId}{n:Nat}{R:Ending→World→Prop}{G:cg}{k:List Item}{L:eC}{H H':List HP}{S:World→Prop}{all:Array Oper}{rest:Pl}{ty:TypeId}{pos:String}{af:Array Edge}{gd:Option (Nat × Bool)}{m:Bool}{d:Tmp}
def ml{A:HP}{v:Value}{nn size:Nat}{cs:List Value}{w:World}{i:Nat}(hv:Vw A v nn cs)(hw:Sat G w H)(hi:bU H i=some A)(hl:cs.length=nn*size) :
  (Builtin.firstCells size nn v).run P w = .ok cs.toArray w:=by
 obtain⟨a,cap,rfl,h0|⟨b,o,rfl,hc⟩⟩:=hv.cells hw hi
 ·subst h0
  have h0:nn*size=0:=by simpa using hl.symm
  cases a with
  | none=>simp[Builtin.firstCells]
  | some a=>simp[Builtin.firstCells,h0,loadCells,loadCellsFrom]
 ·have:=run_loadCells_list (P:=P) w ⟨b,o,none⟩ cs (fun j c hj=>by rw[Addr.add_eq];exact hc j c hj)
  rw[hl]at this
  simp[Builtin.firstCells,this]
def ve{A:HP}{v:Value}{nn size q:Nat}{cs:List Value}{w:World}{i:Nat}(hv:Vw A v nn cs)(hw:Sat G w H)(hi:bU H i=some A)(hl:cs.length=nn*size)(hq:q≤nn) :
  (Builtin.firstCells size q v).run P w = .ok (cs.take (q*size)).toArray w:=by
 obtain⟨a,cap,rfl,h0|⟨b,o,rfl,hc⟩⟩:=hv.cells hw hi
 ·subst h0
  have h0:nn*size=0:=by simpa using hl.symm
  have h1:q*size=0:=by have:=Nat.mul_le_mul_right size hq;omega
  cases a with
  | none=>simp[Builtin.firstCells]
  | some a=>simp[Builtin.firstCells,h1,loadCells,loadCellsFrom]
 ·have h2:(cs.take (q*size)).length=q*size:=by rw[List.length_take,hl];exact Nat.min_eq_left (Nat.mul_le_mul_right size hq)
  have:=run_loadCells_list (P:=P) w ⟨b,o,none⟩ (cs.take (q*size)) (fun j c hj=>by
   rw[Addr.add_eq]
   rw[List.getElem?_take]at hj
   split at hj
   ·exact hc j c hj
   ·cases hj)
  rw[h2]at this
  simp[Builtin.firstCells,this]
def Oz(e:TypeId)(size:Nat)(a:Option Addr):∀h,emp h→aH e size (.slice a 0 0) 0 [] h:=fun h he=>⟨by simp,.inl ⟨a,rfl,rfl,he⟩⟩
theorem se(pre cs junk news:List Value)(o:Nat)(ho:pre.length=o) :
  (pre++cs++junk).take (o+cs.length)++news++(pre++cs++junk).drop (o+cs.length+news.length)=pre++(cs++news)++junk.drop news.length:=by
 subst ho
 have h1:(pre++cs++junk).take (pre.length+cs.length)=pre++cs:=by
  grind
 have h2:(pre++cs++junk).drop (pre.length+cs.length+news.length)=junk.drop news.length:=by
  rw[show pre.length+cs.length=(pre++cs).length by simp];rw[List.drop_append];simp
 grind
theorem Es{t t2 elem:TypeId}{bL DT te:Ty}{z v v2:Value}{nn mm:Nat}{cs news:List Value}{A:HP}{rty:TypeId}{w:World}(i j:Nat)(ht:U.get t=some bL)(hu:bL.fe = .slice elem)(h2:U.get t2=some DT)(PD:∀q,DT.fe ≠ .int q)(he:U.get elem=some te)(hz:te.info.zero=some z)(G0:(bg z).length=te.info.size)(hw:Sat G w H)(hi:bU H i=some (aH elem te.info.size v nn cs))(hj:bU H j=some A)(qX:Vw A v2 mm news)(qZ:news.length=mm*te.info.size)(gA:∀u∈news,u.oneCell'=true)(Fe:nn+mm≤9223372036854775807)(ny:(nn+mm)*te.info.bytes≤140737488355328) :
    ∃v' w',(Builtin.append_ #[t,t2] rty #[v,v2]).run P w = .ok v' w'∧(∀H',jI i (aH elem te.info.size v' (nn+mm) (cs++news)) H [] = .mk H'→Sat G w' H'):=by
  have Mr:∀B H',jI i B H [] = .mk H'→H'.Perm (B::H.eraseIdx i):=fun B H' hp=>by simpa using nf i _ _ H [] H' hp hi
  have aeP:∃h,aH elem te.info.size v nn cs h:=by obtain⟨h,_,hA⟩:=hw.jM hi;exact⟨h,hA⟩
  have dt:=Vw.lV _ _ _ _ _ aeP
  have As:=ml (P:=P) qX hw hj qZ
  obtain⟨a2,c2,aeF,_⟩:=qX
  subst aeF
  have Mq:=hw.cp (ak.perm (cJ (by rw[← de];exact hi)))
  obtain⟨hT,hO,PB,hh,cH,h1,h2h,xF,hB2,adK,ME⟩:=Mq
  obtain⟨hl,gB⟩:=xF
  have sD:∀ {w:World},(underlying t2).run P w = .ok DT.fe w:=fun {w}=>run_underlying h2 w
  have hnz:(DT.fe matches .int _)=false:=by
    cases hq:DT.fe <;> first|rfl|exact absurd hq (PD _)
  have aec:=ml (P:=P) dt hw hi hl
  by_cases tI:∃a cap,v = .slice a nn cap∧nn+mm≤cap
  · obtain⟨a,cap,rfl,tI⟩:=tI
    rcases gB with⟨a',hv,hn0,vZ⟩|⟨b,o,fX,pre,junk,hv,hp,hn,hc,Pb⟩
    · simp only[Value.slice.injEq]at hv
      obtain⟨rfl,rfl,rfl⟩:=hv
      have CC:mm=0:=by omega
      subst CC
      have jy:cs=[]:=List.eq_nil_of_length_eq_zero (by simpa using hl)
      have adh:news=[]:=List.eq_nil_of_length_eq_zero (by simpa using qZ)
      subst jy;subst adh
      refine⟨.slice a 0 0,w,?_,fun H' hp=>?_⟩
      · cases a with
        | none=>simp[Builtin.append_,run_underlying ht,hu,run_sizeOf he,sD,hnz,Builtin.lenOf,As]
        | some a=>simp[Builtin.append_,run_underlying ht,hu,run_sizeOf he,sD,hnz,Builtin.lenOf,As,storeCells]
      · refine(show Sat G w (aH elem te.info.size (.slice a 0 0) 0 []::H.eraseIdx i)from ?_).cp (ak.perm (Mr _ _ hp).symm)
        exact⟨hT,hO,PB,hh,cH,h1,h2h,⟨hl,.inl ⟨a,rfl,rfl,vZ⟩⟩,hB2,adK,ME⟩
    · simp only[Value.slice.injEq]at hv
      obtain⟨rfl,_,rfl⟩:=hv
      have CI:news.length≤junk.length:=by
        have h3:(nn+mm)*te.info.size≤cap*te.info.size:=Nat.mul_le_mul_right _ tI
        grind
      have hb:w.heap[b]?=some (cl (pre++cs++junk) elem):=by
        refine cH b _ ?_
        rw[ME b,Pb b];simp
      have dE:=fm (P:=P) news 0 (o+nn*te.info.size) (pre++cs++junk) w hb (by simp;omega) gA
      simp only[Nat.add_zero]at dE
      rw[← hl,se pre cs junk news o hp]at dE
      refine⟨.slice (some ⟨b,o,none⟩) (nn+mm) cap,{ w with heap:=w.heap.setIfInBounds b (cl (pre++(cs++news)++junk.drop news.length) elem) },?_,fun H' qv=>?_⟩
      · rw[hl]at dE
        simp[Builtin.append_,run_underlying ht,hu,run_sizeOf he,sD,hnz,Builtin.lenOf,tI,As,Addr.add_eq,dE]
      · have h4:=Sat.zS (o':=cl (pre++(cs++news)++junk.drop news.length) elem) (show Sat G w (ag b (cl (pre++cs++junk) elem)::H.eraseIdx i)from⟨hT,hO,PB,hh,cH,h1,h2h,Pb,hB2,adK,ME⟩)
        refine(h4.cp ?_).cp (ak.perm (Mr _ _ qv).symm)
        refine ak.fold (B:=[_]) fun h hs=>⟨h,sub.refl h,?_⟩
        refine⟨by simp[hl,qZ,Nat.add_mul],.inr ⟨b,o,cap,pre,_,rfl,hp,tI,?_,cT hs⟩⟩
        simp;omega
  · have Oc:∃a cap,v = .slice a nn cap:=by obtain⟨a,cap,hv,_⟩:=dt;exact⟨a,cap,hv⟩
    obtain⟨a,cap,rfl⟩:=Oc
    have Kx:¬nn+mm≤cap:=fun h=>tI ⟨a,cap,rfl,h⟩
    have hgs:=growslice_fits (need:=nn+mm) (old:=cap) (bytes:=te.info.bytes) aj ny
    have eN:=grownCap_ge w (nn+mm) cap elem
    have hzc:z.cells=(bg z).toArray:=cW z
    refine⟨.slice (some ⟨w.heap.size,0,none⟩) (nn+mm) (grownCap w (nn+mm) cap elem),w.drew.alloc (cl (cs++news++(Builtin.zeroCells z.cells (grownCap w (nn+mm) cap elem-(nn+mm))).toList) elem),?_,fun H' qv=>?_⟩
    · have yZ:=ml (P:=P) (G:=G) (w:=w.drew) dt (hw.draw _) hi hl
      have afa:=ml (P:=P) (G:=G) (w:=w.drew) ⟨a2,c2,rfl,by assumption⟩ (hw.draw _) hj qZ
      have Fc:¬((9223372036854775807:Int)<(nn:Int)+(mm:Int)):=by omega
      have aat:¬281474976710656<Builtin.nextslicecap (nn+mm) cap*te.info.bytes:=by omega
      simp[Builtin.append_,run_underlying ht,hu,run_sizeOf he,sD,hnz,Builtin.lenOf,Kx,Fc,aat,Question.forced,run_typeInfo he,cY he hz,newRow,yZ,afa,grownCap,cl]
      congr 2
      grind
    · have h5 : Sat G (w.drew.alloc (cl (cs ++ news ++ (Builtin.zeroCells z.cells (grownCap w (nn + mm) cap elem - (nn + mm))).toList) elem))
          (ag w.heap.size (cl (cs++news++(Builtin.zeroCells z.cells (grownCap w (nn+mm) cap elem-(nn+mm))).toList) elem)::H.eraseIdx i):=by
        have h6:Sat G w (H.eraseIdx i):=(hw.cp (ak.perm (cJ (by rw[← de];exact hi)))).cp (ak.drop _ _)
        exact Sat.alloc (w:=w.drew) (h6.draw _) _
      refine(h5.cp ?_).cp (ak.perm (Mr _ _ qv).symm)
      refine ak.fold (B:=[_]) fun h hs=>⟨h,sub.refl h,?_⟩
      refine⟨by simp[hl,qZ,Nat.add_mul],.inr ⟨w.heap.size,0,_,[],_,rfl,rfl,eN,?_,by simpa using cT hs⟩⟩
      have h7:(Builtin.zeroCells z.cells (grownCap w (nn+mm) cap elem-(nn+mm))).size=(grownCap w (nn+mm) cap elem-(nn+mm))*te.info.size:=by rw[size_zeroCells,hzc];simp[G0]
      rw[List.length_append,hl,qZ,Array.length_toList,h7,← Nat.add_mul,← Nat.add_mul]
      grind
theorem NY{x y:Operand}{t t2 elem:TypeId}{bL DT te:Ty}{z v v2:Value}{nn mm:Nat}{cs news:List Value}{A:HP}(i j:Nat)(hd:Nat.blt d n=true)(hx:ev L x=some v)(hy:ev L y=some v2)(ht:U.get t=some bL)(hu:bL.fe = .slice elem)(h2:U.get t2=some DT)(PD:(match DT.fe with | .int _=>false|_=>true)=true)(he:U.get elem=some te)(hz:te.info.zero=some z)(G0:Nat.beq (bg z).length te.info.size=true)(hi:bU H i=some (aH elem te.info.size v nn cs))(hj:bU H j=some A)(qX:Vw A v2 mm news)(qZ:news.length=mm*te.info.size)(gA:∀u∈news,u.oneCell'=true)(Fe:nn+mm≤9223372036854775807)(ny:(nn+mm)*te.info.bytes≤140737488355328){Hf:Value→List HP}(hp:∀v',jI i (aH elem te.info.size v' (nn+mm) (cs++news)) H [] = .mk (Hf v'))(hS:∀v' w,Sat G w (Hf v')→Sx rest S w)(h:∀v',J P f n R G S all rest k ((d,v')::L) (Hf v')) :
  J P f n R G S all (.cons false true ⟨some d,.call { callee := .builtin .append,args := #[x,y],argTypes := #[t,t2] },ty,pos,af,gd⟩ rest) k L H:=by
 refine lO hd (fun u H1=>H1=Hf u) (fun a w ha hw=>?_) ?_ ?_
 ·obtain⟨v',w',hr,hs⟩:=Es (P:=P) (rty:=ty) i j ht hu h2 (fun q e=>by rw[e]at PD;cases PD) he hz (Nat.eq_of_beq_eq_true G0) hw hi hj qX qZ gA Fe ny
  refine⟨v',w',_,?_,rfl,hs _ (hp v')⟩
  simp[execOp,resolve,invoke,builtin,ha.ev hx,ha.ev hy,hr]
 ·grind
 grind
theorem NW{x y:Operand}{t t2 elem:TypeId}{bL te:Ty}{v2:Value}{b o dl dc mm:Nat}{l src l':List Value}{e:TypeId}{A:HP}(i j:Nat)(hd:Nat.blt d n=true)(hx:ev L x=some (.slice (some ⟨b,o,none⟩) dl dc))(hy:ev L y=some v2)(ht:U.get t=some bL)(hu:bL.fe = .slice elem)(he:U.get elem=some te)(hi:bU H i=some (ag b (cl l e)))(hj:bU H j=some A)(qX:Vw A v2 mm src)(qZ:src.length=mm*te.info.size)(gA:∀u∈src,u.oneCell'=true)(CI:o+(min mm dl)*te.info.size≤l.length)(MB:l'=l.take o++src.take (min mm dl*te.info.size)++l.drop (o+min mm dl*te.info.size))(hp:jI i (ag b (cl l' e)) H [] = .mk H')(hS:∀w,Sat G w H'→Sx rest S w)(h:J P f n R G S all rest k ((d,.int .i64 (min mm dl:Nat))::L) H') :
  J P f n R G S all (.cons false true ⟨some d,.call { callee := .builtin .copy,args := #[x,y],argTypes := #[t,t2] },ty,pos,af,gd⟩ rest) k L H:=by
 refine lO hd (fun u H1=>u = .int .i64 (min mm dl:Nat)∧H1=H') (fun a w ha hw=>?_) ?_ ?_
 ·have hf:=ve (P:=P) (q:=min mm dl) qX hw hj qZ (Nat.min_le_left _ _)
  obtain⟨a2,c2,hv',_⟩:=qX
  subst hv'
  have h3:(src.take (min mm dl*te.info.size)).length=min mm dl*te.info.size:=by rw[List.length_take,qZ];exact Nat.min_eq_left (Nat.mul_le_mul_right _ (Nat.min_le_left _ _))
  have dE:=fm (P:=P) (src.take (min mm dl*te.info.size)) 0 o l w (hw.rf hi) (by rw[h3];simpa using CI) (fun u hu=>gA u (List.mem_of_mem_take hu))
  simp only[Nat.add_zero,h3,← MB]at dE
  refine⟨_,_,H',?_,⟨rfl,rfl⟩,hw.put hi hp⟩
  simp only[execOp,resolve,invoke,builtin,Sem.run_bind,Sem.run_pure,Result.andThen_ok,List.map_toArray,List.map_cons,List.map_nil,ha.ev hx,ha.ev hy,Builtin.copy_,List.getElem?_toArray,List.getElem?_cons_zero,List.getElem?_cons_succ,
   run_underlying ht,hu,Builtin.lenOf,run_sizeOf he]
  rw[show Nat.min mm dl=min mm dl from rfl]
  simp only[hf,Result.andThen_ok,dE,goInt]
 ·grind
 grind
theorem Dv{x y:Operand}{t elem:TypeId}{bL te:Ty}{z:Value}{p q:Nat}(hd:Nat.blt d n=true)(hx:ev L x=some (.int .i64 (p:Int)))(hy:ev L y=some (.int .i64 (q:Int)))(ht:U.get t=some bL)(hu:bL.fe = .slice elem)(he:U.get elem=some te)(hz:te.info.zero=some z)(G0:Nat.beq (bg z).length 1=true)(aeu:Nat.beq te.info.size 1=true)(Kt:p≤q)(Fe:q≤9223372036854775807)(ny:te.info.bytes*q≤281474976710656)(hS:∀b w,Sat G w (ag b (cl (List.replicate q ((bg z).headD undef)) elem)::H)→Sx rest S w)(h:∀b,J P f n R G S all rest k ((d,.slice (some ⟨b,0,none⟩) p q)::L) (ag b (cl (List.replicate q ((bg z).headD undef)) elem)::H)) :
  J P f n R G S all (.cons false true ⟨some d,.makeSlice t x y,ty,pos,af,gd⟩ rest) k L H:=by
 refine lO hd (fun u H1=>∃b,u = .slice (some ⟨b,0,none⟩) p q∧H1=ag b (cl (List.replicate q ((bg z).headD undef)) elem)::H) (fun a w ha hw=>?_) ?_ ?_
 ·refine⟨_,_,_,?_,⟨w.heap.size,rfl,rfl⟩,hw.alloc _⟩
  have h1:te.info.size=1:=Nat.eq_of_beq_eq_true aeu
  have h2:(bg z).length=1:=Nat.eq_of_beq_eq_true G0
  obtain⟨u,hu1⟩:∃u,bg z=[u]:=List.length_eq_one_iff.1 h2
  have wq:IntKind.i64.wrap (q:Int)=q:=cz (by simp only[fZ];omega)
  have wp:IntKind.i64.wrap (p:Int)=p:=cz (by simp only[fZ];omega)
  have hb:¬((281474976710656:Int)<(te.info.bytes:Int)*(q:Int)):=by omega
  have aaf:¬((q:Int)<(p:Int)):=by omega
  have v7:z.cells = #[u]:=by rw[cW,hu1]
  have hq0:¬((q:Int)<0):=by omega
  have G6:¬((p:Int)<0):=by omega
  by_cases h0:q=0
  ·subst h0
   have aeV:p=0:=by omega
   subst aeV
   have w0:IntKind.i64.wrap 0=0:=cz (by simp only[fZ];omega)
   simp[execOp,ha.ev hx,ha.ev hy,Instr.makeSlice,run_underlying ht,hu,asInt,asIntOf,run_typeInfo he,w0,run_sizeOf he,h1,newRow,cl]
   grind
  ·have jy:(Array.range q).map (fun i=>(#[u]:Array Value)[i%(#[u]:Array Value).size]!)=(List.replicate q u).toArray:=by
    grind
   have nX:(Instr.makeSlice t (.int .i64 (p:Int)) (.int .i64 (q:Int))).run P w = .ok (.slice (some ⟨w.heap.size,0,none⟩) p q) { w with heap:=w.heap.push (.cells (List.replicate q u).toArray elem) }:=by
    unfold Instr.makeSlice
    simp only[Sem.run_bind,run_underlying ht,Result.andThen_ok,hu,asInt,asIntOf,Sem.run_pure,run_typeInfo he,wp,wq]
    rw[if_neg (by simp[hb,aaf])]
    simp only[pure_bind,Sem.run_bind,run_askRoom,Result.andThen_ok,run_sizeOf he,h1,Nat.mul_one,Int.toNat_natCast,h0,if_false,cY he hz,Sem.run_pure,v7,jy,newRow,run_newObj]
   simp only[execOp,ha.ev hx,ha.ev hy,Sem.run_bind,nX,Result.andThen_ok,Sem.run_pure,hu1,List.headD_cons,cl]
 ·grind
 grind
def IP(L:eC):Option Operand→Option Int
 | none=>some 0
 | some x=>match ev L x with
  | some (.int _ l)=>some l
  | _=>none
def y4(L:eC)(len:Nat):Option Operand→Option Int
 | none=>some (len:Int)
 | some x=>match ev L x with
  | some (.int _ l)=>some l
  | _=>none
def p8{lo hi:Option Operand}{len cap:Nat}{p q:Int}{a:Act}{w:World}(isSlice:Bool)(ha:Has n L a)(yY:IP L lo=some p)(DW:y4 L len hi=some q)(h0:0≤p)(Kt:p≤q)(hqc:hi=none∨q≤(cap:Int)) :
  (Instr.sliceBounds isSlice len cap (lo.map a.eval) (hi.map a.eval) none).run P w = .ok (p.toNat,q.toNat,cap) w:=by
 have hh:(match hi.map a.eval with|some v=>Instr.sliceBound v cap (if isSlice then .sliceAcap else .sliceAlen)|none=>pure len:Sem Nat).run P w = .ok q.toNat w:=by
  cases hi with
  | none=>simp only[y4,Option.some.injEq]at DW;subst DW;simp
  | some x =>
   simp only[y4]at DW
   split at DW
   ·rename_i j l hx
    cases DW
    simp only[Option.map_some,ha.ev hx,Instr.sliceBound,asIntOf,Sem.run_bind,Sem.run_pure,Result.andThen_ok]
    rw[if_pos ⟨aj,hqc.resolve_left (by simp)⟩];rfl
   ·cases DW
 have hl:(match lo.map a.eval with|some v=>Instr.sliceBound v q.toNat .sliceB|none=>pure 0:Sem Nat).run P w = .ok p.toNat w:=by
  cases lo with
  | none=>simp only[IP,Option.some.injEq]at yY;subst yY;simp
  | some x =>
   simp only[IP]at yY
   split at yY
   ·rename_i j l hx
    cases yY
    simp only[Option.map_some,ha.ev hx,Instr.sliceBound,asIntOf,Sem.run_bind,Sem.run_pure,Result.andThen_ok]
    rw[if_pos ⟨h0,aj⟩];rfl
   ·cases yY
 unfold Instr.sliceBounds
 cases hi with
 | none =>
  cases lo with
  | none=>simp at hh hl ⊢;exact⟨hl.symm ▸ rfl,hh⟩
  | some x=>simp at hh hl ⊢;simp[hl,hh]
 | some y =>
  cases lo with
  | none=>simp at hh hl ⊢;simp[hl,hh]
  | some x=>simp at hh hl ⊢;simp[hl,hh]
theorem Qf{t elem:TypeId}{bL te:Ty}{x:Operand}{lo hi:Option Operand}{b o len cap:Nat}{p q:Int}(hd:Nat.blt d n=true)(ht:U.get t=some bL)(hu:bL.fe = .slice elem)(he:U.get elem=some te)(hx:ev L x=some (.slice (some ⟨b,o,none⟩) len cap))(yY:IP L lo=some p)(DW:y4 L len hi=some q)(h0:0≤p)(Kt:p≤q)(hqc:hi=none∨q≤(cap:Int))(h:∀o',(p.toNat≠cap→o'=o+p.toNat*te.info.size)→(p.toNat=cap→o'=o)→J P f n R G S all rest k ((d,.slice (some ⟨b,o',none⟩) (q.toNat-p.toNat) (cap-p.toNat))::L) H) :
  J P f n R G S all (.cons m true ⟨some d,.slice t x lo hi none,ty,pos,af,gd⟩ rest) k L H:=by
 refine cR hd (v := .slice (some ⟨b,if p.toNat=cap then o else o+p.toNat*te.info.size,none⟩) (q.toNat-p.toNat) (cap-p.toNat)) (fun a ha w=>?_) (h _ (fun e=>if_neg e) (fun e=>if_pos e))
 have hr:=p8 (P:=P) (w:=w) true ha yY DW h0 Kt hqc
 simp only[execOp,ha.ev hx,Instr.sliceAt,Sem.run_bind,run_underlying ht,Result.andThen_ok,hu,Instr.slice,Option.map_none,hr,run_sizeOf he,Sem.run_pure]
 grind [Addr.add_eq]
def sliceAt(a0:Option Addr)(cap p size:Nat):Option Addr:=if p=cap then a0 else a0.map fun a=>a.add (p*size)
theorem F'{t elem:TypeId}{bL te:Ty}{x:Operand}{lo hi:Option Operand}{a0:Option Addr}{len cap:Nat}{p q:Int}(hd:Nat.blt d n=true)(ht:U.get t=some bL)(hu:bL.fe = .slice elem)(he:U.get elem=some te)(hx:ev L x=some (.slice a0 len cap))(yY:IP L lo=some p)(DW:y4 L len hi=some q)(h0:0≤p)(Kt:p≤q)(hqc:hi=none∨q≤(cap:Int))(h:J P f n R G S all rest k ((d,.slice (sliceAt a0 cap p.toNat te.info.size) (q.toNat-p.toNat) (cap-p.toNat))::L) H) :
  J P f n R G S all (.cons m true ⟨some d,.slice t x lo hi none,ty,pos,af,gd⟩ rest) k L H:=by
 refine cR hd (fun a ha w=>?_) h
 have hr:=p8 (P:=P) (w:=w) true ha yY DW h0 Kt hqc
 simp only[execOp,ha.ev hx,Instr.sliceAt,Sem.run_bind,run_underlying ht,Result.andThen_ok,hu,Instr.slice,Option.map_none,hr,run_sizeOf he,Sem.run_pure,sliceAt]
 grind
def xi{t:TypeId}{bL:Ty}{x:Operand}{lo hi:Option Operand}{s:ByteArray}{p q:Int}(hd:Nat.blt d n=true)(ht:U.get t=some bL)(hu:bL.fe = .string)(hx:ev L x=some (.string s))(yY:IP L lo=some p)(DW:y4 L s.size hi=some q)(h0:0≤p)(Kt:p≤q)(hqc:q≤(s.size:Int))(h:J P f n R G S all rest k ((d,.string (s.extract p.toNat q.toNat))::L) H) :
  J P f n R G S all (.cons m true ⟨some d,.slice t x lo hi none,ty,pos,af,gd⟩ rest) k L H:=by
 refine cR hd (fun a ha w=>?_) h
 have hr:=p8 (P:=P) (w:=w) false ha yY DW h0 Kt (.inr hqc)
 simp only[execOp,ha.ev hx,Instr.sliceAt,Sem.run_bind,run_underlying ht,Result.andThen_ok,hu,Instr.slice,Option.map_none,hr,Option.isSome_none,Bool.false_eq_true,if_false,Sem.run_pure]
def Dy{t elem:TypeId}{bL te:Ty}{x y:Operand}{j:IntKind}{b o len cap:Nat}{p:Int}(hd:Nat.blt d n=true)(ht:U.get t=some bL)(hu:bL.fe = .slice elem)(he:U.get elem=some te)(hx:ev L x=some (.slice (some ⟨b,o,none⟩) len cap))(hy:ev L y=some (.int j p))(h0:0≤p)(hp:p<(len:Int))(h:J P f n R G S all rest k ((d,.pointer (some ⟨b,o+p.toNat*te.info.size,none⟩))::L) H) :
  J P f n R G S all (.cons m true ⟨some d,.indexAddr t x y,ty,pos,af,gd⟩ rest) k L H:=by
 refine cR hd (fun a ha w=>?_) h
 simp only[execOp,ha.ev hx,ha.ev hy,Instr.indexAt,asIntOf,Sem.run_bind,Sem.run_pure,run_underlying ht,Result.andThen_ok,hu]
 rw[if_pos ⟨h0,hp⟩]
 simp only[Sem.run_bind,run_sizeOf he,Result.andThen_ok,Sem.run_pure,Addr.add_eq]
def aea{t elem:TypeId}{bL te:Ty}{x y:Operand}{j:IntKind}{b o len cap:Nat}{p:Int}(q sz:Nat)(hd:Nat.blt d n=true)(ht:U.get t=some bL)(hu:bL.fe = .slice elem)(he:U.get elem=some te)(hs:te.info.size=sz)(hx:ev L x=some (.slice (some ⟨b,o,none⟩) len cap))(hy:ev L y=some (.int j p))(hq:p=(q:Int))(cB:q<len)(h:J P f n R G S all rest k ((d,.pointer (some ⟨b,o+q*sz,none⟩))::L) H) :
  J P f n R G S all (.cons m true ⟨some d,.indexAddr t x y,ty,pos,af,gd⟩ rest) k L H:=by
 subst hq;subst hs
 exact Dy hd ht hu he hx hy aj aj (by simpa using h)
def ad'{t elem:TypeId}{bL te:Ty}{x y:Operand}{j:IntKind}{b o len cap:Nat}{p:Int}(q:Nat)(hd:Nat.blt d n=true)(ht:U.get t=some bL)(hu:bL.fe = .slice elem)(he:U.get elem=some te)(hs:te.info.size=1)(hx:ev L x=some (.slice (some ⟨b,o,none⟩) len cap))(hy:ev L y=some (.int j p))(hq:p=(q:Int))(cB:q<len)(h:J P f n R G S all rest k ((d,.pointer (some ⟨b,o+q,none⟩))::L) H) :
  J P f n R G S all (.cons m true ⟨some d,.indexAddr t x y,ty,pos,af,gd⟩ rest) k L H :=
 aea q 1 hd ht hu he hs hx hy hq cB (by simpa using h)
def qo{t elem:TypeId}{bL te:Ty}{x y:Operand}{j:IntKind}{b o len:Nat}{p:Int}(hd:Nat.blt d n=true)(ht:U.get t=some bL)(hu:bL.fe = .array len elem)(he:U.get elem=some te)(hx:ev L x=some (.pointer (some ⟨b,o,none⟩)))(hy:ev L y=some (.int j p))(h0:0≤p)(hp:p<(len:Int))(h:J P f n R G S all rest k ((d,.pointer (some ⟨b,o+p.toNat*te.info.size,none⟩))::L) H) :
  J P f n R G S all (.cons m true ⟨some d,.indexAddr t x y,ty,pos,af,gd⟩ rest) k L H:=by
 refine cR hd (fun a ha w=>?_) h
 simp only[execOp,ha.ev hx,ha.ev hy,Instr.indexAt,asIntOf,Sem.run_bind,Sem.run_pure,run_underlying ht,Result.andThen_ok,hu,Instr.sureAddr]
 rw[if_pos ⟨h0,hp⟩]
 simp only[Sem.run_bind,run_sizeOf he,Result.andThen_ok,Sem.run_pure,Addr.add_eq]
def sM(s:ByteArray)(i:Nat):UInt8:=s.data.toList.getD i 0
def nK{t:TypeId}{bL:Ty}{x y:Operand}{j:IntKind}{s:ByteArray}{p:Int}(hd:Nat.blt d n=true)(ht:U.get t=some bL)(hu:bL.fe = .string)(hx:ev L x=some (.string s))(hy:ev L y=some (.int j p))(h0:0≤p)(hp:p<(s.size:Int))(h:J P f n R G S all rest k ((d,.int .u8 ((sM s p.toNat).toNat:Int))::L) H) :
  J P f n R G S all (.cons m true ⟨some d,.index t x y,ty,pos,af,gd⟩ rest) k L H:=by
 refine cR hd (fun a ha w=>?_) h
 have cB:p.toNat<s.size:=by omega
 have hb:s[p.toNat]?=some (sM s p.toNat):=by
  have h1:p.toNat<s.data.size:=cB
  have h2:s[p.toNat]?=some s[p.toNat]:=by simp[cB]
  rw[h2]
  congr 1
  unfold sM
  rw[List.getD_eq_getElem?_getD,Array.getElem?_toList,Array.getElem?_eq_getElem h1]
  rfl
 simp[execOp,ha.ev hx,ha.ev hy,Instr.index,asIntOf,run_underlying ht,hu,h0,hb]
def Gb{t elem:TypeId}{bL te:Ty}{x y:Operand}{j:IntKind}{cs:Array Value}{len:Nat}{p:Int}{v:Value}(hd:Nat.blt d n=true)(ht:U.get t=some bL)(hu:bL.fe = .array len elem)(he:U.get elem=some te)(hg:te.isAgg=false)(h1:Nat.beq te.info.size 1=true)(hx:ev L x=some (.agg cs))(hy:ev L y=some (.int j p))(h0:0≤p)(hp:p<(len:Int))(hv:cs.toList[p.toNat]?=some v)(h:J P f n R G S all rest k ((d,v)::L) H) :
  J P f n R G S all (.cons m true ⟨some d,.index t x y,ty,pos,af,gd⟩ rest) k L H:=by
 refine cR hd (fun a ha w=>?_) h
 have hv':cs[p.toNat]?=some v:=by simpa using hv
 have h1':te.info.size=1:=Nat.eq_of_beq_eq_true h1
 simp[execOp,ha.ev hx,ha.ev hy,Instr.index,asIntOf,run_underlying ht,hu,h0,hp,run_sizeOf he,h1',part,o7 he,hg,hv']
def rH{t:TypeId}{x:Operand}{b off:Nat}{bL:Ty}{v:Value}{A:HP}(i:Nat)(hd:Nat.blt d n=true)(hx:ev L x=some (.pointer (some ⟨b,off,none⟩)))(hi:bU H i=some A)(hv:∀h,A h→dq h b off=some v)(ht:U.get t=some bL)(hg:bL.isAgg=false)(h:J P f n R G S all rest k ((d,v)::L) H):J P f n R G S all (.cons false true ⟨some d,.load t x,ty,pos,af,gd⟩ rest) k L H :=
 uM hd hx (fun w hw=>by
  obtain⟨h,hh,hA⟩:=hw.jM hi
  exact gb hh (hv h hA)) ht hg h
def u8(x:UInt8):Value := .int .u8 (x.toNat:Int)
def bV(bs:List UInt8):List Value:=bs.map u8
theorem bK(bs:List UInt8):(bV bs).length=bs.length:=by simp[bV]
theorem dL(bs:List UInt8):∀u∈bV bs,u.oneCell'=true:=by
 intro u hu
 simp only[bV,List.mem_map]at hu
 obtain⟨x,_,rfl⟩:=hu
 rfl
def foldl_push(bs:List UInt8):∀s:ByteArray,(bs.map fun x=>(x.toNat:Int)).foldl (fun r n=>r.push (UInt8.ofNat n.toNat)) s=⟨(s.data.toList++bs).toArray⟩:=by
 induction bs with
 | nil=>intro s;simp
 | cons x l ih =>
  simp_all
def strOf(bs:List UInt8):ByteArray:=⟨bs.toArray⟩
theorem uY(s:ByteArray):strOf s.data.toList=s:=by simp[strOf]
theorem H7{a b:List UInt8}:strOf a=strOf b↔a=b:=by
 grind [strOf]
theorem zf{a b:List UInt8}:Q3 (strOf a) (strOf b)=decide (a=b):=by
 grind [PU,H7]
def A0{src dst e:TypeId}{ts td te:Ty}{x:Operand}{v:Value}{A:HP}{bs:List UInt8}(i:Nat)(hd:Nat.blt d n=true)(hx:ev L x=some v)(hs:U.get src=some ts)(IZ:ts.fe = .slice e)(he:U.get e=some te)(heu:te.fe = .int .u8)(Je:U.get dst=some td)(Jd:td.fe = .string)(hi:bU H i=some A)(hv:Vw A v bs.length (bV bs))(h:J P f n R G S all rest k ((d,.string (strOf bs))::L) H):J P f n R G S all (.cons false true ⟨some d,.convert src dst x,ty,pos,af,gd⟩ rest) k L H:=by
 refine iY hd (fun a w ha hw=>?_) h
 obtain⟨a0,cap,rfl,h0|⟨b,o,rfl,hc⟩⟩:=hv.cells hw hi
 ·have hb:bs=[]:=by simpa[bV]using h0
  subst hb
  cases a0 with
  | none =>
   simp only[execOp,ha.ev hx,Sem.run_bind]
   rw[run_convert_bytes_string w src dst e _ _ _ (by rw[iL (P:=P) hs,IZ]) (by rw[iL (P:=P) he,heu]) (by rw[iL (P:=P) Je,Jd])]
   simp[Conv.bytesToString,strOf]
   rfl
  | some a1 =>
   simp only[execOp,ha.ev hx,Sem.run_bind]
   rw[run_convert_bytes_string w src dst e _ _ _ (by rw[iL (P:=P) hs,IZ]) (by rw[iL (P:=P) he,heu]) (by rw[iL (P:=P) Je,Jd])]
   rw[run_bytesToString w a1 _ _ [] (by simp[loadCells,loadCellsFrom])]
   simp[strOf]
   rfl
 ·have h1:=run_loadCells_list (P:=P) w ⟨b,o,none⟩ (bV bs) (fun j c hj=>by rw[Addr.add_eq];exact hc j c hj)
  rw[bK]at h1
  simp only[execOp,ha.ev hx,Sem.run_bind]
  rw[run_convert_bytes_string w src dst e _ _ _ (by rw[iL (P:=P) hs,IZ]) (by rw[iL (P:=P) he,heu]) (by rw[iL (P:=P) Je,Jd])]
  rw[run_bytesToString w _ _ _ (bs.map fun x=>(x.toNat:Int)) (by rw[h1];simp[bV,u8]),foldl_push]
  simp[strOf]
def aW(b:Nat)(s:ByteArray)(e:TypeId)(cap:Nat):HP:=ag b (.cells (bytesRow s cap) e ((bytesRow s cap).size,(bytesRow s cap).size+1))
theorem Em(b:Nat)(s:ByteArray)(e:TypeId)(cap fX:Nat):Vw (aW b s e cap) (.slice (some ⟨b,0,none⟩) s.size fX) s.size (bV s.data.toList):=by
 refine⟨_,fX,rfl,.inr ⟨b,0,rfl,fun h hA j c hj=>?_⟩⟩
 unfold dq
 rw[hA b,if_pos rfl]
 simp only[bytesRow,Nat.zero_add]
 grind [bV,u8]
theorem J4{src dst e:TypeId}{ts td te:Ty}{x:Operand}{s:ByteArray}(hd:Nat.blt d n=true)(hx:ev L x=some (.string s))(hs:U.get src=some ts)(IZ:ts.fe = .string)(Je:U.get dst=some td)(Jd:td.fe = .slice e)(he:U.get e=some te)(heu:te.fe = .int .u8)(hS:∀b cap w,Sat G w (aW b s e cap::H)→Sx rest S w)(h:∀b cap,J P f n R G S all rest k ((d,.slice (some ⟨b,0,none⟩) s.size cap)::L) (aW b s e cap::H)):J P f n R G S all (.cons false true ⟨some d,.convert src dst x,ty,pos,af,gd⟩ rest) k L H:=by
 refine lO hd (fun u H1=>∃b cap,u = .slice (some ⟨b,0,none⟩) s.size cap∧H1=aW b s e cap::H) (fun a w ha hw=>?_) ?_ ?_
 ·refine⟨_,w.drew.alloc (.cells (bytesRow s (grownCap w s.size 0 e)) e ((bytesRow s (grownCap w s.size 0 e)).size,(bytesRow s (grownCap w s.size 0 e)).size+1)),_,?_,⟨w.heap.size,grownCap w s.size 0 e,rfl,rfl⟩,?_⟩
  ·have:=run_bytes_of_string (P:=P) w src dst e s (by rw[iL (P:=P) hs,IZ]) (by rw[iL (P:=P) Je,Jd]) (by rw[iL (P:=P) he,heu])
   simp only[execOp,ha.ev hx,Sem.run_bind,this,Result.andThen_ok,Sem.run_pure]
  ·exact Sat.alloc (w:=w.drew) (hw.draw _) _
 ·grind
 grind
end
end Go.SL
namespace Go.SL
structure jg(P:Program)(kt:TypeId){κ:Type}(kv:κ→Value):Prop where
 inj:∀a b,kv a=kv b→a=b
 check:∀(e:Bool) (k:κ) (w:World),(Instr.checkKey e 10000 kt (kv k)).run P w = .ok () w
 find:∀(k:κ) (l:List MapEntry) (ks:List κ) (w:World),l.map (·.key)=ks.map kv →
  ∃r,(Instr.findKey kt (kv k) l).run P w = .ok r w ∧
   ((r=none∧k ∉ ks)∨∃i e,r=some (i,e.val)∧l[i]?=some e∧ks[i]?=some k∧∀j,j<i→ks[j]? ≠ some k)
 bits:∀k,Instr.sameBits 10000 (kv k) (kv k)=true
def findNow_spec{κ:Type}{kv:κ→Value}{kind:TypeDesc}[DecidableEq κ](hs:∀a b,Instr.sameNow kind (kv a) (kv b)=some (decide (a=b)))(k:κ) :
  ∀(l:List MapEntry) (ks:List κ) (o:Nat),l.map (·.key)=ks.map kv →
   ∃r,Instr.findNow kind (kv k) l o=some r∧((r=none∧k ∉ ks)∨∃i e,r=some (o+i,e.val)∧l[i]?=some e∧ks[i]?=some k∧∀j,j<i→ks[j]? ≠ some k):=by
 intro l
 induction l with
 | nil =>
  intro ks o h
  have:ks=[]:=by simpa using h.symm
  subst this
  exact⟨none,rfl,.inl ⟨rfl,by simp⟩⟩
 | cons e l ih =>
  intro ks o h
  cases ks with
  | nil=>simp at h
  | cons c ks =>
   simp only[List.map_cons,List.cons.injEq]at h
   obtain⟨h1,h2⟩:=h
   simp only[Instr.findNow,h1,hs]
   by_cases MD:k=c
   ·subst MD
    refine⟨_,by simp;rfl,.inr ⟨0,e,by simp,by simp,by simp,fun j hj=>absurd hj aj⟩⟩
   ·obtain⟨r,hr,gB⟩:=ih ks (o+1) h2
    refine⟨r,by simp[MD,hr],?_⟩
    rcases gB with⟨rfl,hn⟩|⟨i,e',rfl,hi,hk,hj⟩
    ·exact .inl ⟨rfl,by simp[MD,hn]⟩
    ·refine .inr ⟨i+1,e',by congr 2;omega,by simpa using hi,by simpa using hk,fun j pG=>?_⟩
     cases j with
     | zero=>simp;exact fun h=>MD h.symm
     | succ j=>simpa using hj j aj
theorem pO{P:Program}{kt:TypeId}{kind:TypeDesc}{κ:Type}[DecidableEq κ]{kv:κ→Value}(hu:P.underlying kt=some kind)(hs:∀a b,Instr.sameNow kind (kv a) (kv b)=some (decide (a=b)))(hk:(match kind with | .interface _=>false | .array _ _=>false | .struct _=>false|_=>true)=true)(inj:∀a b,kv a=kv b→a=b)(bits:∀k,Instr.sameBits 10000 (kv k) (kv k)=true):jg P kt kv where
 inj:=inj
 check:=fun e k w=>by
  unfold Instr.checkKey
  simp only[Sem.run_bind,underlying,run_program,Result.andThen_ok,hu,Sem.run_pure]
  cases kind <;> simp_all
 find:=fun k l ks w h=>by
  obtain⟨r,hr,gB⟩:=findNow_spec hs k l ks 0 h
  refine⟨r,?_,?_⟩
  ·simp only[Instr.findKey,Sem.run_bind,underlying,run_program,Result.andThen_ok,hu,Sem.run_pure,hr]
  grind
 bits:=bits
def ad1(a b:ByteArray):(a == b)=decide (a=b):=by
 rw[Bool.eq_iff_iff]
 simp only[decide_eq_true_eq]
 constructor
 ·intro h
  have h1:(a.data == b.data)=true:=h
  cases a;cases b;simp at h1;rw[h1]
 ·rintro rfl
  show(a.data == a.data)=true
  simp
theorem lW{α β:Type}(g:α→β)(l:List α)(i:Nat):(l.eraseIdx i).map g=(l.map g).eraseIdx i:=by
 induction l generalizing i with
 | nil=>rfl
 | cons x l ih=>cases i <;> simp[ih]
def Mc{P:Program}{kt:TypeId}(hu:P.underlying kt=some .string):jg P kt Value.string :=
 pO hu (fun a b=>by simp only[Instr.sameNow,ad1]) rfl (fun a b h=>by cases h;rfl) (fun k=>by simp[Instr.sameBits,ad1])
def qc{P:Program}{kt:TypeId}{j:IntKind}(hu:P.underlying kt=some (.int j)):jg P kt (Value.int j) :=
 pO hu (fun a b=>by simp only[Instr.sameNow,if_true,ad0]) rfl (fun a b h=>by cases h;rfl) (fun k=>by simp[Instr.sameBits])
section
variable{κ:Type}[DecidableEq κ]
def cF(es:List (κ × Value))(k:κ):Option Value:=(es.find? fun x=>decide (x.1=k)).map (·.2)
def gT(es:List (κ × Value))(k:κ)(v:Value):List (κ × Value):=if k∈es.map (·.1)then es.map (fun x=>if x.1=k then(k,v)else x)else es++[(k,v)]
def rz(es:List (κ × Value))(k:κ):List (κ × Value):=es.filter fun x => !decide (x.1=k)
def wY{es:List (κ × Value)}{k:κ}:cF es k=none↔k ∉ es.map (·.1):=by
 unfold cF
 simp only[Option.map_eq_none_iff,List.find?_eq_none,decide_eq_true_eq,List.mem_map,not_exists,not_and]
theorem zx{es:List (κ × Value)}{k:κ}{i:Nat}{v:Value}(hi:es[i]?=some (k,v))(hj:∀j,j<i→(es.map (·.1))[j]? ≠ some k):cF es k=some v:=by
 induction es generalizing i with
 | nil=>simp at hi
 | cons x es ih =>
  cases i with
  | zero=>simp at hi;subst hi;simp[cF]
  | succ i =>
   simp at hi
   have h0:=hj 0 aj
   grind [cF]
def oF(kv:κ→Value)(o:Obj)(es:List (κ × Value)):Prop :=
 ∃entries clock,o = .map entries clock∧entries.toList.map (fun e=>(e.key,e.val))=es.map (fun x=>(kv x.1,x.2))∧(es.map (·.1)).Nodup∧(∀e∈entries.toList,e.born<clock)∧(entries.toList.map (·.born)).Nodup
def au(kv:κ→Value)(b:Nat)(es:List (κ × Value)):HP:=fun h=>∃o,oF kv o es∧ag b o h
def Sat.jt{G:cg}{w:World}{H:List HP}{kv:κ→Value}{b:Nat}{es:List (κ × Value)}(hs:Sat G w H){i:Nat}(hi:bU H i=some (au kv b es)):∃o,oF kv o es∧w.heap[b]?=some o:=by
 obtain⟨h,hh,o,ho,hp⟩:=hs.jM hi
 exact⟨o,ho,hh b o (by rw[hp b];simp)⟩
def eX(kv:κ→Value)(b:Nat):∀h,ag b (.map #[] 0) h→au kv b [] h:=fun h hp=>⟨_,⟨#[],0,rfl,rfl,by simp,by simp,by simp⟩,hp⟩
def E1{kv:κ→Value}{b:Nat}{es:List (κ × Value)}{h:Hp}(hm:au kv b es h):(es.map (·.1)).Nodup:=by
 obtain⟨o,⟨_,_,_,_,hn,_⟩,_⟩:=hm;exact hn
def Sat.vq{G:cg}{w:World}{H H':List HP}{kv:κ→Value}{b:Nat}{es es':List (κ × Value)}{o':Obj}{i:Nat}(hs:Sat G w H)(hi:bU H i=some (au kv b es))(hm:oF kv o' es')(hp:jI i (au kv b es') H [] = .mk H') :
  Sat G { w with heap:=w.heap.setIfInBounds b o' } H':=by
 have pF:=hs.cp (ak.perm (cJ (by rw[← de];exact hi)))
 obtain⟨hT,hO,PB,hh,cH,h1,h2,⟨o,ho,vW⟩,hB,hd,hj⟩:=pF
 have vT:Sat G w (ag b o::H.eraseIdx i):=⟨hT,hO,PB,hh,cH,h1,h2,vW,hB,hd,hj⟩
 have h3:=vT.zS (o':=o')
 have h4:=nf i _ _ H [] H' hp hi
 refine(h3.cp ?_).cp (ak.perm (by simpa using h4.symm))
 exact ak.fold (B:=[_]) fun h hs=>⟨h,sub.refl h,o',hm,cT hs⟩
end
section
variable{P:Program}{U:Tr}[hU:eO P U]{f:FuncId}{n:Nat}{R:Ending→World→Prop}{G:cg}{k:List Item}{L:eC}{H H':List HP}{S:World→Prop}{all:Array Oper}{rest:Pl}{ty:TypeId}{pos:String}{af:Array Edge}{gd:Option (Nat × Bool)}{m:Bool}{d:Tmp}
variable{κ:Type}[DecidableEq κ]{kv:κ→Value}
def run_getObj_map{w:World}{b:Nat}{es:Array MapEntry}{c:Nat}(h:w.heap[b]?=some (.map es c)):(getObj b).run P w = .ok (.map es c) w:=by
 simp[getObj,Sem.run,h]
theorem mU{t kt et:TypeId}{bL te:Ty}{z:Value}{b:Nat}{es:List (κ × Value)}{key:κ}{o:Obj}{w:World}(c:Bool)(xS:jg P kt kv)(ht:U.get t=some bL)(hu:bL.fe = .map kt et)(he:U.get et=some te)(hz:te.info.zero=some z)(hm:oF kv o es)(hb:w.heap[b]?=some o) :
  (Instr.lookup t (.map (some b)) (kv key) c).run P w = .ok (if c then .tuple #[(cF es key).getD z,.bool (cF es key).isSome]else(cF es key).getD z) w:=by
 obtain⟨entries,clock,rfl,lC,iJ,oM,He⟩:=hm
 have Pm:entries.toList.map (·.key)=(es.map (·.1)).map kv:=by
  have:=congrArg (List.map (·.1)) lC
  simpa[Function.comp_def]using this
 obtain⟨r,hr,gB⟩:=xS.find key entries.toList (es.map (·.1)) w Pm
 unfold Instr.lookup
 simp only[Sem.run_bind,run_underlying ht,Result.andThen_ok,hu,run_getObj_map hb,Sem.run_pure,xS.check,hr]
 rcases gB with⟨rfl,hn⟩|⟨i,e,rfl,hi,hk,hj⟩
 ·have:=wY.2 hn
  simp only[Sem.run_bind,cY he hz,Result.andThen_ok,Sem.run_pure,this]
  cases c <;> rfl
 ·have hv:es[i]?=some (key,e.val):=by
   have h1:=congrArg (·[i]?) lC
   grind
  have:=zx hv hj
  simp_all
def NU{t kt et:TypeId}{bL te:Ty}{z:Value}{x y:Operand}{b:Nat}{es:List (κ × Value)}{key:κ}{oI:Value}(i:Nat)(hd:Nat.blt d n=true)(xS:jg P kt kv)(hx:ev L x=some (.map (some b)))(hy:ev L y=some oI)(MC:oI=kv key)(ht:U.get t=some bL)(hu:bL.fe = .map kt et)(he:U.get et=some te)(hz:te.info.zero=some z)(hi:bU H i=some (au kv b es))(h:J P f n R G S all rest k ((d,(cF es key).getD z)::L) H):J P f n R G S all (.cons false true ⟨some d,.lookup t x y false,ty,pos,af,gd⟩ rest) k L H :=
 iY hd (fun a w ha hw=>by
  obtain⟨o,hm,hb⟩:=hw.jt hi
  subst MC
  simp[execOp,ha.ev hx,ha.ev hy,mU (P:=P) (key:=key) false xS ht hu he hz hm hb]) h
def o6{t kt et:TypeId}{bL te:Ty}{z:Value}{x y:Operand}{b:Nat}{es:List (κ × Value)}{key:κ}{oI:Value}(hd:Nat.blt d n=true)(xS:jg P kt kv)(hx:ev L x=some (.map (some b)))(hy:ev L y=some oI)(MC:oI=kv key)(ht:U.get t=some bL)(hu:bL.fe = .map kt et)(he:U.get et=some te)(hz:te.info.zero=some z)(hi:∀w,Sat G w H→∃o,oF kv o es∧w.heap[b]?=some o)(h:J P f n R G S all rest k ((d,.tuple #[(cF es key).getD z,.bool (cF es key).isSome])::L) H):J P f n R G S all (.cons false true ⟨some d,.lookup t x y true,ty,pos,af,gd⟩ rest) k L H :=
 iY hd (fun a w ha hw=>by
  obtain⟨o,hm,hb⟩:=hi w hw
  subst MC
  simp[execOp,ha.ev hx,ha.ev hy,mU (P:=P) (key:=key) true xS ht hu he hz hm hb]) h
def zB{t kt et:TypeId}{bL te:Ty}{z:Value}{x y:Operand}{b:Nat}{es:List (κ × Value)}{key:κ}{oI:Value}(hd:Nat.blt d n=true)(xS:jg P kt kv)(hx:ev L x=some (.map (some b)))(hy:ev L y=some oI)(MC:oI=kv key)(ht:U.get t=some bL)(hu:bL.fe = .map kt et)(he:U.get et=some te)(hz:te.info.zero=some z)(hi:∀w,S w→∃o,oF kv o es∧w.heap[b]?=some o)(h:J P f n R G S all rest k ((d,(cF es key).getD z)::L) H):J P f n R G S all (.cons true true ⟨some d,.lookup t x y false,ty,pos,af,gd⟩ rest) k L H :=
 jZ hd (fun a w ha hw=>by
  obtain⟨o,hm,hb⟩:=hi w hw
  subst MC
  simp[execOp,ha.ev hx,ha.ev hy,mU (P:=P) (key:=key) false xS ht hu he hz hm hb]) h
def Dw{t kt et:TypeId}{bL te:Ty}{z:Value}{x y:Operand}{b:Nat}{es:List (κ × Value)}{key:κ}{oI:Value}(hd:Nat.blt d n=true)(xS:jg P kt kv)(hx:ev L x=some (.map (some b)))(hy:ev L y=some oI)(MC:oI=kv key)(ht:U.get t=some bL)(hu:bL.fe = .map kt et)(he:U.get et=some te)(hz:te.info.zero=some z)(hi:∀w,S w→∃o,oF kv o es∧w.heap[b]?=some o)(h:J P f n R G S all rest k ((d,.tuple #[(cF es key).getD z,.bool (cF es key).isSome])::L) H):J P f n R G S all (.cons true true ⟨some d,.lookup t x y true,ty,pos,af,gd⟩ rest) k L H :=
 jZ hd (fun a w ha hw=>by
  obtain⟨o,hm,hb⟩:=hi w hw
  subst MC
  simp[execOp,ha.ev hx,ha.ev hy,mU (P:=P) (key:=key) true xS ht hu he hz hm hb]) h
theorem LZ{entries:Array MapEntry}{clock:Nat}{es:List (κ × Value)}{key:κ}{v:Value}{i:Nat}{e:MapEntry}(hm:oF kv (.map entries clock) es)(hi:entries.toList[i]?=some e)(hk:(es.map (·.1))[i]?=some key) :
  oF kv (.map (entries.modify i fun e=>{ e with key:=kv key,val:=v }) clock) (gT es key v):=by
 obtain⟨rm,AF,heq,lC,iJ,oM,He⟩:=hm
 cases heq
 have dU:key∈es.map (·.1):=List.mem_of_getElem? hk
 have aaj:(entries.modify i fun e=>{ e with key:=kv key,val:=v }).toList=entries.toList.modify i (fun e=>{ e with key:=kv key,val:=v }):=by simp
 refine⟨_,clock,rfl,?_,?_,?_,?_⟩
 ·rw[aaj]
  apply List.ext_getElem?
  intro j
  have hj:=congrArg (·[j]?) lC
  simp only[List.getElem?_map]at hj
  simp only[gT,dU,if_true,List.getElem?_map,List.getElem?_modify]
  cases hx:es[j]? with
  | none =>
   grind
  | some x =>
   rw[hx]at hj
   simp only[Option.map_some]at hj
   cases hy:entries.toList[j]? with
   | none=>rw[hy]at hj;cases hj
   | some y =>
    rw[hy]at hj
    simp only[Option.map_some,Option.some.injEq,Prod.mk.injEq]at hj
    by_cases I':i=j
    ·grind
    ·have gf:x.1≠key:=fun hxk=>by
      have h1:(es.map (·.1))[j]?=some key:=by simp[hx,hxk]
      exact I' ((List.getElem?_inj (by
       rcases Nat.lt_or_ge i (es.map (·.1)).length with h|h
       ·exact h
       ·rw[List.getElem?_eq_none h]at hk;cases hk) iJ).1 (hk.trans h1.symm))
     grind
 ·grind [gT]
 ·intro e' he'
  rw[aaj]at he'
  obtain⟨j,hj⟩:=List.getElem?_of_mem he'
  grind
 ·rw[aaj]
  have:(entries.toList.modify i (fun e=>{ e with key:=kv key,val:=v })).map (·.born)=entries.toList.map (·.born):=by
   apply List.ext_getElem?
   grind
  grind
theorem IN{entries:Array MapEntry}{clock:Nat}{es:List (κ × Value)}{key:κ}{v:Value}(hm:oF kv (.map entries clock) es)(hn:key ∉ es.map (·.1)) :
  oF kv (.map (entries.push { key:=kv key,val:=v,born:=clock }) (clock+1)) (gT es key v):=by
 obtain⟨rm,AF,heq,lC,iJ,oM,He⟩:=hm
 cases heq
 refine⟨_,clock+1,rfl,?_,?_,?_,?_⟩
 ·simp[gT,hn,lC]
 ·grind [gT]
 ·grind
 grind
theorem Ep{t kt et:TypeId}{bL:Ty}{b:Nat}{es:List (κ × Value)}{key:κ}{v:Value}{w:World}{i:Nat}(xS:jg P kt kv)(ht:U.get t=some bL)(hu:bL.fe = .map kt et)(hw:Sat G w H)(hi:bU H i=some (au kv b es))(hp:jI i (au kv b (gT es key v)) H [] = .mk H') :
  ∃w',(Instr.mapUpdate t (.map (some b)) (kv key) v).run P w = .ok () w'∧Sat G w' H':=by
 obtain⟨o,hm,hb⟩:=hw.jt hi
 have CC:=hm
 obtain⟨entries,clock,rfl,lC,iJ,oM,He⟩:=hm
 have Pm:entries.toList.map (·.key)=(es.map (·.1)).map kv:=by
  have:=congrArg (List.map (·.1)) lC
  simpa[Function.comp_def]using this
 obtain⟨r,hr,gB⟩:=xS.find key entries.toList (es.map (·.1)) w Pm
 have jL:∀o',(setObj b o').run P w = .ok () { w with heap:=w.heap.setIfInBounds b o' }:=fun o'=>by simp[setObj,Sem.run,hb]
 rcases gB with⟨rfl,hn⟩|⟨j,e,rfl,hj,hk,cB⟩
 ·refine⟨_,?_,hw.vq hi (IN (v:=v) CC hn) hp⟩
  unfold Instr.mapUpdate
  simp only[Sem.run_bind,run_underlying ht,Result.andThen_ok,hu,run_getObj_map hb,xS.check,hr,jL]
 ·refine⟨_,?_,hw.vq hi (LZ (v:=v) CC hj hk) hp⟩
  have hek:e.key=kv key:=by
   have h1:=congrArg (·[j]?) Pm
   grind
  have pG:entries[j]?=some e:=by simpa using hj
  unfold Instr.mapUpdate
  simp only[Sem.run_bind,run_underlying ht,Result.andThen_ok,hu,run_getObj_map hb,xS.check,hr,pG,Option.map_some,Option.getD_some,hek,Instr.keyThatStays,xS.bits,if_true,Sem.run_pure,jL]
def Du{t kt et:TypeId}{bL:Ty}{x y v0:Operand}{b:Nat}{es:List (κ × Value)}{key:κ}{oI v:Value}(i:Nat)(xS:jg P kt kv)(hS:∀w,Sat G w H'→Sx rest S w)(hx:ev L x=some (.map (some b)))(hy:ev L y=some oI)(MC:oI=kv key)(hv:ev L v0=some v)(ht:U.get t=some bL)(hu:bL.fe = .map kt et)(hi:bU H i=some (au kv b es))(hp:jI i (au kv b (gT es key v)) H [] = .mk H')(h:J P f n R G S all rest k L H'):J P f n R G S all (.cons false true ⟨none,.mapUpdate t x y v0,ty,pos,af,gd⟩ rest) k L H:=by
 refine N1 (fun H1=>H1=H') (fun a w ha hw=>?_) (fun H1 w e hw=>hS w (e ▸ hw)) (fun H1 e=>e ▸ h)
 subst MC
 obtain⟨w',hr,hs⟩:=Ep (P:=P) xS ht hu hw hi hp
 exact⟨w',H',by simp[execOp,ha.ev hx,ha.ev hy,ha.ev hv,hr],rfl,hs⟩
theorem Ay{es:List (κ × Value)}{key:κ}:∀ {i:Nat},(es.map (·.1)).Nodup→(es.map (·.1))[i]?=some key→rz es key=es.eraseIdx i:=by
 induction es with
 | nil=>intro i _ h;simp at h
 | cons x es ih =>
  intro i iJ hk
  simp only[List.map_cons,List.nodup_cons]at iJ
  cases i with
  | zero =>
   simp at hk
   subst hk
   simp only[rz,decide_true,Bool.not_true,List.filter_cons,Bool.false_eq_true,if_false,List.eraseIdx_cons_zero]
   apply List.filter_eq_self.2
   grind
  | succ i =>
   grind [rz]
theorem JH{es:List (κ × Value)}{key:κ}(h:key ∉ es.map (·.1)):rz es key=es:=by
 apply List.filter_eq_self.2
 grind
theorem L1{entries:Array MapEntry}{clock:Nat}{es:List (κ × Value)}{key:κ}{i:Nat}{e:MapEntry}(hm:oF kv (.map entries clock) es)(hi:entries.toList[i]?=some e)(hk:(es.map (·.1))[i]?=some key) :
  oF kv (.map (entries.eraseIdxIfInBounds i) clock) (rz es key):=by
 obtain⟨rm,AF,heq,lC,iJ,oM,He⟩:=hm
 cases heq
 have rU:(entries.eraseIdxIfInBounds i).toList=entries.toList.eraseIdx i:=by simp
 rw[Ay iJ hk]
 refine⟨_,clock,rfl,?_,?_,?_,?_⟩
 ·grind [lW]
 ·grind
 ·grind
 grind
def rM{t kt et:TypeId}{bL:Ty}{x y:Operand}{t2:TypeId}{b:Nat}{es:List (κ × Value)}{key:κ}{oI:Value}(i:Nat)(xS:jg P kt kv)(hS:∀w,Sat G w H'→Sx rest S w)(hx:ev L x=some (.map (some b)))(hy:ev L y=some oI)(MC:oI=kv key)(ht:U.get t=some bL)(hu:bL.fe = .map kt et)(hi:bU H i=some (au kv b es))(hp:jI i (au kv b (rz es key)) H [] = .mk H')(h:J P f n R G S all rest k L H'):J P f n R G S all (.cons false true ⟨none,.call { callee := .builtin .delete,args := #[x,y],argTypes := #[t,t2] },ty,pos,af,gd⟩ rest) k L H:=by
 intro a w ha hw _
 subst MC
 obtain⟨o,hm,hb⟩:=hw.jt hi
 have CC:=hm
 obtain⟨entries,clock,rfl,lC,iJ,oM,He⟩:=hm
 have Pm:entries.toList.map (·.key)=(es.map (·.1)).map kv:=by
  have:=congrArg (List.map (·.1)) lC
  simpa[Function.comp_def]using this
 obtain⟨r,hr,gB⟩:=xS.find key entries.toList (es.map (·.1)) w Pm
 have jL:∀o',(setObj b o').run P w = .ok () { w with heap:=w.heap.setIfInBounds b o' }:=fun o'=>by simp[setObj,Sem.run,hb]
 refine .inl ⟨.inl rfl,.inr ⟨rfl,?_⟩⟩
 rcases gB with⟨rfl,hn⟩|⟨j,e,rfl,hj,hk,cB⟩
 ·have hs:=hw.vq hi (o' := .map entries clock) (es':=rz es key) (by rw[JH hn];exact CC) hp
  have:(execOp a.eval ⟨none,.call { callee := .builtin .delete,args := #[x,y],argTypes := #[t,t2] },ty,pos,af,gd⟩).run P w = .ok (.value (.tuple #[])) { w with heap:=w.heap.setIfInBounds b (.map entries clock) }:=by
   simp only[execOp,resolve,invoke,builtin,Sem.run_bind,Sem.run_pure,Result.andThen_ok,List.map_toArray,List.map_cons,List.map_nil,ha.ev hx,ha.ev hy,Builtin.delete_,List.getElem?_toArray,List.getElem?_cons_zero,List.getElem?_cons_succ,
    run_underlying ht,hu,run_getObj_map hb,xS.check,hr,jL]
  exact fM this ⟨hS _ hs,h a _ ha hs (hS _ hs)⟩
 ·have hs:=hw.vq hi (L1 CC hj hk) hp
  have:(execOp a.eval ⟨none,.call { callee := .builtin .delete,args := #[x,y],argTypes := #[t,t2] },ty,pos,af,gd⟩).run P w = .ok (.value (.tuple #[])) { w with heap:=w.heap.setIfInBounds b (.map (entries.eraseIdxIfInBounds j) clock) }:=by
   simp only[execOp,resolve,invoke,builtin,Sem.run_bind,Sem.run_pure,Result.andThen_ok,List.map_toArray,List.map_cons,List.map_nil,ha.ev hx,ha.ev hy,Builtin.delete_,List.getElem?_toArray,List.getElem?_cons_zero,List.getElem?_cons_succ,
    run_underlying ht,hu,run_getObj_map hb,xS.check,hr,jL]
  exact fM this ⟨hS _ hs,h a _ ha hs (hS _ hs)⟩
def vd{t kt et:TypeId}{bL:Ty}{b:Nat}{es:List (κ × Value)}{o:Obj}{w:World}{rty:TypeId}(ht:U.get t=some bL)(hu:bL.fe = .map kt et)(hm:oF kv o es)(hb:w.heap[b]?=some o) :
  (Builtin.len_ #[t] rty #[.map (some b)]).run P w = .ok (.int .i64 es.length) w:=by
 obtain⟨entries,clock,rfl,lC,iJ,oM,He⟩:=hm
 have hl:entries.size=es.length:=by have:=congrArg List.length lC;simpa using this
 simp[Builtin.len_,run_underlying ht,hu,run_getObj_map hb,goInt,hl]
def Dx{t kt et:TypeId}{bL:Ty}{x:Operand}{b:Nat}{es:List (κ × Value)}(i:Nat)(hd:Nat.blt d n=true)(hx:ev L x=some (.map (some b)))(ht:U.get t=some bL)(hu:bL.fe = .map kt et)(hi:bU H i=some (au kv b es))(h:J P f n R G S all rest k ((d,.int .i64 es.length)::L) H):J P f n R G S all (.cons false true ⟨some d,.call { callee := .builtin .len,args := #[x],argTypes := #[t] },ty,pos,af,gd⟩ rest) k L H :=
 iY hd (fun a w ha hw=>by
  obtain⟨o,hm,hb⟩:=hw.jt hi
  simp[execOp,resolve,invoke,builtin,ha.ev hx,vd (P:=P) ht hu hm hb]) h
def J'{t kt et:TypeId}{bL:Ty}{x:Operand}{b:Nat}{es:List (κ × Value)}(hd:Nat.blt d n=true)(hx:ev L x=some (.map (some b)))(ht:U.get t=some bL)(hu:bL.fe = .map kt et)(hi:∀w,Sat G w H→∃o,oF kv o es∧w.heap[b]?=some o)(h:J P f n R G S all rest k ((d,.int .i64 es.length)::L) H):J P f n R G S all (.cons false true ⟨some d,.call { callee := .builtin .len,args := #[x],argTypes := #[t] },ty,pos,af,gd⟩ rest) k L H :=
 iY hd (fun a w ha hw=>by
  obtain⟨o,hm,hb⟩:=hi w hw
  simp[execOp,resolve,invoke,builtin,ha.ev hx,vd (P:=P) ht hu hm hb]) h
def bE(kv:κ→Value)(b it:Nat)(es:List (κ × Value))(done:List κ):HP:=fun h =>
 ∃entries clock seen,oF kv (.map entries clock) es∧(∀(i:Nat) (e:MapEntry) (x:κ × Value),entries.toList[i]?=some e→es[i]?=some x→(seen.contains e.born=true↔x.1∈done)) ∧
  (∀key,done.head?=some key→∃e∈entries.toList,e.key=kv key∧seen.back?=some e.born) ∧
  star (ag b (.map entries clock)) (ag it (.mapIter (some b) clock seen clock)) h
def gM{b it:Nat}{es:List (κ × Value)}{done:List κ}:∀h,bE kv b it es done h→∃h',sub h' h∧au kv b es h':=by
 rintro h⟨entries,clock,seen,hm,_,_,hs⟩
 obtain⟨h',s,hp⟩:=ji hs
 exact⟨h',s,_,hm,hp⟩
theorem j0{t kt et:TypeId}{bL:Ty}{x:Operand}{b:Nat}{es:List (κ × Value)}(i:Nat)(hd:Nat.blt d n=true)(hx:ev L x=some (.map (some b)))(ht:U.get t=some bL)(hu:bL.fe = .map kt et)(hi:bU H i=some (au kv b es)){Hf:Nat→List HP}(hp:∀it,jI i (bE kv b it es []) H [] = .mk (Hf it))(hS:∀it w,Sat G w (Hf it)→Sx rest S w)(h:∀it,J P f n R G S all rest k ((d,.pointer (some ⟨it,0,none⟩))::L) (Hf it)):J P f n R G S all (.cons false true ⟨some d,.range t x,ty,pos,af,gd⟩ rest) k L H:=by
 refine lO hd (fun u H1=>∃it,u = .pointer (some ⟨it,0,none⟩)∧H1=Hf it) (fun a w ha hw=>?_) ?_ ?_
 ·obtain⟨o,hm,hb⟩:=hw.jt hi
  have pF:=hw.cp (ak.perm (cJ (by rw[← de];exact hi)))
  obtain⟨hT,hO,PB,hh,cH,h1,h2,⟨o',ho',vW⟩,hB,hdj,hj⟩:=pF
  have hoo:o'=o:=by
   have:w.heap[b]?=some o':=cH b o' (by rw[hj b,vW b];simp)
   grind
  subst hoo
  have vT:Sat G w (ag b o'::H.eraseIdx i):=⟨hT,hO,PB,hh,cH,h1,h2,vW,hB,hdj,hj⟩
  obtain⟨entries,clock,rfl,vV⟩:=hm
  refine⟨_,{ w with heap:=w.heap.push (.mapIter (some b) clock #[] clock) },Hf w.heap.size,?_,⟨w.heap.size,rfl,rfl⟩,?_⟩
  ·simp only[execOp,ha.ev hx,Instr.range,Sem.run_bind,run_underlying ht,Result.andThen_ok,hu,run_getObj_map hb,Sem.run_pure,run_newObj]
  ·have h3:=vT.alloc (.mapIter (some b) clock #[] clock)
   have h4:=nf i _ _ H [] (Hf w.heap.size) (hp _) hi
   refine(h3.cp ?_).cp (ak.perm (by simpa using h4.symm))
   refine(ak.perm (List.Perm.swap _ _ _)).trans ?_
   refine ak.fold (B:=[_,_]) fun h hs=>⟨h,sub.refl h,entries,clock,#[],⟨entries,clock,rfl,vV⟩,fun i e x _ _=>by simp,by simp,?_⟩
   exact dG (fun _ h=>h) (fun _ h=>cT h) hs
 ·grind
 grind
theorem lN{x:Operand}{b it:Nat}{es:List (κ × Value)}{done:List κ}{key:κ}{v:Value}(i:Nat)(hd:Nat.blt d n=true)(adu:∀a b,kv a=kv b→a=b)(hx:ev L x=some (.pointer (some ⟨it,0,none⟩)))(hi:bU H i=some (bE kv b it es (key::done)))(hv:(key,v)∈es)(h:J P f n R G S all rest k ((d,.tuple #[kv key,v])::L) H):J P f n R G S all (.cons false true ⟨some d,.entry x,ty,pos,af,gd⟩ rest) k L H :=
 iY hd (fun a w ha hw=>by
  have pF:=hw.cp (ak.perm (cJ (by rw[← de];exact hi)))
  obtain⟨hT,hO,PB,hh,cH,h1,h2,hA,hB,hdj,hj⟩:=pF
  obtain⟨entries,clock,seen,hm,Qy,lB,h3,h4,pH,I8,Px,QO⟩:=hA
  have hb:w.heap[b]?=some (.map entries clock):=cH b _ (by rw[hj b,QO b,pH b];simp)
  have I9:w.heap[it]?=some (.mapIter (some b) clock seen clock):=by
   refine cH it _ ?_
   rw[hj it,QO it,I8 it]
   rcases Px it with e|e
   ·rw[e];simp
   ·rw[I8 it]at e;simp at e
  obtain⟨rm,AF,heq,lC,iJ,oM,He⟩:=hm
  cases heq
  have hgm:=run_getObj_map (P:=P) hb
  have ML:(getObj it).run P w = .ok (.mapIter (some b) clock seen clock) w:=by simp[getObj,Sem.run,I9]
  obtain⟨e,he,hek,mA⟩:=lB key rfl
  -- the cell's value
  obtain⟨j,y3⟩:=List.getElem?_of_mem he
  have hev:e.val=v:=by
   have h6:=congrArg (·[j]?) lC
   simp only[List.getElem?_map,y3,Option.map_some]at h6
   cases Cv:es[j]? with
   | none=>rw[Cv]at h6;cases h6
   | some x2 =>
    rw[Cv]at h6
    simp only[Option.map_some,Option.some.injEq,Prod.mk.injEq]at h6
    have hkk:x2.1=key:=adu _ _ (h6.1.symm.trans hek)
    obtain⟨j2,aap⟩:=List.getElem?_of_mem hv
    have PE:(es.map (·.1))[j]?=(es.map (·.1))[j2]? := by simp only[List.getElem?_map,Cv,aap,Option.map_some,hkk]
    have h12:j=j2:=(List.getElem?_inj (by
     have:j<es.length:=by
      grind
     rw[List.length_map];exact this) iJ).1 PE
    grind
  have Hd:entries.find? (fun x=>x.born == e.born)=some e:=by
   rw[← Array.find?_toList]
   cases hf:entries.toList.find? (fun x=>x.born == e.born)with
   | none=>have:=List.find?_eq_none.1 hf e he;simp at this
   | some e2 =>
    have h1:=List.find?_some hf
    have h2:=List.mem_of_find?_eq_some hf
    simp only[beq_iff_eq]at h1
    obtain⟨j2,aap⟩:=List.getElem?_of_mem h2
    have PE:(entries.toList.map (·.born))[j2]?=(entries.toList.map (·.born))[j]? := by simp only[List.getElem?_map,y3,aap,Option.map_some,h1]
    have h12:j2=j:=(List.getElem?_inj (by
     have:j2<entries.toList.length:=by
      grind
     rw[List.length_map];exact this) He).1 PE
    grind
  simp only[execOp,ha.ev hx,Instr.entry,Sem.run_bind,ML,hgm,Result.andThen_ok,mA,Hd,Sem.run_pure,hek,hev,bne_self_eq_false,Bool.false_eq_true,if_false]) h
theorem nI{x:Operand}{b it:Nat}{es:List (κ × Value)}{done:List κ}(i:Nat)(hd:Nat.blt d n=true)(adu:∀a b,kv a=kv b→a=b)(hx:ev L x=some (.pointer (some ⟨it,0,none⟩)))(hi:bU H i=some (bE kv b it es done)){Hf:κ→List HP}(hp:∀key,jI i (bE kv b it es (key::done)) H [] = .mk (Hf key))(hS0:∀w,Sat G w H→Sx rest S w)(hS:∀key w,Sat G w (Hf key)→Sx rest S w)(fR:(∀y∈es,y.1∈done)→J P f n R G S all rest k ((d,.tuple #[.bool false])::L) H)(hgo:∀key v,(key,v)∈es→key ∉ done→J P f n R G S all rest k ((d,.tuple #[.bool true,kv key,v])::L) (Hf key)) :
  J P f n R G S all (.cons false true ⟨some d,.next x false,ty,pos,af,gd⟩ rest) k L H:=by
 intro a w ha hw _
 refine .inl ⟨.inl rfl,.inr ⟨rfl,?_⟩⟩
 have pF:=hw.cp (ak.perm (cJ (by rw[← de];exact hi)))
 obtain⟨hT,hO,PB,hh,cH,h1,h2,hA,hB,hdj,hj⟩:=pF
 obtain⟨entries,clock,seen,hm,Qy,_,h3,h4,pH,I8,Px,QO⟩:=hA
 have hb:w.heap[b]?=some (.map entries clock):=cH b _ (by rw[hj b,QO b,pH b];simp)
 have I9:w.heap[it]?=some (.mapIter (some b) clock seen clock):=by
  refine cH it _ ?_
  rw[hj it,QO it,I8 it]
  rcases Px it with e|e
  ·rw[e];simp
  ·rw[I8 it]at e;simp at e
 obtain⟨rm,AF,heq,lC,iJ,oM,He⟩:=hm
 cases heq
 have hgm:=run_getObj_map (P:=P) hb
 have ML:(getObj it).run P w = .ok (.mapIter (some b) clock seen clock) w:=by simp[getObj,Sem.run,I9]
 have eY:(!seen.isEmpty && !entries.isEmpty && entries.all (·.born≥clock))=false:=by
  cases he:entries.isEmpty with
  | true=>simp
  | false =>
   have gf:entries.toList≠[]:=by simpa[Array.isEmpty_iff]using he
   obtain⟨e,l,rU⟩:=List.exists_cons_of_ne_nil gf
   grind
 have hold:∀(l:Array MapEntry),(∀e∈l.toList,e∈entries.toList)→l.filter (·.born<clock)=l∧l.filter (·.born≥clock) = #[]:=by
  simp_all
 have QL:=hold (entries.filter fun e => !seen.contains e.born) (fun e he=>by simp at he;simpa using he.1)
 -- the entry that comes, if one does
 have adk:∀e,e∈entries.toList→∃(j:Nat) (x:κ × Value),entries.toList[j]?=some e∧es[j]?=some x∧x∈es∧e.key=kv x.1∧e.val=x.2∧(seen.contains e.born=true↔x.1∈done):=by
  intro e he
  obtain⟨j,y3⟩:=List.getElem?_of_mem he
  have h6:=congrArg (·[j]?) lC
  grind
 have acS:∀x,x∈es→∃e,e∈entries.toList∧e.key=kv x.1∧(seen.contains e.born=true↔x.1∈done):=by
  intro x2 Cv
  obtain⟨j,y3⟩:=List.getElem?_of_mem Cv
  have h6:=congrArg (·[j]?) lC
  grind
 have ac5:(execOp a.eval ⟨some d,.next x false,ty,pos,af,gd⟩)=(do let v ← Instr.next (.pointer (some ⟨it,0,none⟩)) false ty;pure (.value v)):=by simp only[execOp,ha.ev hx]
 refine ku (fun c hc=>by cases hc) rfl ?_
 rw[ac5]
 simp only[Sem.run_bind,Instr.next,ML,Result.andThen_ok,hgm,eY,Bool.false_eq_true,if_false,QL.1,QL.2,Array.append_empty]
 by_cases vZ:(entries.filter fun e => !seen.contains e.born).isEmpty=true
 ·have he:(entries.filter fun e => !seen.contains e.born) = #[]:=Array.isEmpty_iff.1 vZ
  have adJ:∀y∈es,y.1∈done:=by
   intro y hy
   obtain⟨e,hem,_,Pp⟩:=acS y hy
   simp_all
  have:=fR adJ
  simp only[he,Array.isEmpty_empty,if_true,Array.map_empty,Array.append_empty,Sem.run_bind,run_choose]
  simp only[Question.forced,List.size_toArray,List.length_singleton,Nat.le_refl,decide_true,if_true,Result.andThen_ok,List.getElem?_toArray,List.getElem?_cons_zero,Sem.run_pure]
  exact⟨hS0 w hw,this _ w (ha.put hd _) hw (hS0 w hw)⟩
 ·have adH:(entries.filter fun e => !seen.contains e.born).isEmpty=false:=by simpa using vZ
  obtain⟨q,w1,hq,yU,Py⟩:∃q w1,q<(entries.filter fun e => !seen.contains e.born).size∧(w1=w∨w1=w.drew) ∧
    (choose (.mapNext ((entries.filter fun e => !seen.contains e.born).map some).size)).run P w = .ok q w1:=by
   have nv:0<(entries.filter fun e => !seen.contains e.born).size:=by
    grind
   simp only[run_choose,Array.size_map]
   by_cases hf:(Question.mapNext (entries.filter fun e => !seen.contains e.born).size).forced=true
   ·exact⟨0,w,nv,.inl rfl,by rw[if_pos hf]⟩
   ·exact⟨_,w.drew,Nat.mod_lt _ nv,.inr rfl,by rw[if_neg hf];rfl⟩
  have Fg:((entries.filter fun e => !seen.contains e.born).map some)[q]?=some (some (entries.filter fun e => !seen.contains e.born)[q]):=by simp[hq]
  generalize hE:(entries.filter fun e => !seen.contains e.born)[q]=e at Fg
  have QJ:e∈(entries.filter fun e => !seen.contains e.born):=by rw[← hE];exact Array.getElem_mem hq
  simp only[Array.mem_filter]at QJ
  obtain⟨aal,Mz⟩:=QJ
  obtain⟨i3,x2,hi3,hx3,Cv,Bk,qX,adv⟩:=adk e (by simpa using aal)
  have ae6:x2.1 ∉ done:=fun h=>by have:=adv.2 h;rw[this]at Mz;cases Mz
  have adC:=hgo x2.1 x2.2 Cv ae6
  simp only[adH,Bool.false_eq_true,if_false,Array.empty_append,Sem.run_bind]
  rw[Py]
  have jL:(setObj it (.mapIter (some b) clock (seen.push e.born) clock)).run P w1 = .ok () { w1 with heap:=w1.heap.setIfInBounds it (.mapIter (some b) clock (seen.push e.born) clock) }:=by
   have:w1.heap[it]?=some (.mapIter (some b) clock seen clock):=by rcases yU with rfl|rfl <;> exact I9
   simp[setObj,Sem.run,this]
  simp only[Result.andThen_ok,Fg,Sem.run_bind,jL,Sem.run_pure,Bk,qX]
  have Mq:Sat G { w1 with heap:=w1.heap.setIfInBounds it (.mapIter (some b) clock (seen.push e.born) clock) } (Hf x2.1):=by
   have aeB:Sat G w1 (ag it (.mapIter (some b) clock seen clock)::ag b (.map entries clock)::H.eraseIdx i):=by
    have h7:Sat G w (ag it (.mapIter (some b) clock seen clock)::ag b (.map entries clock)::H.eraseIdx i):=by
     refine⟨hT,hO,PB,hh,cH,?_⟩
     have h8:star (star (ag b (.map entries clock)) (ag it (.mapIter (some b) clock seen clock))) (Sep (H.eraseIdx i)) hh:=⟨h1,h2,⟨h3,h4,pH,I8,Px,QO⟩,hB,hdj,hj⟩
     exact yx (jA h8)
    rcases yU with rfl|rfl
    ·exact h7
    ·exact h7.draw _
   have h9:=aeB.zS (o' := .mapIter (some b) clock (seen.push e.born) clock)
   have h10:=nf i _ _ H [] (Hf x2.1) (hp _) hi
   refine(h9.cp ?_).cp (ak.perm (by simpa using h10.symm))
   refine(ak.perm (List.Perm.swap _ _ _)).trans ?_
   refine ak.fold (B:=[_,_]) fun h hs=>⟨h,sub.refl h,entries,clock,seen.push e.born,⟨entries,clock,rfl,lC,iJ,oM,He⟩,?_,?_,?_⟩
   ·intro i2 e2 y2 Fi O6
    have adb:=Qy i2 e2 y2 Fi O6
    simp only[Array.contains_eq_mem,Array.mem_push,decide_eq_true_eq,List.mem_cons]at adb ⊢
    constructor
    ·rintro(h|h)
     ·grind
     ·left
      -- the borns are one, so the entries are
      have PE:(entries.toList.map (·.born))[i2]?=(entries.toList.map (·.born))[i3]? := by simp only[List.getElem?_map,Fi,hi3,Option.map_some,h]
      have h12:i2=i3:=(List.getElem?_inj (by
       have:i2<entries.toList.length:=by
        grind
       rw[List.length_map];exact this) He).1 PE
      grind
    ·rintro(h|h)
     ·right
      have PE:(es.map (·.1))[i2]?=(es.map (·.1))[i3]? := by simp only[List.getElem?_map,O6,hx3,Option.map_some,h]
      have h12:i2=i3:=(List.getElem?_inj (by
       have:i2<es.length:=by
        grind
       rw[List.length_map];exact this) iJ).1 PE
      grind
     grind
   ·grind
   ·exact dG (fun _ h=>h) (fun _ h=>cT h) hs
  exact⟨hS _ _ Mq,adC _ _ (ha.put hd _) Mq (hS _ _ Mq)⟩
end
end Go.SL
namespace Go.SL
section
variable{P:Program}{U:Tr}[hU:eO P U]{f:FuncId}{n:Nat}{R:Ending→World→Prop}{G:cg}{k:List Item}{L:eC}{H H':List HP}{S:World→Prop}{all:Array Oper}{rest:Pl}{ty:TypeId}{pos:String}{af:Array Edge}{gd:Option (Nat × Bool)}{m:Bool}{d:Tmp}
def vf{g:FuncId}{fn:Func}{e:Array Value→Sem Value}{vs:Array Value}{w:World}(hf:P.funcs[g]?=some fn)(hb:fn.body=none)(hn:(fn.name == "runtime.NumGoroutine")=false)(ug:(Extern.findNext fn).isNone=true)(he:Extern.find fn=some e) :
  (callFunc g vs).run P w=((e vs).run P w).andThen fun v w' => .ok (.value v) w':=by
 have ae2:Extern.findNext fn=none:=Option.isNone_iff_eq_none.1 ug
 simp only[callFunc,Sem.run_bind,run_program,Result.andThen_ok,hf,hn,hb,Option.isNone_none,Bool.false_eq_true,if_false,if_true,run_mark,ae2,he,Sem.run_pure]
theorem Dt{κ:Type}[DecidableEq κ]{kv:κ→Value}{g:FuncId}{fn:Func}{args:Array Operand}{uS:Array TypeId}{t:TypeId}{b:Nat}{es:List (κ × Value)}(i:Nat)(hd:Nat.blt d n=true)(hf:P.funcs[g]?=some fn)(hb:fn.body=none)(hn:(fn.name == "runtime.NumGoroutine")=false)(ug:(Extern.findNext fn).isNone=true)(he:Extern.find fn=some Extern.MapsClone.clone)(fK:DZ L args.toList [] = .mk [.iface t (.map (some b))])(hi:bU H i=some (au kv b es))(hS:∀b' w,Sat G w (au kv b' es::H)→Sx rest S w)(h:∀b',J P f n R G S all rest k ((d,.iface t (.map (some b')))::L) (au kv b' es::H)) :
  J P f n R G S all (.cons false true ⟨some d,.call { callee := .value (.func g),args:=args,argTypes:=uS },ty,pos,af,gd⟩ rest) k L H:=by
 refine lO hd (fun u H1=>∃b',u = .iface t (.map (some b'))∧H1=au kv b' es::H) (fun a w ha hw=>?_) ?_ ?_
 ·obtain⟨o,hm,Jh⟩:=hw.jt hi
  have CC:=hm
  obtain⟨entries,clock,rfl,lC,iJ,oM,He⟩:=hm
  refine⟨_,{ w with heap:=w.heap.push (.map entries clock) },_,?_,⟨w.heap.size,rfl,rfl⟩,?_⟩
  ·simp only[execOp,resolve,Sem.run_bind,Act.eval,Deferred.ofValue,Sem.run_pure,Result.andThen_ok,invoke]
   rw[show(args.map fun x=>a.eval x)=args.map a.eval from rfl]at *
   have hav:=lF ha _ _ fK
   rw[show Array.map a.eval args = #[.iface t (.map (some b))]from hav]
   simp only[Array.empty_append,Array.append_empty]
   rw[vf hf hb hn ug he]
   have jF:Extern.MapsClone.clone #[.iface t (.map (some b))]=(getObj b >>= fun o=>match o with
     | .map entries clock=>newObj (.map entries clock) >>= fun r=>pure (.iface t (.map (some r)))
     | _=>stuck "maps.clone: a map expected"):=rfl
   rw[jF]
   simp only[Sem.run_bind,run_getObj_map Jh,Result.andThen_ok,run_newObj,Sem.run_pure]
  ·have h3:=hw.alloc (.map entries clock)
   exact h3.cp (ak.fold (B:=[_]) fun h hs=>⟨h,sub.refl h,_,CC,cT hs⟩)
 ·grind
 grind
def NX{x:Operand}{xt t:TypeId}{bL:Ty}{v:Value}(hd:Nat.blt d n=true)(hx:ev L x=some (.iface t v))(ht:U.get t=some bL)(hni:(match bL.fe with | .interface _=>false|_=>true)=true)(h:J P f n R G S all rest k ((d,v)::L) H):J P f n R G S all (.cons m true ⟨some d,.typeAssert x xt t false,ty,pos,af,gd⟩ rest) k L H :=
 cR hd (fun a ha w=>by
  simp only[execOp,ha.ev hx,Instr.typeAssert,Sem.run_bind,run_underlying ht,Result.andThen_ok]
  cases hu:bL.fe <;> simp_all) h
def J7{x:Operand}{t:TypeId}{bL:Ty}{v:Value}(hd:Nat.blt d n=true)(hx:ev L x=some v)(ht:U.get t=some bL)(hni:(match bL.fe with | .interface _=>false|_=>true)=true)(h:J P f n R G S all rest k ((d,.iface t v)::L) H):J P f n R G S all (.cons m true ⟨some d,.makeInterface t x,ty,pos,af,gd⟩ rest) k L H :=
 cR hd (fun a ha w=>by
  simp only[execOp,ha.ev hx,Instr.makeInterface,Sem.run_bind,run_underlying ht,Result.andThen_ok]
  cases hu:bL.fe <;> simp_all) h
def Row(w:World)(b:Nat):Prop:=∃l e,w.heap[b]?=some (cl l e)
theorem BK{b1 o1 b2 o2:Nat}{w:World}(h1:Row w b1)(h2:Row w b2):(sameAddr ⟨b1,o1,none⟩ ⟨b2,o2,none⟩).run P w = .ok (decide (b1=b2∧o1=o2)) w:=by
 obtain⟨l1,e1,pH⟩:=h1
 obtain⟨l2,e2,pR⟩:=h2
 unfold sameAddr
 by_cases hb:b1=b2
 ·subst hb
  simp only[beq_self_eq_true,if_true,Sem.run_pure,true_and]
  congr 1
  grind
 ·have gf:(b1 == b2)=false:=by simpa using hb
  have f1:∀o,w.frozen? ⟨b1,o,none⟩=false:=fun o=>jN pH
  have f2:∀o,w.frozen? ⟨b2,o,none⟩=false:=fun o=>jN pR
  have s1:w.shape? b1=some (e1,l1.length):=by simp[World.shape?,pH,cl]
  have s2:w.shape? b2=some (e2,l2.length):=by simp[World.shape?,pR,cl]
  simp[gf,f1,f2,noView,viewAt,s1,s2,mayBeOne,stringish,hb]
def Qg{x y:Operand}{t yt el:TypeId}{bL te:Ty}{b1 o1 b2 o2:Nat}(hd:Nat.blt d n=true)(hx:ev L x=some (.pointer (some ⟨b1,o1,none⟩)))(hy:ev L y=some (.pointer (some ⟨b2,o2,none⟩)))(ht:U.get t=some bL)(hu:bL.fe = .pointer el)(he:U.get el=some te)(js:Nat.beq te.info.size 0=false)(h1:∀w,Sat G w H→Row w b1)(h2:∀w,Sat G w H→Row w b2)(h:J P f n R G S all rest k ((d,.bool (decide (b1=b2∧o1=o2)))::L) H):J P f n R G S all (.cons false true ⟨some d,.binOp .eql t x y yt,ty,pos,af,gd⟩ rest) k L H :=
 iY hd (fun a w ha hw=>by
  have hr:=BK (P:=P) (o1:=o1) (o2:=o2) (h1 w hw) (h2 w hw)
  have gf:te.info.size≠0:=Nat.ne_of_beq_eq_false js
  have heq:(Op.equal t (.pointer (some ⟨b1,o1,none⟩)) (.pointer (some ⟨b2,o2,none⟩))).run P w = .ok (decide (b1=b2∧o1=o2)) w:=by
   unfold Op.equal Op.maxDepth Op.equalIn
   simp only[Sem.run_bind,run_underlying ht,Result.andThen_ok,hu,run_sizeOf he,ne_eq,gf,not_false_eq_true,if_true,hr]
  have hg:(eqGuard .eql t x y (.pointer (some ⟨b1,o1,none⟩)) (.pointer (some ⟨b2,o2,none⟩))).run P w = .ok () w:=by simp[eqGuard]
  have hb:(binOp .eql t (.pointer (some ⟨b1,o1,none⟩)) (.pointer (some ⟨b2,o2,none⟩))).run P w = .ok (.bool (decide (b1=b2∧o1=o2))) w:=by
   simp only[binOp,Sem.run_bind,heq,Result.andThen_ok,Sem.run_pure]
  simp only[execOp,ha.ev hx,ha.ev hy,Sem.run_bind,hg,hb,Result.andThen_ok,Sem.run_pure]) h
theorem A9{x:Operand}{t elem:TypeId}{bL te:Ty}{z:Value}{b o nn cap:Nat}{l l':List Value}{e:TypeId}(i:Nat)(hS:∀w,Sat G w H'→Sx rest S w)(hx:ev L x=some (.slice (some ⟨b,o,none⟩) nn cap))(ht:U.get t=some bL)(hu:bL.fe = .slice elem)(he:U.get elem=some te)(hz:te.info.zero=some z)(G0:Nat.beq (bg z).length te.info.size=true)(gA:gU (bg z)=true)(hi:bU H i=some (ag b (cl l e)))(CI:o+nn*te.info.size≤l.length)(MB:l'=l.take o++(List.replicate nn (bg z)).flatten++l.drop (o+nn*te.info.size))(hp:jI i (ag b (cl l' e)) H [] = .mk H')(h:J P f n R G S all rest k L H'):J P f n R G S all (.cons false true ⟨none,.call { callee := .builtin .clear,args := #[x],argTypes := #[t] },ty,pos,af,gd⟩ rest) k L H:=by
 intro a w ha hw _
 have aev:(bg z).length=te.info.size:=Nat.eq_of_beq_eq_true G0
 have v7:(Builtin.zeroCells z.cells nn).toList=(List.replicate nn (bg z)).flatten:=by
  have jy:z.cells.size=(bg z).length:=by rw[cW];simp
  unfold Builtin.zeroCells
  simp only[Array.toList_map,Array.toList_range,jy]
  rw[cW]
  induction nn with
  | zero=>simp
  | succ nn ih =>
   clear ih
   rw[List.replicate_succ',List.flatten_append]
   have afh:∀q,List.map (fun i=>(bg z).toArray[i%(bg z).length]!) (List.range (q*(bg z).length))=(List.replicate q (bg z)).flatten:=by
    intro q
    induction q with
    | zero=>simp
    | succ q ih =>
     rw[List.replicate_succ',List.flatten_append,← ih,Nat.succ_mul,List.range_add,List.map_append]
     congr 1
     simp only[List.map_map,List.flatten_cons,List.flatten_nil,List.append_nil]
     apply List.ext_getElem?
     intro j
     by_cases hj:j<(bg z).length
     ·simp only[List.getElem?_map,List.getElem?_range hj,Option.map_some,Function.comp]
      rw[Nat.mul_comm,Nat.mul_add_mod,Nat.mod_eq_of_lt hj]
      simp[hj]
     grind
   have:=afh (nn+1)
   rw[List.replicate_succ',List.flatten_append]at this
   exact this
 have hlen:((List.replicate nn (bg z)).flatten).length=nn*te.info.size:=by simp[aev]
 have dE:=fm (P:=P) ((List.replicate nn (bg z)).flatten) 0 o l w (hw.rf hi) (by rw[hlen];simpa using CI) (fun u hu=>by
  simp only[List.mem_flatten,List.mem_replicate]at hu
  obtain⟨l2,⟨_,rfl⟩,hu⟩:=hu
  exact tR gA u hu)
 simp only[Nat.add_zero,hlen,← MB]at dE
 have hs:=hw.put hi hp
 refine .inl ⟨.inl rfl,.inr ⟨rfl,?_⟩⟩
 by_cases h0:nn=0
 ·subst h0
  have hll:l'=l:=by rw[MB];simp
  subst hll
  have Mp:Sat G w H':=by
   have hb:=hw.rf hi
   have cB:b<w.heap.size:=by
    grind
   have Jh:w.heap[b]=cl l' e:=by rw[Array.getElem?_eq_getElem cB]at hb;exact Option.some.inj hb
   have:w.heap.setIfInBounds b (cl l' e)=w.heap:=by rw[← Jh];simp[Array.setIfInBounds,cB]
   rw[this]at hs;exact hs
  have:(execOp a.eval ⟨none,.call { callee := .builtin .clear,args := #[x],argTypes := #[t] },ty,pos,af,gd⟩).run P w = .ok (.value (.tuple #[])) w:=by
   simp[execOp,resolve,invoke,builtin,ha.ev hx,Builtin.clear_,run_underlying ht,hu]
  exact fM this ⟨hS _ Mp,h a _ ha Mp (hS _ Mp)⟩
 ·have:(execOp a.eval ⟨none,.call { callee := .builtin .clear,args := #[x],argTypes := #[t] },ty,pos,af,gd⟩).run P w = .ok (.value (.tuple #[])) { w with heap:=w.heap.setIfInBounds b (cl l' e) }:=by
   obtain⟨q,rfl⟩:∃q,nn=q+1:=⟨nn-1,aj⟩
   simp only[execOp,resolve,invoke,builtin,Sem.run_bind,Sem.run_pure,Result.andThen_ok,List.map_toArray,List.map_cons,List.map_nil,ha.ev hx,Builtin.clear_,List.getElem?_toArray,List.getElem?_cons_zero,run_underlying ht,hu,cY he hz,v7,dE]
  exact fM this ⟨hS _ hs,h a _ ha hs (hS _ hs)⟩
end
end Go.SL
namespace Go.SL
def iR{α:Type}(p:α→Bool):List α→Int
 | [] => -1
 | x::l=>if p x then 0 else(if iR p l<0 then -1 else iR p l+1)
theorem GX{α:Type}(p:α→Bool)(l:List α) : -1≤iR p l:=by
 induction l with
 | nil=>simp[iR]
 | cons x l ih=>simp only[iR];split;omega;split <;> omega
def ki{α:Type}{p:α→Bool}{l:List α}(h:∀x∈l,p x=false):iR p l = -1:=by
 induction l with
 | nil=>rfl
 | cons x l ih=>simp[iR,h x (by simp),ih (fun y hy=>h y (by simp[hy]))]
theorem jq{α:Type}{p:α→Bool}{l:List α}{i:Nat}{x:α}(hi:l[i]?=some x)(hx:p x=true)(hb:∀y∈l.take i,p y=false):iR p l=i:=by
 induction l generalizing i with
 | nil=>simp at hi
 | cons y l ih =>
  cases i with
  | zero=>simp at hi;subst hi;simp[iR,hx]
  | succ i =>
   grind [iR]
theorem kJ{α:Type}{p:α→Bool}{l:List α}:iR p l<0↔l.any p=false:=by
 induction l with
 | nil=>simp[iR]
 | cons x l ih =>
  grind [GX,iR]
theorem Vw.cell{A:HP}{b o n cap:Nat}{cs:List Value}(h:Vw A (.slice (some ⟨b,o,none⟩) n cap) n cs){i:Nat}{c:Value}(hi:cs[i]?=some c):∀h,A h→dq h b (o+i)=some c:=by
 obtain⟨a,fX,hv,h0|⟨b',o',ha,hc⟩⟩:=h
 ·grind
 grind
def Vw.shape{A:HP}{v:Value}{n:Nat}{cs:List Value}(h:Vw A v n cs):∃a cap,v = .slice a n cap:=by
 obtain⟨a,cap,hv,_⟩:=h;exact⟨a,cap,hv⟩
theorem Vw.some{A:HP}{v:Value}{n:Nat}{cs:List Value}(h:Vw A v n cs)(h0:cs≠[]):∃b o cap,v = .slice (some ⟨b,o,none⟩) n cap:=by
 obtain⟨a,cap,hv,h1|⟨b,o,ha,hc⟩⟩:=h
 ·exact absurd h1 h0
 grind
theorem sQ{bs:List UInt8}{i:Nat}{x:UInt8}(h:bs[i]?=some x):(bV bs)[i]?=some (u8 x):=by simp[bV,h]
def ak.jO(H:List HP):ak H (emp::H):=fun h hs=>⟨h,sub.refl h,ez (qF hs)⟩
def ak.join(A B:HP)(H:List HP):ak (A::B::H) (star A B::H):=fun h hs=>⟨h,sub.refl h,jj hs⟩
theorem ak.part(A B:HP)(H:List HP):ak (star A B::H) (A::B::H):=fun h hs=>⟨h,sub.refl h,jA hs⟩
def Vw.left{A B:HP}{v:Value}{n:Nat}{cs:List Value}(h:Vw A v n cs):Vw (star A B) v n cs:=h.mono fun _ hs=>ji hs
def Vw.right{A B:HP}{v:Value}{n:Nat}{cs:List Value}(h:Vw B v n cs):Vw (star A B) v n cs:=h.mono fun _ hs=>u0 hs
def abb(x:UInt8):((x.toNat:Nat):Int)<256:=by have:=x.toNat_lt;omega
def KM{x y:UInt8}(h:(x.toNat:Int)=y.toNat):x=y:=UInt8.toNat_inj.1 aj
def eM{α β:Type}(q:α→β→Prop)(l:List α)(r:List β):Prop:=l.length=r.length∧∀(i:Nat) (x:α) (y:β),l[i]?=Option.some x→r[i]?=Option.some y→q x y
theorem eM.nil{α β:Type}{q:α→β→Prop}:eM q [] []:=⟨rfl,fun i x y h=>by simp at h⟩
theorem eM.snoc{α β:Type}{q:α→β→Prop}{l:List α}{r:List β}{x:α}{y:β}(h:eM q l r)(hq:q x y):eM q (l++[x]) (r++[y]):=by
 obtain⟨hl,ha⟩:=h
 refine⟨by simp[hl],fun i u v hu hv=>?_⟩
 grind
def eM.cons{α β:Type}{q:α→β→Prop}{l:List α}{r:List β}{x:α}{y:β}(h:eM q l r)(hq:q x y):eM q (x::l) (y::r):=by
 obtain⟨hl,ha⟩:=h
 refine⟨by simp[hl],fun i u v hu hv=>?_⟩
 cases i with
 | zero=>simp at hu hv;subst hu;subst hv;exact hq
 | succ i=>exact ha i u v (by simpa using hu) (by simpa using hv)
def eM.one{α β:Type}{q:α→β→Prop}{x:α}{y:β}(hq:q x y):eM q [x] [y]:=eM.nil.cons hq
def eM.mono{α β:Type}{q q':α→β→Prop}{l:List α}{r:List β}(h:eM q l r)(hm:∀x y,q x y→q' x y):eM q' l r:=⟨h.1,fun i x y hx hy=>hm x y (h.2 i x y hx hy)⟩
theorem eM.left{α β:Type}{q:α→β→Prop}{l:List α}{r:List β}(h:eM q l r){i:Nat}{x:α}(hi:l[i]?=Option.some x):∃y,r[i]?=Option.some y∧q x y:=by
 have cB:i<l.length:=by
  grind
 have:i<r.length:=by have:=h.1;omega
 exact⟨r[i],by simp[this],h.2 i x _ hi (by simp[this])⟩
theorem eM.right{α β:Type}{q:α→β→Prop}{l:List α}{r:List β}(h:eM q l r){i:Nat}{y:β}(hi:r[i]?=Option.some y):∃x,l[i]?=Option.some x∧q x y:=by
 have cB:i<r.length:=by
  grind
 have:i<l.length:=by have:=h.1;omega
 exact⟨l[i],by simp[this],h.2 i _ y (by simp[this]) hi⟩
theorem eM.set{α β:Type}{q:α→β→Prop}{l:List α}{r:List β}(h:eM q l r)(i:Nat){x:α}{y:β}(hq:q x y):eM q (l.set i x) (r.set i y):=by
 refine⟨by simp[h.1],fun j u v hu hv=>?_⟩
 rw[List.getElem?_set]at hu hv
 by_cases I':i=j
 ·grind
 ·rw[if_neg I']at hu hv;exact h.2 j u v hu hv
def ak.to{H pre rest F T:List HP}(is:List Nat)(m:Nat)(h:qO is [] H [] = .mk pre rest)(hd:rest.drop m=F)(ht:pre++F=T):ak H T:=ht ▸ ak.fin is m h hd
def bp(e:TypeId)(size:Nat)(a:Option Addr)(H:List HP):ak H (aH e size (.slice a 0 0) 0 []::H):=fun h hs=>⟨h,sub.refl h,dG (Oz e size a) (fun _ h=>h) (ez (qF hs))⟩
def eW(e:TypeId)(size b:Nat)(n cap:Nat)(cs junk:List Value)(H:List HP)(hl:cs.length=n*size)(hn:n≤cap)(hc:cap*size≤cs.length+junk.length) :
  ak (ag b (cl (cs++junk) e)::H) (aH e size (.slice (Option.some ⟨b,0,none⟩) n cap) n cs::H) :=
 ak.fold (B:=[_]) fun h hs=>⟨h,sub.refl h,hl,.inr ⟨b,0,cap,[],junk,rfl,rfl,hn,hc,cT hs⟩⟩
theorem nE{α:Type}{q:α→Prop}{l:List α}{i:Nat}{x:α}(hb:∀y∈l.take i,q y)(hi:l[i]?=Option.some x)(hx:q x):∀y∈l.take (i+1),q y:=by
 intro y hy
 have cB:i<l.length:=by
  grind
 rw[List.take_succ_eq_append_getElem cB]at hy
 grind
def Cs{L:eC}:∀t v,dp ([]:eC) t=Option.some v→dp L t=Option.some v:=fun _ _ h=>by cases h
def yS{L L':eC}{t0:Nat}{v0:Value}(h:dp L t0=Option.some v0)(hr:∀t v,dp L' t=Option.some v→dp L t=Option.some v):∀t v,dp ((t0,v0)::L') t=Option.some v→dp L t=Option.some v:=by
 intro t v e
 simp only[dp]at e
 cases hb:Nat.beq t0 t with
 | true=>rw[← Nat.eq_of_beq_eq_true hb,h];simpa[hb]using e
 | false=>exact hr t v (by simpa[hb]using e)
def aM{P:Program}{f:FuncId}{n:Nat}{R:Ending→World→Prop}{G:cg}{k:List Item}{L:eC}{H:List HP}{S:World→Prop}{all:Array Oper}{rest:Pl}{e:TypeId}{size nn:Nat}{v:Value}{cs:List Value}(i:Nat)(hi:bU H i=some (aH e size v nn cs))(h:∀a c,v = .slice a nn c→J P f n R G S all rest k L H):J P f n R G S all rest k L H :=
 xk fun w hw=>by
  obtain⟨h0,_,hA⟩:=hw.jM hi
  obtain⟨_,⟨a,rfl,rfl,_⟩|⟨b,o,cap,pre,junk,rfl,_⟩⟩:=hA
  ·exact h _ _ rfl
  ·exact h _ _ rfl
def cU{P:Program}{f:FuncId}{n:Nat}{R:Ending→World→Prop}{G:cg}{k:List Item}{L:eC}{H:List HP}{e:TypeId}{size nn:Nat}{v:Value}{cs:List Value}(i:Nat)(hi:bU H i=some (aH e size v nn cs))(h:∀a c,v = .slice a nn c→K P f n R G k L H):K P f n R G k L H :=
 oZ fun⟨w,hw⟩=>by
  obtain⟨h0,_,hA⟩:=hw.jM hi
  obtain⟨_,⟨a,rfl,rfl,_⟩|⟨b,o,cap,pre,junk,rfl,_⟩⟩:=hA
  ·exact h _ _ rfl
  ·exact h _ _ rfl
def cX(old:List UInt8)(at_:Nat)(b:List UInt8):List UInt8 :=
 let o:=old++List.replicate (at_+b.length-old.length) 0
 o.take at_++b++o.drop (at_+b.length)
section
variable{P:Program}{U:Tr}[hU:eO P U]{f:FuncId}{n:Nat}{R:Ending→World→Prop}{G:cg}{k:List Item}{L:eC}{H H':List HP}{S:World→Prop}{all:Array Oper}{rest:Pl}{ty:TypeId}{pos:String}{af:Array Edge}{gd:Option (Nat × Bool)}{m:Bool}{d:Tmp}
def HE{e:TypeId}{sz nn:Nat}{v:Value}{cs:List Value}(i:Nat)(hi:bU H i=some (aH e sz v nn cs))(h0:0<nn)(h:∀b o c,v = .slice (some ⟨b,o,none⟩) nn c→Vw (aH e sz v nn cs) v nn cs→J P f n R G S all rest k L H):J P f n R G S all rest k L H :=
 xk fun w hw=>by
  obtain⟨h1,_,hA⟩:=hw.jM hi
  have hv:=Vw.lV e sz v nn cs ⟨h1,hA⟩
  obtain⟨_,⟨a,rfl,rfl,_⟩|⟨b,o,cap,pre,junk,rfl,_⟩⟩:=hA
  ·omega
  ·exact h _ _ _ rfl hv
def eL{e:TypeId}{sz nn:Nat}{v:Value}{cs:List Value}(i:Nat)(hi:bU H i=some (aH e sz v nn cs))(h:Vw (aH e sz v nn cs) v nn cs→J P f n R G S all rest k L H):J P f n R G S all rest k L H :=
 xk fun w hw=>by
  obtain⟨h1,_,hA⟩:=hw.jM hi
  exact h (Vw.lV e sz v nn cs ⟨h1,hA⟩)
def NV{t:TypeId}{x:Operand}{b o off nn cap:Nat}{bL:Ty}{c:Value}{A:HP}{cs:List Value}(i idx:Nat)(hd:Nat.blt d n=true)(hx:ev L x=some (.pointer (some ⟨b,off,none⟩)))(hi:bU H i=some A)(hv:Vw A (.slice (some ⟨b,o,none⟩) nn cap) nn cs)(iS:off=o+idx)(hc:cs[idx]?=some c)(ht:U.get t=some bL)(hg:bL.isAgg=false)(h:J P f n R G S all rest k ((d,c)::L) H):J P f n R G S all (.cons false true ⟨some d,.load t x,ty,pos,af,gd⟩ rest) k L H :=
 rH (U:=U) i hd (iS ▸ hx) hi (hv.cell hc) ht hg h
def J8{Hs:List HP}{t:TypeId}{x:Operand}{b o off nn cap:Nat}{bL:Ty}{c:Value}{A:HP}{cs:List Value}(i idx:Nat)(hd:Nat.blt d n=true)(hx:ev L x=some (.pointer (some ⟨b,off,none⟩)))(hi:bU Hs i=some A)(hv:Vw A (.slice (some ⟨b,o,none⟩) nn cap) nn cs)(iS:off=o+idx)(hc:cs[idx]?=some c)(ht:U.get t=some bL)(hg:bL.isAgg=false)(h:J P f n R G (fun w=>Sat G w Hs) all rest k ((d,c)::L) H):J P f n R G (fun w=>Sat G w Hs) all (.cons true true ⟨some d,.load t x,ty,pos,af,gd⟩ rest) k L H :=
 uL (U:=U) hd (iS ▸ hx) (fun w hw=>by
  obtain⟨h,hh,hA⟩:=hw.jM hi
  exact gb hh (hv.cell hc h hA)) ht hg h
theorem uF:∀(acc l:List Value),Ax acc l = .mk (acc.reverse++l)
 | [],l=>rfl
 | a::acc,l=>by simp only[Ax,uF acc (a::l)];simp
theorem GF(u:Value):∀(l acc:List Value) (off:Nat),off<l.length→lT acc off l [u] = .mk (acc.reverse++l.set off u):=by
 intro l
 induction l with
 | nil=>intro acc off h;simp at h
 | cons y l ih =>
  intro acc off h
  cases off with
  | zero =>
   simp only[lT]
   cases l <;> simp[uF]
  | succ off=>simp only[lT];rw[ih _ _ (by simpa using h)];simp
def K1{e:TypeId}{b o c nn:Nat}{cs:List Value}:∀h,aH e 1 (.slice (some ⟨b,o,none⟩) nn c) nn cs h→0<nn→∃x:List Value × List Value,(x.1.length=o∧nn≤c∧c≤cs.length+x.2.length∧cs.length=nn)∧Sep [ag b (cl (x.1++cs++x.2) e)] h:=by
 rintro h⟨hl,⟨a,hv,rfl,_⟩|⟨b',o',cap,pre,junk,hv,hp,hn,hc,vW⟩⟩ h0
 ·omega
 ·simp only[Value.slice.injEq,Option.some.injEq,Addr.mk.injEq,and_true,true_and]at hv
  obtain⟨⟨rfl,rfl⟩,rfl⟩:=hv
  exact⟨(pre,junk),⟨hp,hn,by simpa using hc,by simpa using hl⟩,di vW⟩
def H9{e:TypeId}{b o c nn:Nat}{cs pre junk:List Value}(hp:pre.length=o)(hn:nn≤c)(hc:c≤cs.length+junk.length)(hl:cs.length=nn)(H:List HP) :
  ak (ag b (cl (pre++cs++junk) e)::H) (aH e 1 (.slice (some ⟨b,o,none⟩) nn c) nn cs::H) :=
 ak.fold (B:=[_]) fun h hs=>⟨h,sub.refl h,by simpa using hl,.inr ⟨b,o,c,pre,junk,rfl,hp,hn,by simpa using hc,cT hs⟩⟩
theorem F9{t:TypeId}{x y:Operand}{b o q c nn:Nat}{bL:Ty}{u:Value}{e:TypeId}{cs:List Value}(i:Nat)(hS:∀w,Sat G w H'→Sx rest S w)(hx:ev L x=some (.pointer (some ⟨b,o+q,none⟩)))(hy:ev L y=some u)(ht:U.get t=some bL)(js:Nat.beq bL.info.size 1=true)(hc:bg u=[u])(gA:gU [u]=true)(hi:bU H i=some (aH e 1 (.slice (some ⟨b,o,none⟩) nn c) nn cs))(hq:q<nn)(hp:jI i (aH e 1 (.slice (some ⟨b,o,none⟩) nn c) nn (cs.set q u)) H [] = .mk H')(h:J P f n R G S all rest k L H'):J P f n R G S all (.cons false true ⟨none,.store t x y,ty,pos,af,gd⟩ rest) k L H:=by
 refine aR (ak.perm (cJ (by rw[← de];exact hi))) ?_
 refine Ga (B:=fun x:List Value × List Value=>[ag b (cl (x.1++cs++x.2) e)]) (fun h hs=>K1 h hs aj) ?_
 rintro⟨pre,junk⟩⟨h1,h2,h3,h4⟩
 simp only at h1 h2 h3 h4
 have jL:(pre++cs++junk).set (o+q) u=pre++cs.set q u++junk:=by
  grind
 have hE:ak (ag b (cl (pre++cs.set q u++junk) e)::H.eraseIdx i) H':=by
  have h5:=nf i _ _ H [] H' hp hi
  exact(H9 h1 h2 (by rw[List.length_set];exact h3) (by rw[List.length_set];exact h4) _).trans (ak.perm (by simpa using h5.symm))
 refine dX (U:=U) (l':=pre++cs.set q u++junk) 0 (fun w hw=>hS w (hw.cp hE)) hx hy ht (by rw[hc,Nat.eq_of_beq_eq_true js];rfl) (by rw[hc];rfl) (by rw[hc];exact gA) rfl ?_ rfl (aR hE h)
 grind [GF]
def HT{z:Int}(h0:0≤z)(h1:z<256):∃y:UInt8,Value.int .u8 z=u8 y:=⟨UInt8.ofNat z.toNat,by
  simp only[u8,UInt8.toNat_ofNat']
  congr 1
  omega⟩
end
def aw.post{P:Program}{f:FuncId}{args:List Value}{Pre:List HP}{Post tS:Value→List HP→Prop}(c:aw P f args Pre Post)(h:∀v H,Post v H→tS v H):aw P f args Pre tS :=
 ⟨c.1,fun G w F hw=>(c.2 G w F hw).mono fun e w' h'=>let ⟨v,H,he,hp,hs⟩:=h';⟨v,H,he,h v H hp,hs⟩⟩
def aw.pre{P:Program}{f:FuncId}{args:List Value}{Pre Nw:List HP}{Post:Value→List HP→Prop}(c:aw P f args Pre Post)(h:ak Nw Pre):aw P f args Nw Post :=
 ⟨c.1,fun G w F hw=>c.2 G w F (hw.cp (ak.append F h))⟩
structure aa'(A:Prop):Prop where
 out:A
def bO{p:Prop}(h:p:=by repeat(first|exact Cs|refine yS rfl ?_)):p:=h
end Go.SL
namespace Go.SL
section
variable{P:Program}{U:Tr}[hU:eO P U]{f:FuncId}{n:Nat}{R:Ending→World→Prop}{G:cg}{k:List Item}{L:eC}{H H':List HP}{S:World→Prop}{all:Array Oper}{rest:Pl}{ty:TypeId}{pos:String}{af:Array Edge}{gd:Option (Nat × Bool)}{m:Bool}{d:Tmp}
def xp{t:TypeId}{x:Operand}{b off:Nat}{bL:Ty}{cs:List Value}(hd:Nat.blt d n=true)(hx:ev L x=some (.pointer (some ⟨b,off,none⟩)))(ht:U.get t=some bL)(hg:bL.isAgg=true)(hl:Nat.beq cs.length bL.info.size=true)(hc:∀w,Sat G w H→∀j v,cs[j]?=some v→w.cell? ⟨b,off+j,none⟩=some v)(h:J P f n R G S all rest k ((d,.agg cs.toArray)::L) H):J P f n R G S all (.cons false true ⟨some d,.load t x,ty,pos,af,gd⟩ rest) k L H :=
 iY hd (fun a w ha hw=>by
  simp[execOp,ha.ev hx,gr (P:=P) ht hg (Nat.eq_of_beq_eq_true hl) (hc w hw)]) h
def bZ{t:TypeId}{x:Operand}{b o off nn cap:Nat}{bL:Ty}{es cs:List Value}{A:HP}(i idx:Nat)(hd:Nat.blt d n=true)(hx:ev L x=some (.pointer (some ⟨b,off,none⟩)))(hi:bU H i=some A)(hv:Vw A (.slice (some ⟨b,o,none⟩) nn cap) nn cs)(iS:off=o+idx)(lC:∀j v,es[j]?=some v→cs[idx+j]?=some v)(ht:U.get t=some bL)(hg:bL.isAgg=true)(hl:Nat.beq es.length bL.info.size=true)(h:J P f n R G S all rest k ((d,.agg es.toArray)::L) H):J P f n R G S all (.cons false true ⟨some d,.load t x,ty,pos,af,gd⟩ rest) k L H :=
 xp (U:=U) hd hx ht hg hl (fun w hw j v hj=>by
  obtain⟨h,hh,hA⟩:=hw.jM hi
  have:=hv.cell (lC j v hj) h hA
  rw[iS,show o+idx+j=o+(idx+j) by omega]
  exact gb hh this) h
theorem Io:∀(l vs acc:List Value) (off:Nat),off+vs.length≤l.length→lT acc off l vs = .mk (acc.reverse++(l.take off++vs++l.drop (off+vs.length))):=by
 intro l
 induction l with
 | nil =>
  intro vs acc off h
  simp only[List.length_nil]at h
  grind [lT,uF]
 | cons y l ih =>
  intro vs acc off h
  cases vs with
  | nil=>cases off <;> simp[lT,uF]
  | cons v vs =>
   cases off with
   | zero =>
    grind [lT]
   | succ off =>
    grind [lT]
def iz{t:TypeId}{x y:Operand}{b off:Nat}{bL:Ty}{l l':List Value}{e:TypeId}{v:Value}(i:Nat)(hS:∀w,Sat G w H'→Sx rest S w)(hx:ev L x=some (.pointer (some ⟨b,off,none⟩)))(hy:ev L y=some v)(ht:U.get t=some bL)(js:Nat.beq (bg v).length bL.info.size=true)(gf:Nat.beq (bg v).length 0=false)(gA:gU (bg v)=true)(hi:bU H i=some (ag b (cl l e)))(CI:off+(bg v).length≤l.length)(hl:l'=l.take off++bg v++l.drop (off+(bg v).length))(hp:jI i (ag b (cl l' e)) H [] = .mk H')(h:J P f n R G S all rest k L H'):J P f n R G S all (.cons false true ⟨none,.store t x y,ty,pos,af,gd⟩ rest) k L H :=
 dX (U:=U) i hS hx hy ht js gf gA hi (by rw[Io _ _ _ _ CI,hl];rfl) hp h
theorem nG{e:TypeId}{sz nn:Nat}{v:Value}{cs:List Value}{H:List HP}(h0:∀a,v = .slice a 0 0→nn=0→cs=[]→K P f n R G k L H)(h1:∀b o c pre junk,v = .slice (some ⟨b,o,none⟩) nn c→pre.length=o→nn≤c→c*sz≤cs.length+junk.length→cs.length=nn*sz→K P f n R G k L (ag b (cl (pre++cs++junk) e)::H)) :
  K P f n R G k L (aH e sz v nn cs::H):=by
 intro a w ha hw
 obtain⟨t,o,u,hp,yV,hA,hB,⟨hl,gB⟩,Jk,hd,he⟩:=hw
 rcases gB with⟨a0,hv,hn,vZ⟩|⟨b,oo,cap,pre,junk,hv,gZ,hn,hc,vW⟩
 ·refine h0 a0 hv hn (List.eq_nil_of_length_eq_zero (by rw[hl,hn];simp)) a w ha ⟨t,o,u,hB,fun x y ub=>?_,Jk⟩
  grind
 ·exact h1 b oo cap pre junk hv gZ hn hc hl a w ha ⟨t,o,u,hp,yV,hA,hB,vW,Jk,hd,he⟩
end
theorem cd{α:Type}{g:α→List Value}{s:Nat}(hs:∀x,(g x).length=s){l:List α}{i:Nat}{x:α}(h:l[i]?=some x)(j:Nat)(hj:j<s):(l.flatMap g)[i*s+j]?=(g x)[j]? := by
 induction l generalizing i with
 | nil=>simp at h
 | cons y l ih =>
  have hy:=hs y
  rw[List.flatMap_cons]
  cases i with
  | zero=>simp at h;subst h;rw[List.getElem?_append_left aj];simp
  | succ i =>
   grind
def bt{α:Type}{g:α→List Value}{s:Nat}(hs:∀x,(g x).length=s)(l:List α):(l.flatMap g).length=l.length*s:=by
 induction l with
 | nil=>simp
 | cons y l ih=>rw[List.flatMap_cons,List.length_append,ih,hs,List.length_cons,Nat.add_mul,Nat.one_mul];omega
theorem py{α:Type}{g:α→List Value}{s:Nat}(hs:∀x,(g x).length=s){l:List α}{i:Nat}(hi:i<l.length)(x:α):(l.set i x).flatMap g=(l.flatMap g).take (i*s)++g x++(l.flatMap g).drop (i*s+s):=by
 induction l generalizing i with
 | nil=>simp at hi
 | cons y l ih =>
  have hy:=hs y
  cases i with
  | zero =>
   grind
  | succ i =>
   have e:(i+1)*s=s+i*s:=by rw[Nat.add_mul,Nat.one_mul];omega
   rw[List.set_cons_succ,List.flatMap_cons,List.flatMap_cons,ih (by simpa using hi),e,← hy,List.take_length_add_append,show(g y).length+i*(g y).length+(g y).length=(g y).length+(i*(g y).length+(g y).length) by omega,List.drop_length_add_append]
   simp
def fQ{e:TypeId}{sz b o c nn:Nat}{cs pre junk:List Value}(hp:pre.length=o)(hn:nn≤c)(hc:c*sz≤cs.length+junk.length)(hl:cs.length=nn*sz)(H:List HP) :
  ak (ag b (cl (pre++cs++junk) e)::H) (aH e sz (.slice (some ⟨b,o,none⟩) nn c) nn cs::H) :=
 ak.fold (B:=[_]) fun h hs=>⟨h,sub.refl h,hl,.inr ⟨b,o,c,pre,junk,rfl,hp,hn,hc,cT hs⟩⟩
theorem qd{α:Type}{p:α→Bool}{l:List α}(h:¬iR p l = -1):∃(i:Nat) (x:α),iR p l=i∧l[i]?=Option.some x∧p x=true∧∀y∈l.take i,p y=false:=by
 have hex:∃(i:Nat) (x:α),l[i]?=Option.some x∧p x=true∧∀y∈l.take i,p y=false:=by
  have nZ:l.any p=true:=by
   cases ha:l.any p with
   | true=>rfl
   | false =>
    have h1:=kJ.2 ha
    have h2:=GX p l
    omega
  clear h
  induction l with
  | nil=>simp at nZ
  | cons y l ih =>
   cases hy:p y with
   | true=>exact⟨0,y,by simp,hy,by simp⟩
   | false =>
    simp only[List.any_cons,hy,Bool.false_or]at nZ
    obtain⟨i,x,h1,h2,h3⟩:=ih nZ
    refine⟨i+1,x,by simpa using h1,h2,fun z hz=>?_⟩
    grind
 grind [jq]
theorem kD(pre W junk vs:List Value)(q:Nat)(h:q+vs.length≤W.length):(pre++W++junk).take (pre.length+q)++vs++(pre++W++junk).drop (pre.length+q+vs.length)=pre++(W.take q++vs++W.drop (q+vs.length))++junk:=by
 rw[List.append_assoc pre W junk,List.take_length_add_append,Nat.add_assoc,List.drop_length_add_append,List.take_append_of_le_length aj,List.drop_append_of_le_length aj]
 grind
theorem qi{α:Type}{g:α→List Value}{s:Nat}(hs:∀x,(g x).length=s)(l:List α)(i:Nat)(hi:i≤l.length):(l.take i).flatMap g=(l.flatMap g).take (i*s):=by
 have h1:l.flatMap g=(l.take i).flatMap g++(l.drop i).flatMap g:=by rw[← List.flatMap_append,List.take_append_drop]
 have h2:((l.take i).flatMap g).length=i*s:=by rw[bt hs,List.length_take,Nat.min_eq_left hi]
 grind
theorem iU(n:Nat)(x:List Value):(List.replicate n x).flatten.length=n*x.length:=by
 simp_all
theorem ru(x n:Nat)(hx:x<9223372036854775808)(hn:n<63):IntKind.i64.wrap ((BitVec.ofInt IntKind.i64.bits (x:Int) &&& BitVec.ofInt IntKind.i64.bits ((2 ^ n-1:Nat):Int)).toNat:Int)=((x%2 ^ n:Nat):Int):=by
 have e1:(BitVec.ofInt IntKind.i64.bits (x:Int)).toNat=x:=by
  rw[BitVec.toNat_ofInt]
  have:IntKind.i64.bits=64:=rfl
  grind
 have hp:2 ^ n<2 ^ 63:=Nat.pow_lt_pow_right aj hn
 have nv:0<2 ^ n:=Nat.pow_pos aj
 have e2:(BitVec.ofInt IntKind.i64.bits ((2 ^ n-1:Nat):Int)).toNat=2 ^ n-1:=by
  rw[BitVec.toNat_ofInt]
  have:IntKind.i64.bits=64:=rfl
  grind
 rw[BitVec.toNat_and,e1,e2,Nat.and_two_pow_sub_one_eq_mod]
 have cB:x%2 ^ n<9223372036854775808:=Nat.lt_of_le_of_lt (Nat.mod_le _ _) hx
 grind [cz,fZ]
theorem FR(x:Nat)(hx:x<256):IntKind.u8.wrap ((BitVec.ofInt IntKind.u8.bits (x:Int) &&& BitVec.ofInt IntKind.u8.bits 1).toNat:Int)=((x%2:Nat):Int):=by
 have e1:(BitVec.ofInt IntKind.u8.bits (x:Int)).toNat=x:=by
  rw[BitVec.toNat_ofInt]
  have:IntKind.u8.bits=8:=rfl
  grind
 grind [cz,fZ]
end Go.SL
namespace Go.SL
open Go
abbrev jD:=BitVec 32
def u32(x:jD):Value := .int .u32 (x.toNat:Int)
def wV(l:List jD):List Value:=l.map u32
def uO(l:List jD):(wV l).length=l.length:=by simp[wV]
def oh{l:List jD}{i:Nat}{x:jD}(h:l[i]?=some x):(wV l)[i]?=some (u32 x):=by simp[wV,h]
def KG(l:List jD)(i:Nat)(x:jD):(wV l).set i (u32 x)=wV (l.set i x):=by simp[wV]
def wB(c:UInt8):jD:=BitVec.ofNat 32 c.toNat
theorem Re(c:UInt8):(wB c).toNat=c.toNat:=by
 have:=c.toNat_lt
 grind [wB]
theorem wrap32(n:Nat):IntKind.u32.wrap (n:Int)=((n%4294967296:Nat):Int):=by
 simp[IntKind.wrap,IntKind.bits,IntKind.signed]
theorem ofInt32(p:jD):BitVec.ofInt IntKind.u32.bits ((p.toNat:Nat):Int)=p:=by
 apply BitVec.eq_of_toNat_eq
 have h:IntKind.u32.bits=32:=rfl
 grind
section
variable{P:Program}{U:Tr}[hU:eO P U]{f:FuncId}{n:Nat}{R:Ending→World→Prop}{G:cg}{k:List Item}{L:eC}{H H':List HP}{S:World→Prop}{all:Array Oper}{rest:Pl}{ty:TypeId}{pos:String}{af:Array Edge}{gd:Option (Nat × Bool)}{m:Bool}{d:Tmp}
theorem Ba{t yt:TypeId}{x y:Operand}{p q:jD}(hd:Nat.blt d n=true)(hx:ev L x=some (.int .u32 (p.toNat:Int)))(hy:ev L y=some (.int .u32 (q.toNat:Int)))(h:J P f n R G S all rest k ((d,.int .u32 ((p+q).toNat:Int))::L) H):J P f n R G S all (.cons m true ⟨some d,.binOp .add t x y yt,ty,pos,af,gd⟩ rest) k L H:=by
 refine Gc hd hx hy ?_
 have e:IntKind.u32.wrap ((p.toNat:Int)+(q.toNat:Int))=((p+q).toNat:Int):=by
  grind [wrap32]
 rw[e];exact h
def rY(p:jD):IntKind.u32.wrap (p.toNat:Int)=(p.toNat:Int):=by
 rw[wrap32];have:=p.isLt;congr 1;omega
def qn{t yt:TypeId}{x y:Operand}{p q:jD}(hd:Nat.blt d n=true)(hx:ev L x=some (.int .u32 (p.toNat:Int)))(hy:ev L y=some (.int .u32 (q.toNat:Int)))(h:J P f n R G S all rest k ((d,.int .u32 ((p ^^^ q).toNat:Int))::L) H):J P f n R G S all (.cons m true ⟨some d,.binOp .xor t x y yt,ty,pos,af,gd⟩ rest) k L H :=
 cR hd (fun a ha w=>by
  have e:IntKind.u32.wrap ((BitVec.ofInt IntKind.u32.bits (p.toNat:Int) ^^^ BitVec.ofInt IntKind.u32.bits (q.toNat:Int)).toNat:Int)=((p ^^^ q).toNat:Int):=by rw[ofInt32,ofInt32];exact rY (p ^^^ q)
  simp[execOp,ha.ev hx,ha.ev hy,eqGuard,binOp,Op.intBits]
  simpa using e) h
def NZ{t yt:TypeId}{x y:Operand}{p q:jD}(hd:Nat.blt d n=true)(hx:ev L x=some (.int .u32 (p.toNat:Int)))(hy:ev L y=some (.int .u32 (q.toNat:Int)))(h:J P f n R G S all rest k ((d,.int .u32 ((p &&& q).toNat:Int))::L) H):J P f n R G S all (.cons m true ⟨some d,.binOp .and t x y yt,ty,pos,af,gd⟩ rest) k L H :=
 cR hd (fun a ha w=>by
  have e:IntKind.u32.wrap ((BitVec.ofInt IntKind.u32.bits (p.toNat:Int) &&& BitVec.ofInt IntKind.u32.bits (q.toNat:Int)).toNat:Int)=((p &&& q).toNat:Int):=by rw[ofInt32,ofInt32];exact rY (p &&& q)
  simp[execOp,ha.ev hx,ha.ev hy,eqGuard,binOp,Op.intBits]
  simpa using e) h
def NS{t yt:TypeId}{x y:Operand}{p q:jD}(hd:Nat.blt d n=true)(hx:ev L x=some (.int .u32 (p.toNat:Int)))(hy:ev L y=some (.int .u32 (q.toNat:Int)))(h:J P f n R G S all rest k ((d,.int .u32 ((p ||| q).toNat:Int))::L) H):J P f n R G S all (.cons m true ⟨some d,.binOp .or t x y yt,ty,pos,af,gd⟩ rest) k L H :=
 cR hd (fun a ha w=>by
  have e:IntKind.u32.wrap ((BitVec.ofInt IntKind.u32.bits (p.toNat:Int) ||| BitVec.ofInt IntKind.u32.bits (q.toNat:Int)).toNat:Int)=((p ||| q).toNat:Int):=by rw[ofInt32,ofInt32];exact rY (p ||| q)
  simp[execOp,ha.ev hx,ha.ev hy,eqGuard,binOp,Op.intBits]
  simpa using e) h
def A6{t yt:TypeId}{x y:Operand}{p:jD}{j':IntKind}{q:Int}(s:Nat)(hd:Nat.blt d n=true)(hx:ev L x=some (.int .u32 (p.toNat:Int)))(hy:ev L y=some (.int j' q))(hq:q=(s:Int))(hs:s≤32)(h:J P f n R G S all rest k ((d,.int .u32 ((p >>> s).toNat:Int))::L) H):J P f n R G S all (.cons m true ⟨some d,.binOp .shr t x y yt,ty,pos,af,gd⟩ rest) k L H:=by
 subst hq
 refine fL hd hx hy aj ?_
 have e:(p.toNat:Int)/2 ^ (min ((s:Int).toNat) IntKind.u32.bits)=((p >>> s).toNat:Int):=by
  rw[BitVec.toNat_ushiftRight,Nat.shiftRight_eq_div_pow,Int.toNat_natCast,show min s IntKind.u32.bits=s from by show min s 32=s;omega]
  simp
 rw[e];exact h
def NR{t yt:TypeId}{x y:Operand}{p:jD}{j':IntKind}{q:Int}(s:Nat)(hd:Nat.blt d n=true)(hx:ev L x=some (.int .u32 (p.toNat:Int)))(hy:ev L y=some (.int j' q))(hq:q=(s:Int))(hs:s≤32)(h:J P f n R G S all rest k ((d,.int .u32 ((p <<< s).toNat:Int))::L) H):J P f n R G S all (.cons m true ⟨some d,.binOp .shl t x y yt,ty,pos,af,gd⟩ rest) k L H:=by
 subst hq
 refine l4 hd hx hy aj ?_
 have e:IntKind.u32.wrap ((p.toNat:Int)*2 ^ (min ((s:Int).toNat) IntKind.u32.bits))=((p <<< s).toNat:Int):=by
  rw[BitVec.toNat_shiftLeft,Nat.shiftLeft_eq,Int.toNat_natCast,show min s IntKind.u32.bits=s from by show min s 32=s;omega]
  rw[show(p.toNat:Int)*2 ^ s=((p.toNat*2 ^ s:Nat):Int)from by simp,wrap32]
 rw[e];exact h
def NM{src dst:TypeId}{ts td:Ty}{x:Operand}{j':IntKind}{c:UInt8}(hd:Nat.blt d n=true)(hx:ev L x=some (.int .u8 (c.toNat:Int)))(hs:U.get src=some ts)(IZ:ts.fe = .int j')(Je:U.get dst=some td)(Jd:td.fe = .int .u32)(h:J P f n R G S all rest k ((d,.int .u32 ((wB c).toNat:Int))::L) H):J P f n R G S all (.cons m true ⟨some d,.convert src dst x,ty,pos,af,gd⟩ rest) k L H:=by
 refine sV hd hx hs IZ Je Jd (by have:=c.toNat_lt;simp only[fZ];omega) ?_
 rw[Re]at h;exact h
def Ka{src dst:TypeId}{ts td:Ty}{x:Operand}{j':IntKind}{p:jD}(hd:Nat.blt d n=true)(hx:ev L x=some (.int .u32 (p.toNat:Int)))(hs:U.get src=some ts)(IZ:ts.fe = .int j')(Je:U.get dst=some td)(Jd:td.fe = .int .u8)(h:J P f n R G S all rest k ((d,u8 (UInt8.ofNat p.toNat))::L) H):J P f n R G S all (.cons m true ⟨some d,.convert src dst x,ty,pos,af,gd⟩ rest) k L H:=by
 refine HI hd hx hs IZ Je Jd ?_
 have e:Value.int .u8 (IntKind.u8.wrap (p.toNat:Int))=u8 (UInt8.ofNat p.toNat):=by
  simp[u8,IntKind.wrap,IntKind.bits,IntKind.signed]
 rw[e];exact h
end
end Go.SL
namespace Go.SL
open Go
structure Dg where
 bs:List UInt8
 len:bs.length=32
deriving DecidableEq
def Dg.at(x:Dg)(i:Nat):UInt8:=x.bs.getD i 0
def Dg.zero:Dg:=⟨List.replicate 32 0,by simp⟩
instance:Inhabited Dg:=⟨Dg.zero⟩
def dC(x:Dg):List Value :=
  [u8 (x.at 0),u8 (x.at 1),u8 (x.at 2),u8 (x.at 3),u8 (x.at 4),u8 (x.at 5),u8 (x.at 6),u8 (x.at 7),u8 (x.at 8),u8 (x.at 9),u8 (x.at 10),u8 (x.at 11),u8 (x.at 12),u8 (x.at 13),u8 (x.at 14),u8 (x.at 15),
   u8 (x.at 16),u8 (x.at 17),u8 (x.at 18),u8 (x.at 19),u8 (x.at 20),u8 (x.at 21),u8 (x.at 22),u8 (x.at 23),u8 (x.at 24),u8 (x.at 25),u8 (x.at 26),u8 (x.at 27),u8 (x.at 28),u8 (x.at 29),u8 (x.at 30),u8 (x.at 31)]
def eE(x:Dg):(dC x).length=32:=rfl
theorem eF(x:Dg):dC x=bV x.bs:=by
 have h1:x.bs=(List.range 32).map (fun i=>x.at i):=by
  apply List.ext_getElem?
  intro i
  rcases Nat.lt_or_ge i 32 with h|h
  ·rw[List.getElem?_map,List.getElem?_range h]
   simp only[Dg.at,Option.map_some,List.getD_eq_getElem?_getD]
   rw[List.getElem?_eq_getElem (by rw[x.len];exact h)];rfl
  ·rw[List.getElem?_eq_none (by rw[x.len];exact h),List.getElem?_eq_none (by simpa using h)]
 conv=>rhs;rw[h1]
 rfl
def Ol{a b:UInt8}(h:u8 a=u8 b):a=b:=by
 simp only[u8,Value.int.injEq,true_and,Int.natCast_inj]at h
 exact UInt8.toNat.inj h
def aaY{a b:List UInt8}(h:bV a=bV b):a=b:=by
 induction a generalizing b with
 | nil=>cases b with
  | nil=>rfl
  | cons y b=>simp[bV]at h
 | cons x a ih=>cases b with
  | nil=>simp[bV]at h
  | cons y b =>
   simp only[bV,List.map_cons,List.cons.injEq]at h
   rw[Ol h.1,ih h.2]
theorem aaP{a b:Dg}(h:dC a=dC b):a=b:=by
 rw[eF,eF]at h
 have:=aaY h
 cases a;cases b;simp_all
section
variable{P:Program}
theorem Fw{e:TypeId}(he:P.underlying e=some (.int .u8))(hc:P.cellsOf e=1)(d:Nat)(a b:List UInt8)(hl:a.length=b.length)(w:World):∀is:List Nat,(∀i∈is,i<a.length) →
  (Op.eqItems (d+1) e (P.cellsOf e) (bV a).toArray (bV b).toArray is).run P w = .ok (decide (∀i∈is,a[i]?=b[i]?)) w:=by
 intro is
 induction is with
 | nil=>intro _;simp[Op.eqItems]
 | cons i is ih =>
  intro hi
  have Pd:P.plainKey e=true:=by unfold Program.plainKey;rw[he]
  have Hb:=hi i (List.mem_cons_self ..)
  have h1:(bV a).toArray[i*P.cellsOf e]?=some (u8 (a[i]'Hb)):=by rw[hc,Nat.mul_one];simp[bV,Hb]
  have h2:(bV b).toArray[i*P.cellsOf e]?=some (u8 (b[i]'(hl ▸ Hb))):=by rw[hc,Nat.mul_one];simp[bV,hl ▸ Hb]
  simp only[Op.eqItems,Sem.run_bind,run_part_plain w Pd h1,run_part_plain w Pd h2,Result.andThen_ok]
  have h3:(Op.equalIn (d+1) e (u8 (a[i]'Hb)) (u8 (b[i]'(hl ▸ Hb)))).run P w = .ok (decide (a[i]'Hb=b[i]'(hl ▸ Hb))) w:=by
   simp only[Op.equalIn,Sem.run_bind,Go.run_underlying he,Result.andThen_ok,u8,if_true,Sem.run_pure]
   congr 1
   rw[Bool.eq_iff_iff]
   simp only[beq_iff_eq,decide_eq_true_iff]
   constructor
   ·intro h;exact UInt8.toNat.inj aj
   grind
  rw[h3]
  simp only[Result.andThen_ok]
  have h4:(a[i]?=b[i]?)↔a[i]'Hb=b[i]'(hl ▸ Hb):=by
   grind
  by_cases h5:a[i]'Hb=b[i]'(hl ▸ Hb)
  ·simp_all
  simp_all
theorem Er{t e:TypeId}{n:Nat}{a b:List UInt8}(ht:P.underlying t=some (.array n e))(he:P.underlying e=some (.int .u8))(hc:P.cellsOf e=1)(ha:a.length=n)(hb:b.length=n)(d:Nat)(w:World) :
  (Op.equalIn (d+2) t (.agg (bV a).toArray) (.agg (bV b).toArray)).run P w = .ok (decide (a=b)) w:=by
 obtain⟨i,hi⟩:=info_of_underlying he
 rw[run_equalIn_array w (d+1) _ _ ht hi,Fw he hc d a b aj w _ (fun i hi=>by rw[ha];exact List.mem_range.1 hi)]
 congr 1
 rw[Bool.eq_iff_iff,decide_eq_true_iff,decide_eq_true_iff]
 constructor
 ·intro h
  apply List.ext_getElem?
  grind
 grind
theorem p7{t e:TypeId}(ht:P.underlying t=some (.array 32 e))(he:P.underlying e=some (.int .u8))(hc:P.cellsOf e=1)(a b:Dg)(d:Nat)(w:World) :
  (Op.equalIn (d+2) t (.agg (dC a).toArray) (.agg (dC b).toArray)).run P w = .ok (decide (a=b)) w:=by
 rw[eF,eF,Er ht he hc a.len b.len]
 congr 1
 rw[Bool.eq_iff_iff,decide_eq_true_iff,decide_eq_true_iff]
 constructor
 ·intro h;cases a;cases b;simp_all
 grind
end
section
variable{P:Program}{U:Tr}[hU:eO P U]{f:FuncId}{n:Nat}{R:Ending→World→Prop}{G:cg}{k:List Item}{L:eC}{H H':List HP}{S:World→Prop}{all:Array Oper}{rest:Pl}{ty:TypeId}{pos:String}{af:Array Edge}{gd:Option (Nat × Bool)}{m:Bool}{d:Tmp}
def nM{x y:Operand}{t yt:TypeId}{c1 c2:Array Value}{b:Bool}(hd:Nat.blt d n=true)(hx:ev L x=some (.agg c1))(hy:ev L y=some (.agg c2))(hg:P.eqGuardType P.depth t=false)(he:∀w,(Op.equal t (.agg c1) (.agg c2)).run P w = .ok b w)(h:J P f n R G S all rest k ((d,.bool b)::L) H):J P f n R G S all (.cons m true ⟨some d,.binOp .eql t x y yt,ty,pos,af,gd⟩ rest) k L H:=by
 have nX:∀a w,Has n L a→(execOp a.eval ⟨some d,.binOp .eql t x y yt,ty,pos,af,gd⟩).run P w = .ok (.value (.bool b)) w:=fun a w ha=>by
  have hgu:(eqGuard .eql t x y (.agg c1) (.agg c2)).run P w = .ok () w:=by simp[eqGuard,hg]
  have hb:(binOp .eql t (.agg c1) (.agg c2)).run P w = .ok (.bool b) w:=by
   simp only[binOp,Sem.run_bind,he,Result.andThen_ok,Sem.run_pure]
  simp only[execOp,ha.ev hx,ha.ev hy,Sem.run_bind,hgu,hb,Result.andThen_ok,Sem.run_pure]
 cases m with
 | false=>exact iY hd (fun a w ha _=>nX a w ha) h
 | true=>exact jZ hd (fun a w ha _=>nX a w ha) h
def fY{t e:TypeId}{bL te:Ty}{nn:Nat}{z:Array Value}(hd:Nat.blt d n=true)(ht:U.get t=some bL)(hu:bL.fe = .array nn e)(he:U.get e=some te)(hz:bL.info.zero=some (.agg z))(h:J P f n R G S all rest k ((d,.agg z)::L) H):J P f n R G S all (.cons m true ⟨some d,.build t #[],ty,pos,af,gd⟩ rest) k L H:=by
 have nX:∀a w,Has n L a→(execOp a.eval ⟨some d,.build t #[],ty,pos,af,gd⟩).run P w = .ok (.value (.agg z)) w:=fun a w ha=>by
  simp only[execOp,Instr.build,Sem.run_bind,cY ht hz,run_underlying ht,Result.andThen_ok,hu,run_sizeOf he,Array.map_empty,Instr.fill,Value.cells,Sem.run_pure]
 cases m with
 | false=>exact iY hd (fun a w ha _=>nX a w ha) h
 | true=>exact jZ hd (fun a w ha _=>nX a w ha) h
def jw{t elem:TypeId}{bL te:Ty}{x:Operand}{nn b off:Nat}(hd:Nat.blt d n=true)(ht:U.get t=some bL)(hu:bL.fe = .array nn elem)(he:U.get elem=some te)(hx:ev L x=some (.pointer (some ⟨b,off,none⟩)))(h:J P f n R G S all rest k ((d,.slice (some ⟨b,off,none⟩) nn nn)::L) H) :
  J P f n R G S all (.cons m true ⟨some d,.slice t x none none none,ty,pos,af,gd⟩ rest) k L H:=by
 refine cR hd (fun a ha w=>?_) h
 simp only[execOp,ha.ev hx,Instr.sliceAt,Sem.run_bind,run_underlying ht,Result.andThen_ok,hu,Instr.sureAddr,Instr.sliceBounds,Option.map_none,run_sizeOf he,Sem.run_pure]
 simp[Addr.add,run_sizeOf he]
def zC{t elem:TypeId}{bL:Ty}{x:Operand}{nn len cap:Nat}{a0:Option Addr}(hd:Nat.blt d n=true)(ht:U.get t=some bL)(hu:bL.fe = .array nn elem)(hx:ev L x=some (.slice a0 len cap))(hl:nn≤len)(h:J P f n R G S all rest k ((d,.pointer a0)::L) H) :
  J P f n R G S all (.cons m true ⟨some d,.sliceToArrayPointer t x,ty,pos,af,gd⟩ rest) k L H:=by
 refine cR hd (fun a ha w=>?_) h
 simp only[execOp,ha.ev hx,Instr.arrayAt,Sem.run_bind,run_underlying ht,Result.andThen_ok,hu]
 rw[if_neg aj]
 simp
def Ql(X:HP)(v:Value)(l:List Dg):Prop:=Vw X v l.length (l.flatMap dC)∧∃a c,v = .slice a l.length c∧l.length≤c
end
end Go.SL
