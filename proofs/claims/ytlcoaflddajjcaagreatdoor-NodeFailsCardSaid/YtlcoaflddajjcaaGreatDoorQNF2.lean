import Derived.Test.YtlcoaflddajjcaaGreatDoorQNF1
import Derived.Laws.BytesString
import Derived.Laws.IdiomStrings
import Derived.DeepKeys
set_option linter.unusedSectionVars false
set_option linter.unusedSimpArgs false
set_option linter.unusedVariables false
set_option linter.defProp false
namespace Go.SL
theorem Vw.l7(e:TypeId)(size:Nat)(v:Value)(n:Nat)(cs:List Value)(h0:∃h,aB e size v n cs h):Vw (aB e size v n cs) v n cs:=by
 obtain⟨h,hl,⟨a,rfl,rfl,_⟩|⟨b,o,cap,pre,junk,rfl,hp,hn,hc,_⟩⟩:=h0
 ·exact⟨a,0,rfl,.inl (List.eq_nil_of_length_eq_zero (by simpa using hl))⟩
 ·refine⟨_,cap,rfl,.inr ⟨b,o,rfl,fun h hA j c hj=>?_⟩⟩
  obtain⟨_,⟨a,hv,_,_⟩|⟨b',o',eY,aeH,k7,hv,qX,_,_,Pj⟩⟩:=hA
  ·grind
  ·simp only[Value.slice.injEq,Option.some.injEq,Addr.mk.injEq,and_true,true_and]at hv
   obtain⟨⟨rfl,rfl⟩,rfl⟩:=hv
   unfold dt
   rw[Pj b,if_pos rfl]
   grind [cl]
theorem Vw.ae{b:Nat}{l:List Value}{e:TypeId}{o n cap:Nat}{cs:List Value}(h:(l.drop o).take cs.length=cs):Vw (ae b (cl l e)) (.slice (some ⟨b,o,none⟩) n cap) n cs:=by
 refine⟨_,cap,rfl,.inr ⟨b,o,rfl,fun h' hA j c hj=>?_⟩⟩
 unfold dt
 rw[hA b,if_pos rfl]
 grind [cl]
theorem Vw.nil(A:HP)(a:Option Addr)(cap:Nat):Vw A (.slice a 0 cap) 0 []:=⟨a,cap,rfl,.inl rfl⟩
theorem Vw.mono{A B:HP}{v:Value}{n:Nat}{cs:List Value}(h:Vw A v n cs)(hAB:∀h,B h→∃h',sub h' h∧A h'):Vw B v n cs:=by
 obtain⟨a,cap,hv,h0|⟨b,o,ha,hc⟩⟩:=h
 ·exact⟨a,cap,hv,.inl h0⟩
 ·refine⟨a,cap,hv,.inr ⟨b,o,ha,fun h hB j c hj=>?_⟩⟩
  obtain⟨h',hs,hA⟩:=hAB h hB
  have:=hc h' hA j c hj
  unfold dt at this ⊢
  split at this
  ·rename_i x y z hb;rw[hs b _ hb];exact this
  grind
theorem Vw.cells{A:HP}{v:Value}{n:Nat}{cs:List Value}(h:Vw A v n cs){G:ct}{w:World}{H:List HP}(hw:Sat G w H){i:Nat}(hi:bZ H i=some A) :
  ∃a cap,v = .slice a n cap∧(cs=[]∨∃b o,a=some ⟨b,o,none⟩∧∀j c,cs[j]?=some c→w.cell? ⟨b,o+j,none⟩=some c):=by
 obtain⟨a,cap,hv,h0|⟨b,o,ha,hc⟩⟩:=h
 ·grind
 ·obtain⟨h,hh,hA⟩:=hw.jF hi
  grind [dE]
theorem Addr.add_eq(b o i:Nat):(⟨b,o,none⟩:Addr).add i=⟨b,o+i,none⟩:=by
 unfold Addr.add;split
 ·rename_i h;subst h;rfl
 ·rfl
section
variable{P:Program}{U:Tr}[hU:eT P U]{f:FuncId}{n:Nat}{R:Ending→World→Prop}{G:ct}{k:List Item}{L:eH}{H H':List HP}{S:World→Prop}{all:Array Oper}{rest:Pl}{ty:TypeId}{pos:String}{af:Array Edge}{gd:Option (Nat × Bool)}{m:Bool}{d:Tmp}
def kH{A:HP}{v:Value}{nn size:Nat}{cs:List Value}{w:World}{i:Nat}(hv:Vw A v nn cs)(hw:Sat G w H)(hi:bZ H i=some A)(hl:cs.length=nn*size) :
  (Builtin.firstCells size nn v).run P w = .ok cs.toArray w:=by
 obtain⟨a,cap,rfl,h0|⟨b,o,rfl,hc⟩⟩:=hv.cells hw hi
 ·subst h0
  have h0:nn*size=0:=by simpa using hl.symm
  cases a with
  | none=>simp[Builtin.firstCells]
  | some a=>simp[Builtin.firstCells,h0,loadCells,loadCellsFrom]
 ·have:=run_loadCells_list (P:=P) w ⟨b,o,none⟩ cs (fun j c hj=>by rw[Addr.add_eq];exact hc j c hj)
  rw[hl]at this
  simp[Builtin.firstCells,this]
def vU{A:HP}{v:Value}{nn size q:Nat}{cs:List Value}{w:World}{i:Nat}(hv:Vw A v nn cs)(hw:Sat G w H)(hi:bZ H i=some A)(hl:cs.length=nn*size)(hq:q≤nn) :
  (Builtin.firstCells size q v).run P w = .ok (cs.take (q*size)).toArray w:=by
 obtain⟨a,cap,rfl,h0|⟨b,o,rfl,hc⟩⟩:=hv.cells hw hi
 ·subst h0
  have h0:nn*size=0:=by simpa using hl.symm
  have h1:q*size=0:=by have:=Nat.mul_le_mul_right size hq;omega
  cases a with
  | none=>simp[Builtin.firstCells]
  | some a=>simp[Builtin.firstCells,h1,loadCells,loadCellsFrom]
 ·have h2:(cs.take (q*size)).length=q*size:=by rw[List.length_take,hl];exact Nat.min_eq_left (Nat.mul_le_mul_right size hq)
  have:=run_loadCells_list (P:=P) w ⟨b,o,none⟩ (cs.take (q*size)) (fun j c hj=>by
   rw[Addr.add_eq]
   rw[List.getElem?_take]at hj
   split at hj
   ·exact hc j c hj
   ·cases hj)
  rw[h2]at this
  simp[Builtin.firstCells,this]
def OG(e:TypeId)(size:Nat)(a:Option Addr):∀h,emp h→aB e size (.slice a 0 0) 0 [] h:=fun h he=>⟨by simp,.inl ⟨a,rfl,rfl,he⟩⟩
theorem sU(pre cs junk news:List Value)(o:Nat)(ho:pre.length=o) :
  (pre++cs++junk).take (o+cs.length)++news++(pre++cs++junk).drop (o+cs.length+news.length)=pre++(cs++news)++junk.drop news.length:=by
 subst ho
 have h1:(pre++cs++junk).take (pre.length+cs.length)=pre++cs:=by
  grind
 have h2:(pre++cs++junk).drop (pre.length+cs.length+news.length)=junk.drop news.length:=by
  rw[show pre.length+cs.length=(pre++cs).length by simp];rw[List.drop_append];simp
 grind
theorem ED{t t2 elem:TypeId}{bO uN te:Ty}{z v v2:Value}{nn mm:Nat}{cs news:List Value}{A:HP}{rty:TypeId}{w:World}(i j:Nat)(ht:U.get t=some bO)(hu:bO.eV = .slice elem)(h2:U.get t2=some uN)(HC:∀q,uN.eV ≠ .int q)(he:U.get elem=some te)(hz:te.info.zero=some z)(KE:(bt z).length=te.info.size)(hw:Sat G w H)(hi:bZ H i=some (aB elem te.info.size v nn cs))(hj:bZ H j=some A)(pN:Vw A v2 mm news)(mW:news.length=mm*te.info.size)(eM:∀u∈news,u.oneCell'=true)(Ji:nn+mm≤9223372036854775807)(oR:(nn+mm)*te.info.bytes≤140737488355328) :
    ∃v' w',(Builtin.append_ #[t,t2] rty #[v,v2]).run P w = .ok v' w'∧(∀H',jO i (aB elem te.info.size v' (nn+mm) (cs++news)) H [] = .mk H'→Sat G w' H'):=by
  have MK:∀B H',jO i B H [] = .mk H'→H'.Perm (B::H.eraseIdx i):=fun B H' hp=>by simpa using np i _ _ H [] H' hp hi
  have adB:∃h,aB elem te.info.size v nn cs h:=by obtain⟨h,_,hA⟩:=hw.jF hi;exact⟨h,hA⟩
  have cW:=Vw.l7 _ _ _ _ _ adB
  have AV:=kH (P:=P) pN hw hj mW
  obtain⟨a2,c2,adr,_⟩:=pN
  subst adr
  have MG:=hw.cu (ao.perm (cN (by rw[← dm];exact hi)))
  obtain⟨hT,hO,PM,hh,dj,h1,h2h,rW,ZC,acr,MW⟩:=MG
  obtain⟨hl,ig⟩:=rW
  have oL:∀ {w:World},(underlying t2).run P w = .ok uN.eV w:=fun {w}=>run_underlying h2 w
  have QT:(uN.eV matches .int _)=false:=by
    cases hq:uN.eV <;> first|rfl|exact absurd hq (HC _)
  have ac1:=kH (P:=P) cW hw hi hl
  by_cases nR:∃a cap,v = .slice a nn cap∧nn+mm≤cap
  · obtain⟨a,cap,rfl,nR⟩:=nR
    rcases ig with⟨a',hv,hn0,wM⟩|⟨b,o,eY,pre,junk,hv,hp,hn,hc,Pj⟩
    · simp only[Value.slice.injEq]at hv
      obtain⟨rfl,rfl,rfl⟩:=hv
      have CP:mm=0:=by omega
      subst CP
      have qh:cs=[]:=List.eq_nil_of_length_eq_zero (by simpa using hl)
      have ab1:news=[]:=List.eq_nil_of_length_eq_zero (by simpa using mW)
      subst qh;subst ab1
      refine⟨.slice a 0 0,w,?_,fun H' hp=>?_⟩
      · cases a with
        | none=>simp[Builtin.append_,run_underlying ht,hu,run_sizeOf he,oL,QT,Builtin.lenOf,AV]
        | some a=>simp[Builtin.append_,run_underlying ht,hu,run_sizeOf he,oL,QT,Builtin.lenOf,AV,storeCells]
      · refine(show Sat G w (aB elem te.info.size (.slice a 0 0) 0 []::H.eraseIdx i)from ?_).cu (ao.perm (MK _ _ hp).symm)
        exact⟨hT,hO,PM,hh,dj,h1,h2h,⟨hl,.inl ⟨a,rfl,rfl,wM⟩⟩,ZC,acr,MW⟩
    · simp only[Value.slice.injEq]at hv
      obtain⟨rfl,_,rfl⟩:=hv
      have tC:news.length≤junk.length:=by
        have h3:(nn+mm)*te.info.size≤cap*te.info.size:=Nat.mul_le_mul_right _ nR
        grind
      have hb:w.heap[b]?=some (cl (pre++cs++junk) elem):=by
        refine dj b _ ?_
        rw[MW b,Pj b];simp
      have dK:=eK (P:=P) news 0 (o+nn*te.info.size) (pre++cs++junk) w hb (by simp;omega) eM
      simp only[Nat.add_zero]at dK
      rw[← hl,sU pre cs junk news o hp]at dK
      refine⟨.slice (some ⟨b,o,none⟩) (nn+mm) cap,{ w with heap:=w.heap.setIfInBounds b (cl (pre++(cs++news)++junk.drop news.length) elem) },?_,fun H' qX=>?_⟩
      · rw[hl]at dK
        simp[Builtin.append_,run_underlying ht,hu,run_sizeOf he,oL,QT,Builtin.lenOf,nR,AV,Addr.add_eq,dK]
      · have h4:=Sat.Aq (o':=cl (pre++(cs++news)++junk.drop news.length) elem) (show Sat G w (ae b (cl (pre++cs++junk) elem)::H.eraseIdx i)from⟨hT,hO,PM,hh,dj,h1,h2h,Pj,ZC,acr,MW⟩)
        refine(h4.cu ?_).cu (ao.perm (MK _ _ qX).symm)
        refine ao.fold (B:=[_]) fun h hs=>⟨h,sub.refl h,?_⟩
        refine⟨by simp[hl,mW,Nat.add_mul],.inr ⟨b,o,cap,pre,_,rfl,hp,nR,?_,dp hs⟩⟩
        simp;omega
  · have Pc:∃a cap,v = .slice a nn cap:=by obtain⟨a,cap,hv,_⟩:=cW;exact⟨a,cap,hv⟩
    obtain⟨a,cap,rfl⟩:=Pc
    have MZ:¬nn+mm≤cap:=fun h=>nR ⟨a,cap,rfl,h⟩
    have hgs:=growslice_fits (need:=nn+mm) (old:=cap) (bytes:=te.info.bytes) ai oR
    have ep:=grownCap_ge w (nn+mm) cap elem
    have hzc:z.cells=(bt z).toArray:=dw z
    refine⟨.slice (some ⟨w.heap.size,0,none⟩) (nn+mm) (grownCap w (nn+mm) cap elem),w.drew.alloc (cl (cs++news++(Builtin.zeroCells z.cells (grownCap w (nn+mm) cap elem-(nn+mm))).toList) elem),?_,fun H' qX=>?_⟩
    · have wH:=kH (P:=P) (G:=G) (w:=w.drew) cW (hw.draw _) hi hl
      have adW:=kH (P:=P) (G:=G) (w:=w.drew) ⟨a2,c2,rfl,by assumption⟩ (hw.draw _) hj mW
      have Fv:¬((9223372036854775807:Int)<(nn:Int)+(mm:Int)):=by omega
      have Zi:¬281474976710656<Builtin.nextslicecap (nn+mm) cap*te.info.bytes:=by omega
      simp[Builtin.append_,run_underlying ht,hu,run_sizeOf he,oL,QT,Builtin.lenOf,MZ,Fv,Zi,Question.forced,run_typeInfo he,dD he hz,newRow,wH,adW,grownCap,cl]
      congr 2
      grind
    · have h5 : Sat G (w.drew.alloc (cl (cs ++ news ++ (Builtin.zeroCells z.cells (grownCap w (nn + mm) cap elem - (nn + mm))).toList) elem))
          (ae w.heap.size (cl (cs++news++(Builtin.zeroCells z.cells (grownCap w (nn+mm) cap elem-(nn+mm))).toList) elem)::H.eraseIdx i):=by
        have h6:Sat G w (H.eraseIdx i):=(hw.cu (ao.perm (cN (by rw[← dm];exact hi)))).cu (ao.drop _ _)
        exact Sat.alloc (w:=w.drew) (h6.draw _) _
      refine(h5.cu ?_).cu (ao.perm (MK _ _ qX).symm)
      refine ao.fold (B:=[_]) fun h hs=>⟨h,sub.refl h,?_⟩
      refine⟨by simp[hl,mW,Nat.add_mul],.inr ⟨w.heap.size,0,_,[],_,rfl,rfl,ep,?_,by simpa using dp hs⟩⟩
      have h7:(Builtin.zeroCells z.cells (grownCap w (nn+mm) cap elem-(nn+mm))).size=(grownCap w (nn+mm) cap elem-(nn+mm))*te.info.size:=by rw[size_zeroCells,hzc];simp[KE]
      rw[List.length_append,hl,mW,Array.length_toList,h7,← Nat.add_mul,← Nat.add_mul]
      grind
theorem N5{x y:Operand}{t t2 elem:TypeId}{bO uN te:Ty}{z v v2:Value}{nn mm:Nat}{cs news:List Value}{A:HP}(i j:Nat)(hd:Nat.blt d n=true)(hx:ev L x=some v)(hy:ev L y=some v2)(ht:U.get t=some bO)(hu:bO.eV = .slice elem)(h2:U.get t2=some uN)(HC:(match uN.eV with | .int _=>false|_=>true)=true)(he:U.get elem=some te)(hz:te.info.zero=some z)(KE:Nat.beq (bt z).length te.info.size=true)(hi:bZ H i=some (aB elem te.info.size v nn cs))(hj:bZ H j=some A)(pN:Vw A v2 mm news)(mW:news.length=mm*te.info.size)(eM:∀u∈news,u.oneCell'=true)(Ji:nn+mm≤9223372036854775807)(oR:(nn+mm)*te.info.bytes≤140737488355328){Hf:Value→List HP}(hp:∀v',jO i (aB elem te.info.size v' (nn+mm) (cs++news)) H [] = .mk (Hf v'))(hS:∀v' w,Sat G w (Hf v')→Sx rest S w)(h:∀v',J P f n R G S all rest k ((d,v')::L) (Hf v')) :
  J P f n R G S all (.cons false true ⟨some d,.call { callee := .builtin .append,args := #[x,y],argTypes := #[t,t2] },ty,pos,af,gd⟩ rest) k L H:=by
 refine lV hd (fun u H1=>H1=Hf u) (fun a w ha hw=>?_) ?_ ?_
 ·obtain⟨v',w',hr,hs⟩:=ED (P:=P) (rty:=ty) i j ht hu h2 (fun q e=>by rw[e]at HC;cases HC) he hz (Nat.eq_of_beq_eq_true KE) hw hi hj pN mW eM Ji oR
  refine⟨v',w',_,?_,rfl,hs _ (hp v')⟩
  simp[execOp,resolve,invoke,builtin,ha.ev hx,ha.ev hy,hr]
 ·grind
 grind
theorem N3{x y:Operand}{t t2 elem:TypeId}{bO te:Ty}{v2:Value}{b o dl dc mm:Nat}{l src l':List Value}{e:TypeId}{A:HP}(i j:Nat)(hd:Nat.blt d n=true)(hx:ev L x=some (.slice (some ⟨b,o,none⟩) dl dc))(hy:ev L y=some v2)(ht:U.get t=some bO)(hu:bO.eV = .slice elem)(he:U.get elem=some te)(hi:bZ H i=some (ae b (cl l e)))(hj:bZ H j=some A)(pN:Vw A v2 mm src)(mW:src.length=mm*te.info.size)(eM:∀u∈src,u.oneCell'=true)(tC:o+(min mm dl)*te.info.size≤l.length)(Fw:l'=l.take o++src.take (min mm dl*te.info.size)++l.drop (o+min mm dl*te.info.size))(hp:jO i (ae b (cl l' e)) H [] = .mk H')(hS:∀w,Sat G w H'→Sx rest S w)(h:J P f n R G S all rest k ((d,.int .i64 (min mm dl:Nat))::L) H') :
  J P f n R G S all (.cons false true ⟨some d,.call { callee := .builtin .copy,args := #[x,y],argTypes := #[t,t2] },ty,pos,af,gd⟩ rest) k L H:=by
 refine lV hd (fun u H1=>u = .int .i64 (min mm dl:Nat)∧H1=H') (fun a w ha hw=>?_) ?_ ?_
 ·have hf:=vU (P:=P) (q:=min mm dl) pN hw hj mW (Nat.min_le_left _ _)
  obtain⟨a2,c2,YT,_⟩:=pN
  subst YT
  have h3:(src.take (min mm dl*te.info.size)).length=min mm dl*te.info.size:=by rw[List.length_take,mW];exact Nat.min_eq_left (Nat.mul_le_mul_right _ (Nat.min_le_left _ _))
  have dK:=eK (P:=P) (src.take (min mm dl*te.info.size)) 0 o l w (hw.qF hi) (by rw[h3];simpa using tC) (fun u hu=>eM u (List.mem_of_mem_take hu))
  simp only[Nat.add_zero,h3,← Fw]at dK
  refine⟨_,_,H',?_,⟨rfl,rfl⟩,hw.put hi hp⟩
  simp only[execOp,resolve,invoke,builtin,Sem.run_bind,Sem.run_pure,Result.andThen_ok,List.map_toArray,List.map_cons,List.map_nil,ha.ev hx,ha.ev hy,Builtin.copy_,List.getElem?_toArray,List.getElem?_cons_zero,List.getElem?_cons_succ,
   run_underlying ht,hu,Builtin.lenOf,run_sizeOf he]
  rw[show Nat.min mm dl=min mm dl from rfl]
  simp only[hf,Result.andThen_ok,dK,goInt]
 ·grind
 grind
theorem DM{x y:Operand}{t elem:TypeId}{bO te:Ty}{z:Value}{p q:Nat}(hd:Nat.blt d n=true)(hx:ev L x=some (.int .i64 (p:Int)))(hy:ev L y=some (.int .i64 (q:Int)))(ht:U.get t=some bO)(hu:bO.eV = .slice elem)(he:U.get elem=some te)(hz:te.info.zero=some z)(KE:Nat.beq (bt z).length 1=true)(adh:Nat.beq te.info.size 1=true)(MJ:p≤q)(Ji:q≤9223372036854775807)(oR:te.info.bytes*q≤281474976710656)(hS:∀b w,Sat G w (ae b (cl (List.replicate q ((bt z).headD undef)) elem)::H)→Sx rest S w)(h:∀b,J P f n R G S all rest k ((d,.slice (some ⟨b,0,none⟩) p q)::L) (ae b (cl (List.replicate q ((bt z).headD undef)) elem)::H)) :
  J P f n R G S all (.cons false true ⟨some d,.makeSlice t x y,ty,pos,af,gd⟩ rest) k L H:=by
 refine lV hd (fun u H1=>∃b,u = .slice (some ⟨b,0,none⟩) p q∧H1=ae b (cl (List.replicate q ((bt z).headD undef)) elem)::H) (fun a w ha hw=>?_) ?_ ?_
 ·refine⟨_,_,_,?_,⟨w.heap.size,rfl,rfl⟩,hw.alloc _⟩
  have h1:te.info.size=1:=Nat.eq_of_beq_eq_true adh
  have h2:(bt z).length=1:=Nat.eq_of_beq_eq_true KE
  obtain⟨u,hu1⟩:∃u,bt z=[u]:=List.length_eq_one_iff.1 h2
  have wq:IntKind.i64.wrap (q:Int)=q:=dx (by simp only[fz];omega)
  have wp:IntKind.i64.wrap (p:Int)=p:=dx (by simp only[fz];omega)
  have hb:¬((281474976710656:Int)<(te.info.bytes:Int)*(q:Int)):=by omega
  have adH:¬((q:Int)<(p:Int)):=by omega
  have FC:z.cells = #[u]:=by rw[dw,hu1]
  have hq0:¬((q:Int)<0):=by omega
  have Fs:¬((p:Int)<0):=by omega
  by_cases h0:q=0
  ·subst h0
   have adK:p=0:=by omega
   subst adK
   have w0:IntKind.i64.wrap 0=0:=dx (by simp only[fz];omega)
   simp[execOp,ha.ev hx,ha.ev hy,Instr.makeSlice,run_underlying ht,hu,asInt,asIntOf,run_typeInfo he,w0,run_sizeOf he,h1,newRow,cl]
   grind
  ·have qh:(Array.range q).map (fun i=>(#[u]:Array Value)[i%(#[u]:Array Value).size]!)=(List.replicate q u).toArray:=by
    grind
   have me:(Instr.makeSlice t (.int .i64 (p:Int)) (.int .i64 (q:Int))).run P w = .ok (.slice (some ⟨w.heap.size,0,none⟩) p q) { w with heap:=w.heap.push (.cells (List.replicate q u).toArray elem) }:=by
    unfold Instr.makeSlice
    simp only[Sem.run_bind,run_underlying ht,Result.andThen_ok,hu,asInt,asIntOf,Sem.run_pure,run_typeInfo he,wp,wq]
    rw[if_neg (by simp[hb,adH])]
    simp only[pure_bind,Sem.run_bind,run_askRoom,Result.andThen_ok,run_sizeOf he,h1,Nat.mul_one,Int.toNat_natCast,h0,if_false,dD he hz,Sem.run_pure,FC,qh,newRow,run_newObj]
   simp only[execOp,ha.ev hx,ha.ev hy,Sem.run_bind,me,Result.andThen_ok,Sem.run_pure,hu1,List.headD_cons,cl]
 ·grind
 grind
def I0(L:eH):Option Operand→Option Int
 | none=>some 0
 | some x=>match ev L x with
  | some (.int _ l)=>some l
  | _=>none
def zw(L:eH)(len:Nat):Option Operand→Option Int
 | none=>some (len:Int)
 | some x=>match ev L x with
  | some (.int _ l)=>some l
  | _=>none
def qt{lo hi:Option Operand}{len cap:Nat}{p q:Int}{a:Act}{w:World}(isSlice:Bool)(ha:Has n L a)(u7:I0 L lo=some p)(Eb:zw L len hi=some q)(h0:0≤p)(MJ:p≤q)(Y2:hi=none∨q≤(cap:Int)) :
  (Instr.sliceBounds isSlice len cap (lo.map a.eval) (hi.map a.eval) none).run P w = .ok (p.toNat,q.toNat,cap) w:=by
 have hh:(match hi.map a.eval with|some v=>Instr.sliceBound v cap (if isSlice then .sliceAcap else .sliceAlen)|none=>pure len:Sem Nat).run P w = .ok q.toNat w:=by
  cases hi with
  | none=>simp only[zw,Option.some.injEq]at Eb;subst Eb;simp
  | some x =>
   simp only[zw]at Eb
   split at Eb
   ·rename_i j l hx
    cases Eb
    simp only[Option.map_some,ha.ev hx,Instr.sliceBound,asIntOf,Sem.run_bind,Sem.run_pure,Result.andThen_ok]
    rw[if_pos ⟨ai,Y2.resolve_left (by simp)⟩];rfl
   ·cases Eb
 have hl:(match lo.map a.eval with|some v=>Instr.sliceBound v q.toNat .sliceB|none=>pure 0:Sem Nat).run P w = .ok p.toNat w:=by
  cases lo with
  | none=>simp only[I0,Option.some.injEq]at u7;subst u7;simp
  | some x =>
   simp only[I0]at u7
   split at u7
   ·rename_i j l hx
    cases u7
    simp only[Option.map_some,ha.ev hx,Instr.sliceBound,asIntOf,Sem.run_bind,Sem.run_pure,Result.andThen_ok]
    rw[if_pos ⟨h0,ai⟩];rfl
   ·cases u7
 unfold Instr.sliceBounds
 cases hi with
 | none =>
  cases lo with
  | none=>simp at hh hl ⊢;exact⟨hl.symm ▸ rfl,hh⟩
  | some x=>simp at hh hl ⊢;simp[hl,hh]
 | some y =>
  cases lo with
  | none=>simp at hh hl ⊢;simp[hl,hh]
  | some x=>simp at hh hl ⊢;simp[hl,hh]
theorem Qm{t elem:TypeId}{bO te:Ty}{x:Operand}{lo hi:Option Operand}{b o len cap:Nat}{p q:Int}(hd:Nat.blt d n=true)(ht:U.get t=some bO)(hu:bO.eV = .slice elem)(he:U.get elem=some te)(hx:ev L x=some (.slice (some ⟨b,o,none⟩) len cap))(u7:I0 L lo=some p)(Eb:zw L len hi=some q)(h0:0≤p)(MJ:p≤q)(Y2:hi=none∨q≤(cap:Int))(h:∀o',(p.toNat≠cap→o'=o+p.toNat*te.info.size)→(p.toNat=cap→o'=o)→J P f n R G S all rest k ((d,.slice (some ⟨b,o',none⟩) (q.toNat-p.toNat) (cap-p.toNat))::L) H) :
  J P f n R G S all (.cons m true ⟨some d,.slice t x lo hi none,ty,pos,af,gd⟩ rest) k L H:=by
 refine cS hd (v := .slice (some ⟨b,if p.toNat=cap then o else o+p.toNat*te.info.size,none⟩) (q.toNat-p.toNat) (cap-p.toNat)) (fun a ha w=>?_) (h _ (fun e=>if_neg e) (fun e=>if_pos e))
 have hr:=qt (P:=P) (w:=w) true ha u7 Eb h0 MJ Y2
 simp only[execOp,ha.ev hx,Instr.sliceAt,Sem.run_bind,run_underlying ht,Result.andThen_ok,hu,Instr.slice,Option.map_none,hr,run_sizeOf he,Sem.run_pure]
 grind [Addr.add_eq]
def sliceAt(a0:Option Addr)(cap p size:Nat):Option Addr:=if p=cap then a0 else a0.map fun a=>a.add (p*size)
theorem Gk{t elem:TypeId}{bO te:Ty}{x:Operand}{lo hi:Option Operand}{a0:Option Addr}{len cap:Nat}{p q:Int}(hd:Nat.blt d n=true)(ht:U.get t=some bO)(hu:bO.eV = .slice elem)(he:U.get elem=some te)(hx:ev L x=some (.slice a0 len cap))(u7:I0 L lo=some p)(Eb:zw L len hi=some q)(h0:0≤p)(MJ:p≤q)(Y2:hi=none∨q≤(cap:Int))(h:J P f n R G S all rest k ((d,.slice (sliceAt a0 cap p.toNat te.info.size) (q.toNat-p.toNat) (cap-p.toNat))::L) H) :
  J P f n R G S all (.cons m true ⟨some d,.slice t x lo hi none,ty,pos,af,gd⟩ rest) k L H:=by
 refine cS hd (fun a ha w=>?_) h
 have hr:=qt (P:=P) (w:=w) true ha u7 Eb h0 MJ Y2
 simp only[execOp,ha.ev hx,Instr.sliceAt,Sem.run_bind,run_underlying ht,Result.andThen_ok,hu,Instr.slice,Option.map_none,hr,run_sizeOf he,Sem.run_pure,sliceAt]
 grind
def xK{t:TypeId}{bO:Ty}{x:Operand}{lo hi:Option Operand}{s:ByteArray}{p q:Int}(hd:Nat.blt d n=true)(ht:U.get t=some bO)(hu:bO.eV = .string)(hx:ev L x=some (.string s))(u7:I0 L lo=some p)(Eb:zw L s.size hi=some q)(h0:0≤p)(MJ:p≤q)(Y2:q≤(s.size:Int))(h:J P f n R G S all rest k ((d,.string (s.extract p.toNat q.toNat))::L) H) :
  J P f n R G S all (.cons m true ⟨some d,.slice t x lo hi none,ty,pos,af,gd⟩ rest) k L H:=by
 refine cS hd (fun a ha w=>?_) h
 have hr:=qt (P:=P) (w:=w) false ha u7 Eb h0 MJ (.inr Y2)
 simp only[execOp,ha.ev hx,Instr.sliceAt,Sem.run_bind,run_underlying ht,Result.andThen_ok,hu,Instr.slice,Option.map_none,hr,Option.isSome_none,Bool.false_eq_true,if_false,Sem.run_pure]
def DN{t elem:TypeId}{bO te:Ty}{x y:Operand}{j:IntKind}{b o len cap:Nat}{p:Int}(hd:Nat.blt d n=true)(ht:U.get t=some bO)(hu:bO.eV = .slice elem)(he:U.get elem=some te)(hx:ev L x=some (.slice (some ⟨b,o,none⟩) len cap))(hy:ev L y=some (.int j p))(h0:0≤p)(hp:p<(len:Int))(h:J P f n R G S all rest k ((d,.pointer (some ⟨b,o+p.toNat*te.info.size,none⟩))::L) H) :
  J P f n R G S all (.cons m true ⟨some d,.indexAddr t x y,ty,pos,af,gd⟩ rest) k L H:=by
 refine cS hd (fun a ha w=>?_) h
 simp only[execOp,ha.ev hx,ha.ev hy,Instr.indexAt,asIntOf,Sem.run_bind,Sem.run_pure,run_underlying ht,Result.andThen_ok,hu]
 rw[if_pos ⟨h0,hp⟩]
 simp only[Sem.run_bind,run_sizeOf he,Result.andThen_ok,Sem.run_pure,Addr.add_eq]
def acY{t elem:TypeId}{bO te:Ty}{x y:Operand}{j:IntKind}{b o len cap:Nat}{p:Int}(q sz:Nat)(hd:Nat.blt d n=true)(ht:U.get t=some bO)(hu:bO.eV = .slice elem)(he:U.get elem=some te)(hs:te.info.size=sz)(hx:ev L x=some (.slice (some ⟨b,o,none⟩) len cap))(hy:ev L y=some (.int j p))(hq:p=(q:Int))(cL:q<len)(h:J P f n R G S all rest k ((d,.pointer (some ⟨b,o+q*sz,none⟩))::L) H) :
  J P f n R G S all (.cons m true ⟨some d,.indexAddr t x y,ty,pos,af,gd⟩ rest) k L H:=by
 subst hq;subst hs
 exact DN hd ht hu he hx hy ai ai (by simpa using h)
def acX{t elem:TypeId}{bO te:Ty}{x y:Operand}{j:IntKind}{b o len cap:Nat}{p:Int}(q:Nat)(hd:Nat.blt d n=true)(ht:U.get t=some bO)(hu:bO.eV = .slice elem)(he:U.get elem=some te)(hs:te.info.size=1)(hx:ev L x=some (.slice (some ⟨b,o,none⟩) len cap))(hy:ev L y=some (.int j p))(hq:p=(q:Int))(cL:q<len)(h:J P f n R G S all rest k ((d,.pointer (some ⟨b,o+q,none⟩))::L) H) :
  J P f n R G S all (.cons m true ⟨some d,.indexAddr t x y,ty,pos,af,gd⟩ rest) k L H :=
 acY q 1 hd ht hu he hs hx hy hq cL (by simpa using h)
def xN{t elem:TypeId}{bO te:Ty}{x y:Operand}{j:IntKind}{b o len:Nat}{p:Int}(hd:Nat.blt d n=true)(ht:U.get t=some bO)(hu:bO.eV = .array len elem)(he:U.get elem=some te)(hx:ev L x=some (.pointer (some ⟨b,o,none⟩)))(hy:ev L y=some (.int j p))(h0:0≤p)(hp:p<(len:Int))(h:J P f n R G S all rest k ((d,.pointer (some ⟨b,o+p.toNat*te.info.size,none⟩))::L) H) :
  J P f n R G S all (.cons m true ⟨some d,.indexAddr t x y,ty,pos,af,gd⟩ rest) k L H:=by
 refine cS hd (fun a ha w=>?_) h
 simp only[execOp,ha.ev hx,ha.ev hy,Instr.indexAt,asIntOf,Sem.run_bind,Sem.run_pure,run_underlying ht,Result.andThen_ok,hu,Instr.sureAddr]
 rw[if_pos ⟨h0,hp⟩]
 simp only[Sem.run_bind,run_sizeOf he,Result.andThen_ok,Sem.run_pure,Addr.add_eq]
def tJ(s:ByteArray)(i:Nat):UInt8:=s.data.toList.getD i 0
def qS{t:TypeId}{bO:Ty}{x y:Operand}{j:IntKind}{s:ByteArray}{p:Int}(hd:Nat.blt d n=true)(ht:U.get t=some bO)(hu:bO.eV = .string)(hx:ev L x=some (.string s))(hy:ev L y=some (.int j p))(h0:0≤p)(hp:p<(s.size:Int))(h:J P f n R G S all rest k ((d,.int .u8 ((tJ s p.toNat).toNat:Int))::L) H) :
  J P f n R G S all (.cons m true ⟨some d,.index t x y,ty,pos,af,gd⟩ rest) k L H:=by
 refine cS hd (fun a ha w=>?_) h
 have cL:p.toNat<s.size:=by omega
 have hb:s[p.toNat]?=some (tJ s p.toNat):=by
  have h1:p.toNat<s.data.size:=cL
  have h2:s[p.toNat]?=some s[p.toNat]:=by simp[cL]
  rw[h2]
  congr 1
  unfold tJ
  rw[List.getD_eq_getElem?_getD,Array.getElem?_toList,Array.getElem?_eq_getElem h1]
  rfl
 simp[execOp,ha.ev hx,ha.ev hy,Instr.index,asIntOf,run_underlying ht,hu,h0,hb]
def Gp{t elem:TypeId}{bO te:Ty}{x y:Operand}{j:IntKind}{cs:Array Value}{len:Nat}{p:Int}{v:Value}(hd:Nat.blt d n=true)(ht:U.get t=some bO)(hu:bO.eV = .array len elem)(he:U.get elem=some te)(hg:te.isAgg=false)(h1:Nat.beq te.info.size 1=true)(hx:ev L x=some (.agg cs))(hy:ev L y=some (.int j p))(h0:0≤p)(hp:p<(len:Int))(hv:cs.toList[p.toNat]?=some v)(h:J P f n R G S all rest k ((d,v)::L) H) :
  J P f n R G S all (.cons m true ⟨some d,.index t x y,ty,pos,af,gd⟩ rest) k L H:=by
 refine cS hd (fun a ha w=>?_) h
 have YT:cs[p.toNat]?=some v:=by simpa using hv
 have h1':te.info.size=1:=Nat.eq_of_beq_eq_true h1
 simp[execOp,ha.ev hx,ha.ev hy,Instr.index,asIntOf,run_underlying ht,hu,h0,hp,run_sizeOf he,h1',part,pD he,hg,YT]
def vk{t:TypeId}{x:Operand}{b off:Nat}{bO:Ty}{v:Value}{A:HP}(i:Nat)(hd:Nat.blt d n=true)(hx:ev L x=some (.pointer (some ⟨b,off,none⟩)))(hi:bZ H i=some A)(hv:∀h,A h→dt h b off=some v)(ht:U.get t=some bO)(hg:bO.isAgg=false)(h:J P f n R G S all rest k ((d,v)::L) H):J P f n R G S all (.cons false true ⟨some d,.load t x,ty,pos,af,gd⟩ rest) k L H :=
 vl hd hx (fun w hw=>by
  obtain⟨h,hh,hA⟩:=hw.jF hi
  exact dE hh (hv h hA)) ht hg h
def u8(x:UInt8):Value := .int .u8 (x.toNat:Int)
def bV(bs:List UInt8):List Value:=bs.map u8
theorem bD(bs:List UInt8):(bV bs).length=bs.length:=by simp[bV]
theorem cB(bs:List UInt8):∀u∈bV bs,u.oneCell'=true:=by
 intro u hu
 simp only[bV,List.mem_map]at hu
 obtain⟨x,_,rfl⟩:=hu
 rfl
def foldl_push(bs:List UInt8):∀s:ByteArray,(bs.map fun x=>(x.toNat:Int)).foldl (fun r n=>r.push (UInt8.ofNat n.toNat)) s=⟨(s.data.toList++bs).toArray⟩:=by
 induction bs with
 | nil=>intro s;simp
 | cons x l ih =>
  simp_all
def strOf(bs:List UInt8):ByteArray:=⟨bs.toArray⟩
theorem vH(s:ByteArray):strOf s.data.toList=s:=by simp[strOf]
theorem Io{a b:List UInt8}:strOf a=strOf b↔a=b:=by
 grind [strOf]
theorem zF{a b:List UInt8}:Q7 (strOf a) (strOf b)=decide (a=b):=by
 grind [P2,Io]
def Br{src dst e:TypeId}{ts td te:Ty}{x:Operand}{v:Value}{A:HP}{bs:List UInt8}(i:Nat)(hd:Nat.blt d n=true)(hx:ev L x=some v)(hs:U.get src=some ts)(Ja:ts.eV = .slice e)(he:U.get e=some te)(heu:te.eV = .int .u8)(Jt:U.get dst=some td)(Js:td.eV = .string)(hi:bZ H i=some A)(hv:Vw A v bs.length (bV bs))(h:J P f n R G S all rest k ((d,.string (strOf bs))::L) H):J P f n R G S all (.cons false true ⟨some d,.convert src dst x,ty,pos,af,gd⟩ rest) k L H:=by
 refine jh hd (fun a w ha hw=>?_) h
 obtain⟨a0,cap,rfl,h0|⟨b,o,rfl,hc⟩⟩:=hv.cells hw hi
 ·have hb:bs=[]:=by simpa[bV]using h0
  subst hb
  cases a0 with
  | none =>
   simp only[execOp,ha.ev hx,Sem.run_bind]
   rw[run_convert_bytes_string w src dst e _ _ _ (by rw[iM (P:=P) hs,Ja]) (by rw[iM (P:=P) he,heu]) (by rw[iM (P:=P) Jt,Js])]
   simp[Conv.bytesToString,strOf]
   rfl
  | some a1 =>
   simp only[execOp,ha.ev hx,Sem.run_bind]
   rw[run_convert_bytes_string w src dst e _ _ _ (by rw[iM (P:=P) hs,Ja]) (by rw[iM (P:=P) he,heu]) (by rw[iM (P:=P) Jt,Js])]
   rw[run_bytesToString w a1 _ _ [] (by simp[loadCells,loadCellsFrom])]
   simp[strOf]
   rfl
 ·have h1:=run_loadCells_list (P:=P) w ⟨b,o,none⟩ (bV bs) (fun j c hj=>by rw[Addr.add_eq];exact hc j c hj)
  rw[bD]at h1
  simp only[execOp,ha.ev hx,Sem.run_bind]
  rw[run_convert_bytes_string w src dst e _ _ _ (by rw[iM (P:=P) hs,Ja]) (by rw[iM (P:=P) he,heu]) (by rw[iM (P:=P) Jt,Js])]
  rw[run_bytesToString w _ _ _ (bs.map fun x=>(x.toNat:Int)) (by rw[h1];simp[bV,u8]),foldl_push]
  simp[strOf]
def aW(b:Nat)(s:ByteArray)(e:TypeId)(cap:Nat):HP:=ae b (.cells (bytesRow s cap) e ((bytesRow s cap).size,(bytesRow s cap).size+1))
theorem Ey(b:Nat)(s:ByteArray)(e:TypeId)(cap eY:Nat):Vw (aW b s e cap) (.slice (some ⟨b,0,none⟩) s.size eY) s.size (bV s.data.toList):=by
 refine⟨_,eY,rfl,.inr ⟨b,0,rfl,fun h hA j c hj=>?_⟩⟩
 unfold dt
 rw[hA b,if_pos rfl]
 simp only[bytesRow,Nat.zero_add]
 grind [bV,u8]
theorem Km{src dst e:TypeId}{ts td te:Ty}{x:Operand}{s:ByteArray}(hd:Nat.blt d n=true)(hx:ev L x=some (.string s))(hs:U.get src=some ts)(Ja:ts.eV = .string)(Jt:U.get dst=some td)(Js:td.eV = .slice e)(he:U.get e=some te)(heu:te.eV = .int .u8)(hS:∀b cap w,Sat G w (aW b s e cap::H)→Sx rest S w)(h:∀b cap,J P f n R G S all rest k ((d,.slice (some ⟨b,0,none⟩) s.size cap)::L) (aW b s e cap::H)):J P f n R G S all (.cons false true ⟨some d,.convert src dst x,ty,pos,af,gd⟩ rest) k L H:=by
 refine lV hd (fun u H1=>∃b cap,u = .slice (some ⟨b,0,none⟩) s.size cap∧H1=aW b s e cap::H) (fun a w ha hw=>?_) ?_ ?_
 ·refine⟨_,w.drew.alloc (.cells (bytesRow s (grownCap w s.size 0 e)) e ((bytesRow s (grownCap w s.size 0 e)).size,(bytesRow s (grownCap w s.size 0 e)).size+1)),_,?_,⟨w.heap.size,grownCap w s.size 0 e,rfl,rfl⟩,?_⟩
  ·have:=run_bytes_of_string (P:=P) w src dst e s (by rw[iM (P:=P) hs,Ja]) (by rw[iM (P:=P) Jt,Js]) (by rw[iM (P:=P) he,heu])
   simp only[execOp,ha.ev hx,Sem.run_bind,this,Result.andThen_ok,Sem.run_pure]
  ·exact Sat.alloc (w:=w.drew) (hw.draw _) _
 ·grind
 grind
end
end Go.SL
namespace Go.SL
structure jv(P:Program)(kt:TypeId){κ:Type}(kv:κ→Value):Prop where
 inj:∀a b,kv a=kv b→a=b
 check:∀(e:Bool) (k:κ) (w:World),(Instr.checkKey e 10000 kt (kv k)).run P w = .ok () w
 find:∀(k:κ) (l:List MapEntry) (ks:List κ) (w:World),l.map (·.key)=ks.map kv →
  ∃r,(Instr.findKey kt (kv k) l).run P w = .ok r w ∧
   ((r=none∧k ∉ ks)∨∃i e,r=some (i,e.val)∧l[i]?=some e∧ks[i]?=some k∧∀j,j<i→ks[j]? ≠ some k)
 bits:∀k,Instr.sameBits 10000 (kv k) (kv k)=true
def findNow_spec{κ:Type}{kv:κ→Value}{kind:TypeDesc}[DecidableEq κ](hs:∀a b,Instr.sameNow kind (kv a) (kv b)=some (decide (a=b)))(k:κ) :
  ∀(l:List MapEntry) (ks:List κ) (o:Nat),l.map (·.key)=ks.map kv →
   ∃r,Instr.findNow kind (kv k) l o=some r∧((r=none∧k ∉ ks)∨∃i e,r=some (o+i,e.val)∧l[i]?=some e∧ks[i]?=some k∧∀j,j<i→ks[j]? ≠ some k):=by
 intro l
 induction l with
 | nil =>
  intro ks o h
  have:ks=[]:=by simpa using h.symm
  subst this
  exact⟨none,rfl,.inl ⟨rfl,by simp⟩⟩
 | cons e l ih =>
  intro ks o h
  cases ks with
  | nil=>simp at h
  | cons c ks =>
   simp only[List.map_cons,List.cons.injEq]at h
   obtain⟨h1,h2⟩:=h
   simp only[Instr.findNow,h1,hs]
   by_cases MU:k=c
   ·subst MU
    refine⟨_,by simp;rfl,.inr ⟨0,e,by simp,by simp,by simp,fun j hj=>absurd hj ai⟩⟩
   ·obtain⟨r,hr,ig⟩:=ih ks (o+1) h2
    refine⟨r,by simp[MU,hr],?_⟩
    rcases ig with⟨rfl,hn⟩|⟨i,e',rfl,hi,hk,hj⟩
    ·exact .inl ⟨rfl,by simp[MU,hn]⟩
    ·refine .inr ⟨i+1,e',by congr 2;omega,by simpa using hi,by simpa using hk,fun j p8=>?_⟩
     cases j with
     | zero=>simp;exact fun h=>MU h.symm
     | succ j=>simpa using hj j ai
theorem qe{P:Program}{kt:TypeId}{kind:TypeDesc}{κ:Type}[DecidableEq κ]{kv:κ→Value}(hu:P.underlying kt=some kind)(hs:∀a b,Instr.sameNow kind (kv a) (kv b)=some (decide (a=b)))(hk:(match kind with | .interface _=>false | .array _ _=>false | .struct _=>false|_=>true)=true)(inj:∀a b,kv a=kv b→a=b)(bits:∀k,Instr.sameBits 10000 (kv k) (kv k)=true):jv P kt kv where
 inj:=inj
 check:=fun e k w=>by
  unfold Instr.checkKey
  simp only[Sem.run_bind,underlying,run_program,Result.andThen_ok,hu,Sem.run_pure]
  cases kind <;> simp_all
 find:=fun k l ks w h=>by
  obtain⟨r,hr,ig⟩:=findNow_spec hs k l ks 0 h
  refine⟨r,?_,?_⟩
  ·simp only[Instr.findKey,Sem.run_bind,underlying,run_program,Result.andThen_ok,hu,Sem.run_pure,hr]
  grind
 bits:=bits
def acP(a b:ByteArray):(a == b)=decide (a=b):=by
 rw[Bool.eq_iff_iff]
 simp only[decide_eq_true_eq]
 constructor
 ·intro h
  have h1:(a.data == b.data)=true:=h
  cases a;cases b;simp at h1;rw[h1]
 ·rintro rfl
  show(a.data == a.data)=true
  simp
theorem l8{α β:Type}(g:α→β)(l:List α)(i:Nat):(l.eraseIdx i).map g=(l.map g).eraseIdx i:=by
 induction l generalizing i with
 | nil=>rfl
 | cons x l ih=>cases i <;> simp[ih]
def Mv{P:Program}{kt:TypeId}(hu:P.underlying kt=some .string):jv P kt Value.string :=
 qe hu (fun a b=>by simp only[Instr.sameNow,acP]) rfl (fun a b h=>by cases h;rfl) (fun k=>by simp[Instr.sameBits,acP])
def qy{P:Program}{kt:TypeId}{j:IntKind}(hu:P.underlying kt=some (.int j)):jv P kt (Value.int j) :=
 qe hu (fun a b=>by simp only[Instr.sameNow,if_true,acO]) rfl (fun a b h=>by cases h;rfl) (fun k=>by simp[Instr.sameBits])
section
variable{κ:Type}[DecidableEq κ]
def cU(es:List (κ × Value))(k:κ):Option Value:=(es.find? fun x=>decide (x.1=k)).map (·.2)
def jG(es:List (κ × Value))(k:κ)(v:Value):List (κ × Value):=if k∈es.map (·.1)then es.map (fun x=>if x.1=k then(k,v)else x)else es++[(k,v)]
def se(es:List (κ × Value))(k:κ):List (κ × Value):=es.filter fun x => !decide (x.1=k)
def xy{es:List (κ × Value)}{k:κ}:cU es k=none↔k ∉ es.map (·.1):=by
 unfold cU
 simp only[Option.map_eq_none_iff,List.find?_eq_none,decide_eq_true_eq,List.mem_map,not_exists,not_and]
theorem zS{es:List (κ × Value)}{k:κ}{i:Nat}{v:Value}(hi:es[i]?=some (k,v))(hj:∀j,j<i→(es.map (·.1))[j]? ≠ some k):cU es k=some v:=by
 induction es generalizing i with
 | nil=>simp at hi
 | cons x es ih =>
  cases i with
  | zero=>simp at hi;subst hi;simp[cU]
  | succ i =>
   simp at hi
   have h0:=hj 0 ai
   grind [cU]
def oH(kv:κ→Value)(o:Obj)(es:List (κ × Value)):Prop :=
 ∃entries clock,o = .map entries clock∧entries.toList.map (fun e=>(e.key,e.val))=es.map (fun x=>(kv x.1,x.2))∧(es.map (·.1)).Nodup∧(∀e∈entries.toList,e.born<clock)∧(entries.toList.map (·.born)).Nodup
def aI(kv:κ→Value)(b:Nat)(es:List (κ × Value)):HP:=fun h=>∃o,oH kv o es∧ae b o h
def Sat.k9{G:ct}{w:World}{H:List HP}{kv:κ→Value}{b:Nat}{es:List (κ × Value)}(hs:Sat G w H){i:Nat}(hi:bZ H i=some (aI kv b es)):∃o,oH kv o es∧w.heap[b]?=some o:=by
 obtain⟨h,hh,o,ho,hp⟩:=hs.jF hi
 exact⟨o,ho,hh b o (by rw[hp b];simp)⟩
def gA(kv:κ→Value)(b:Nat):∀h,ae b (.map #[] 0) h→aI kv b [] h:=fun h hp=>⟨_,⟨#[],0,rfl,rfl,by simp,by simp,by simp⟩,hp⟩
def Ff{kv:κ→Value}{b:Nat}{es:List (κ × Value)}{h:Hp}(hm:aI kv b es h):(es.map (·.1)).Nodup:=by
 obtain⟨o,⟨_,_,_,_,hn,_⟩,_⟩:=hm;exact hn
def Sat.v8{G:ct}{w:World}{H H':List HP}{kv:κ→Value}{b:Nat}{es es':List (κ × Value)}{o':Obj}{i:Nat}(hs:Sat G w H)(hi:bZ H i=some (aI kv b es))(hm:oH kv o' es')(hp:jO i (aI kv b es') H [] = .mk H') :
  Sat G { w with heap:=w.heap.setIfInBounds b o' } H':=by
 have u3:=hs.cu (ao.perm (cN (by rw[← dm];exact hi)))
 obtain⟨hT,hO,PM,hh,dj,h1,h2,⟨o,ho,u5⟩,hB,hd,hj⟩:=u3
 have zq:Sat G w (ae b o::H.eraseIdx i):=⟨hT,hO,PM,hh,dj,h1,h2,u5,hB,hd,hj⟩
 have h3:=zq.Aq (o':=o')
 have h4:=np i _ _ H [] H' hp hi
 refine(h3.cu ?_).cu (ao.perm (by simpa using h4.symm))
 exact ao.fold (B:=[_]) fun h hs=>⟨h,sub.refl h,o',hm,dp hs⟩
end
section
variable{P:Program}{U:Tr}[hU:eT P U]{f:FuncId}{n:Nat}{R:Ending→World→Prop}{G:ct}{k:List Item}{L:eH}{H H':List HP}{S:World→Prop}{all:Array Oper}{rest:Pl}{ty:TypeId}{pos:String}{af:Array Edge}{gd:Option (Nat × Bool)}{m:Bool}{d:Tmp}
variable{κ:Type}[DecidableEq κ]{kv:κ→Value}
def run_getObj_map{w:World}{b:Nat}{es:Array MapEntry}{c:Nat}(h:w.heap[b]?=some (.map es c)):(getObj b).run P w = .ok (.map es c) w:=by
 simp[getObj,Sem.run,h]
theorem nc{t kt et:TypeId}{bO te:Ty}{z:Value}{b:Nat}{es:List (κ × Value)}{key:κ}{o:Obj}{w:World}(c:Bool)(wI:jv P kt kv)(ht:U.get t=some bO)(hu:bO.eV = .map kt et)(he:U.get et=some te)(hz:te.info.zero=some z)(hm:oH kv o es)(hb:w.heap[b]?=some o) :
  (Instr.lookup t (.map (some b)) (kv key) c).run P w = .ok (if c then .tuple #[(cU es key).getD z,.bool (cU es key).isSome]else(cU es key).getD z) w:=by
 obtain⟨entries,clock,rfl,n9,iK,oS,Hy⟩:=hm
 have Hn:entries.toList.map (·.key)=(es.map (·.1)).map kv:=by
  have:=congrArg (List.map (·.1)) n9
  simpa[Function.comp_def]using this
 obtain⟨r,hr,ig⟩:=wI.find key entries.toList (es.map (·.1)) w Hn
 unfold Instr.lookup
 simp only[Sem.run_bind,run_underlying ht,Result.andThen_ok,hu,run_getObj_map hb,Sem.run_pure,wI.check,hr]
 rcases ig with⟨rfl,hn⟩|⟨i,e,rfl,hi,hk,hj⟩
 ·have:=xy.2 hn
  simp only[Sem.run_bind,dD he hz,Result.andThen_ok,Sem.run_pure,this]
  cases c <;> rfl
 ·have hv:es[i]?=some (key,e.val):=by
   have h1:=congrArg (·[i]?) n9
   grind
  have:=zS hv hj
  simp_all
def N0{t kt et:TypeId}{bO te:Ty}{z:Value}{x y:Operand}{b:Nat}{es:List (κ × Value)}{key:κ}{oK:Value}(i:Nat)(hd:Nat.blt d n=true)(wI:jv P kt kv)(hx:ev L x=some (.map (some b)))(hy:ev L y=some oK)(MT:oK=kv key)(ht:U.get t=some bO)(hu:bO.eV = .map kt et)(he:U.get et=some te)(hz:te.info.zero=some z)(hi:bZ H i=some (aI kv b es))(h:J P f n R G S all rest k ((d,(cU es key).getD z)::L) H):J P f n R G S all (.cons false true ⟨some d,.lookup t x y false,ty,pos,af,gd⟩ rest) k L H :=
 jh hd (fun a w ha hw=>by
  obtain⟨o,hm,hb⟩:=hw.k9 hi
  subst MT
  simp[execOp,ha.ev hx,ha.ev hy,nc (P:=P) (key:=key) false wI ht hu he hz hm hb]) h
def px{t kt et:TypeId}{bO te:Ty}{z:Value}{x y:Operand}{b:Nat}{es:List (κ × Value)}{key:κ}{oK:Value}(hd:Nat.blt d n=true)(wI:jv P kt kv)(hx:ev L x=some (.map (some b)))(hy:ev L y=some oK)(MT:oK=kv key)(ht:U.get t=some bO)(hu:bO.eV = .map kt et)(he:U.get et=some te)(hz:te.info.zero=some z)(hi:∀w,Sat G w H→∃o,oH kv o es∧w.heap[b]?=some o)(h:J P f n R G S all rest k ((d,.tuple #[(cU es key).getD z,.bool (cU es key).isSome])::L) H):J P f n R G S all (.cons false true ⟨some d,.lookup t x y true,ty,pos,af,gd⟩ rest) k L H :=
 jh hd (fun a w ha hw=>by
  obtain⟨o,hm,hb⟩:=hi w hw
  subst MT
  simp[execOp,ha.ev hx,ha.ev hy,nc (P:=P) (key:=key) true wI ht hu he hz hm hb]) h
def Aa{t kt et:TypeId}{bO te:Ty}{z:Value}{x y:Operand}{b:Nat}{es:List (κ × Value)}{key:κ}{oK:Value}(hd:Nat.blt d n=true)(wI:jv P kt kv)(hx:ev L x=some (.map (some b)))(hy:ev L y=some oK)(MT:oK=kv key)(ht:U.get t=some bO)(hu:bO.eV = .map kt et)(he:U.get et=some te)(hz:te.info.zero=some z)(hi:∀w,S w→∃o,oH kv o es∧w.heap[b]?=some o)(h:J P f n R G S all rest k ((d,(cU es key).getD z)::L) H):J P f n R G S all (.cons true true ⟨some d,.lookup t x y false,ty,pos,af,gd⟩ rest) k L H :=
 kF hd (fun a w ha hw=>by
  obtain⟨o,hm,hb⟩:=hi w hw
  subst MT
  simp[execOp,ha.ev hx,ha.ev hy,nc (P:=P) (key:=key) false wI ht hu he hz hm hb]) h
def pw{t kt et:TypeId}{bO te:Ty}{z:Value}{x y:Operand}{b:Nat}{es:List (κ × Value)}{key:κ}{oK:Value}(hd:Nat.blt d n=true)(wI:jv P kt kv)(hx:ev L x=some (.map (some b)))(hy:ev L y=some oK)(MT:oK=kv key)(ht:U.get t=some bO)(hu:bO.eV = .map kt et)(he:U.get et=some te)(hz:te.info.zero=some z)(hi:∀w,S w→∃o,oH kv o es∧w.heap[b]?=some o)(h:J P f n R G S all rest k ((d,.tuple #[(cU es key).getD z,.bool (cU es key).isSome])::L) H):J P f n R G S all (.cons true true ⟨some d,.lookup t x y true,ty,pos,af,gd⟩ rest) k L H :=
 kF hd (fun a w ha hw=>by
  obtain⟨o,hm,hb⟩:=hi w hw
  subst MT
  simp[execOp,ha.ev hx,ha.ev hy,nc (P:=P) (key:=key) true wI ht hu he hz hm hb]) h
theorem Mh{entries:Array MapEntry}{clock:Nat}{es:List (κ × Value)}{key:κ}{v:Value}{i:Nat}{e:MapEntry}(hm:oH kv (.map entries clock) es)(hi:entries.toList[i]?=some e)(hk:(es.map (·.1))[i]?=some key) :
  oH kv (.map (entries.modify i fun e=>{ e with key:=kv key,val:=v }) clock) (jG es key v):=by
 obtain⟨r6,A6,heq,n9,iK,oS,Hy⟩:=hm
 cases heq
 have eR:key∈es.map (·.1):=List.mem_of_getElem? hk
 have Y7:(entries.modify i fun e=>{ e with key:=kv key,val:=v }).toList=entries.toList.modify i (fun e=>{ e with key:=kv key,val:=v }):=by simp
 refine⟨_,clock,rfl,?_,?_,?_,?_⟩
 ·rw[Y7]
  apply List.ext_getElem?
  intro j
  have hj:=congrArg (·[j]?) n9
  simp only[List.getElem?_map]at hj
  simp only[jG,eR,if_true,List.getElem?_map,List.getElem?_modify]
  cases hx:es[j]? with
  | none =>
   grind
  | some x =>
   rw[hx]at hj
   simp only[Option.map_some]at hj
   cases hy:entries.toList[j]? with
   | none=>rw[hy]at hj;cases hj
   | some y =>
    rw[hy]at hj
    simp only[Option.map_some,Option.some.injEq,Prod.mk.injEq]at hj
    by_cases Jn:i=j
    ·grind
    ·have fu:x.1≠key:=fun hxk=>by
      have h1:(es.map (·.1))[j]?=some key:=by simp[hx,hxk]
      exact Jn ((List.getElem?_inj (by
       rcases Nat.lt_or_ge i (es.map (·.1)).length with h|h
       ·exact h
       ·rw[List.getElem?_eq_none h]at hk;cases hk) iK).1 (hk.trans h1.symm))
     grind
 ·grind [jG]
 ·intro e' he'
  rw[Y7]at he'
  obtain⟨j,hj⟩:=List.getElem?_of_mem he'
  grind
 ·rw[Y7]
  have:(entries.toList.modify i (fun e=>{ e with key:=kv key,val:=v })).map (·.born)=entries.toList.map (·.born):=by
   apply List.ext_getElem?
   grind
  grind
theorem IZ{entries:Array MapEntry}{clock:Nat}{es:List (κ × Value)}{key:κ}{v:Value}(hm:oH kv (.map entries clock) es)(hn:key ∉ es.map (·.1)) :
  oH kv (.map (entries.push { key:=kv key,val:=v,born:=clock }) (clock+1)) (jG es key v):=by
 obtain⟨r6,A6,heq,n9,iK,oS,Hy⟩:=hm
 cases heq
 refine⟨_,clock+1,rfl,?_,?_,?_,?_⟩
 ·simp[jG,hn,n9]
 ·grind [jG]
 ·grind
 grind
theorem EB{t kt et:TypeId}{bO:Ty}{b:Nat}{es:List (κ × Value)}{key:κ}{v:Value}{w:World}{i:Nat}(wI:jv P kt kv)(ht:U.get t=some bO)(hu:bO.eV = .map kt et)(hw:Sat G w H)(hi:bZ H i=some (aI kv b es))(hp:jO i (aI kv b (jG es key v)) H [] = .mk H') :
  ∃w',(Instr.mapUpdate t (.map (some b)) (kv key) v).run P w = .ok () w'∧Sat G w' H':=by
 obtain⟨o,hm,hb⟩:=hw.k9 hi
 have CP:=hm
 obtain⟨entries,clock,rfl,n9,iK,oS,Hy⟩:=hm
 have Hn:entries.toList.map (·.key)=(es.map (·.1)).map kv:=by
  have:=congrArg (List.map (·.1)) n9
  simpa[Function.comp_def]using this
 obtain⟨r,hr,ig⟩:=wI.find key entries.toList (es.map (·.1)) w Hn
 have iW:∀o',(setObj b o').run P w = .ok () { w with heap:=w.heap.setIfInBounds b o' }:=fun o'=>by simp[setObj,Sem.run,hb]
 rcases ig with⟨rfl,hn⟩|⟨j,e,rfl,hj,hk,cL⟩
 ·refine⟨_,?_,hw.v8 hi (IZ (v:=v) CP hn) hp⟩
  unfold Instr.mapUpdate
  simp only[Sem.run_bind,run_underlying ht,Result.andThen_ok,hu,run_getObj_map hb,wI.check,hr,iW]
 ·refine⟨_,?_,hw.v8 hi (Mh (v:=v) CP hj hk) hp⟩
  have hek:e.key=kv key:=by
   have h1:=congrArg (·[j]?) Hn
   grind
  have p8:entries[j]?=some e:=by simpa using hj
  unfold Instr.mapUpdate
  simp only[Sem.run_bind,run_underlying ht,Result.andThen_ok,hu,run_getObj_map hb,wI.check,hr,p8,Option.map_some,Option.getD_some,hek,Instr.keyThatStays,wI.bits,if_true,Sem.run_pure,iW]
def DL{t kt et:TypeId}{bO:Ty}{x y v0:Operand}{b:Nat}{es:List (κ × Value)}{key:κ}{oK v:Value}(i:Nat)(wI:jv P kt kv)(hS:∀w,Sat G w H'→Sx rest S w)(hx:ev L x=some (.map (some b)))(hy:ev L y=some oK)(MT:oK=kv key)(hv:ev L v0=some v)(ht:U.get t=some bO)(hu:bO.eV = .map kt et)(hi:bZ H i=some (aI kv b es))(hp:jO i (aI kv b (jG es key v)) H [] = .mk H')(h:J P f n R G S all rest k L H'):J P f n R G S all (.cons false true ⟨none,.mapUpdate t x y v0,ty,pos,af,gd⟩ rest) k L H:=by
 refine N6 (fun H1=>H1=H') (fun a w ha hw=>?_) (fun H1 w e hw=>hS w (e ▸ hw)) (fun H1 e=>e ▸ h)
 subst MT
 obtain⟨w',hr,hs⟩:=EB (P:=P) wI ht hu hw hi hp
 exact⟨w',H',by simp[execOp,ha.ev hx,ha.ev hy,ha.ev hv,hr],rfl,hs⟩
theorem A0{es:List (κ × Value)}{key:κ}:∀ {i:Nat},(es.map (·.1)).Nodup→(es.map (·.1))[i]?=some key→se es key=es.eraseIdx i:=by
 induction es with
 | nil=>intro i _ h;simp at h
 | cons x es ih =>
  intro i iK hk
  simp only[List.map_cons,List.nodup_cons]at iK
  cases i with
  | zero =>
   simp at hk
   subst hk
   simp only[se,decide_true,Bool.not_true,List.filter_cons,Bool.false_eq_true,if_false,List.eraseIdx_cons_zero]
   apply List.filter_eq_self.2
   grind
  | succ i =>
   grind [se]
theorem JY{es:List (κ × Value)}{key:κ}(h:key ∉ es.map (·.1)):se es key=es:=by
 apply List.filter_eq_self.2
 grind
theorem Mi{entries:Array MapEntry}{clock:Nat}{es:List (κ × Value)}{key:κ}{i:Nat}{e:MapEntry}(hm:oH kv (.map entries clock) es)(hi:entries.toList[i]?=some e)(hk:(es.map (·.1))[i]?=some key) :
  oH kv (.map (entries.eraseIdxIfInBounds i) clock) (se es key):=by
 obtain⟨r6,A6,heq,n9,iK,oS,Hy⟩:=hm
 cases heq
 have qf:(entries.eraseIdxIfInBounds i).toList=entries.toList.eraseIdx i:=by simp
 rw[A0 iK hk]
 refine⟨_,clock,rfl,?_,?_,?_,?_⟩
 ·grind [l8]
 ·grind
 ·grind
 grind
def sy{t kt et:TypeId}{bO:Ty}{x y:Operand}{t2:TypeId}{b:Nat}{es:List (κ × Value)}{key:κ}{oK:Value}(i:Nat)(wI:jv P kt kv)(hS:∀w,Sat G w H'→Sx rest S w)(hx:ev L x=some (.map (some b)))(hy:ev L y=some oK)(MT:oK=kv key)(ht:U.get t=some bO)(hu:bO.eV = .map kt et)(hi:bZ H i=some (aI kv b es))(hp:jO i (aI kv b (se es key)) H [] = .mk H')(h:J P f n R G S all rest k L H'):J P f n R G S all (.cons false true ⟨none,.call { callee := .builtin .delete,args := #[x,y],argTypes := #[t,t2] },ty,pos,af,gd⟩ rest) k L H:=by
 intro a w ha hw _
 subst MT
 obtain⟨o,hm,hb⟩:=hw.k9 hi
 have CP:=hm
 obtain⟨entries,clock,rfl,n9,iK,oS,Hy⟩:=hm
 have Hn:entries.toList.map (·.key)=(es.map (·.1)).map kv:=by
  have:=congrArg (List.map (·.1)) n9
  simpa[Function.comp_def]using this
 obtain⟨r,hr,ig⟩:=wI.find key entries.toList (es.map (·.1)) w Hn
 have iW:∀o',(setObj b o').run P w = .ok () { w with heap:=w.heap.setIfInBounds b o' }:=fun o'=>by simp[setObj,Sem.run,hb]
 refine .inl ⟨.inl rfl,.inr ⟨rfl,?_⟩⟩
 rcases ig with⟨rfl,hn⟩|⟨j,e,rfl,hj,hk,cL⟩
 ·have hs:=hw.v8 hi (o' := .map entries clock) (es':=se es key) (by rw[JY hn];exact CP) hp
  have:(execOp a.eval ⟨none,.call { callee := .builtin .delete,args := #[x,y],argTypes := #[t,t2] },ty,pos,af,gd⟩).run P w = .ok (.value (.tuple #[])) { w with heap:=w.heap.setIfInBounds b (.map entries clock) }:=by
   simp only[execOp,resolve,invoke,builtin,Sem.run_bind,Sem.run_pure,Result.andThen_ok,List.map_toArray,List.map_cons,List.map_nil,ha.ev hx,ha.ev hy,Builtin.delete_,List.getElem?_toArray,List.getElem?_cons_zero,List.getElem?_cons_succ,
    run_underlying ht,hu,run_getObj_map hb,wI.check,hr,iW]
  exact fQ this ⟨hS _ hs,h a _ ha hs (hS _ hs)⟩
 ·have hs:=hw.v8 hi (Mi CP hj hk) hp
  have:(execOp a.eval ⟨none,.call { callee := .builtin .delete,args := #[x,y],argTypes := #[t,t2] },ty,pos,af,gd⟩).run P w = .ok (.value (.tuple #[])) { w with heap:=w.heap.setIfInBounds b (.map (entries.eraseIdxIfInBounds j) clock) }:=by
   simp only[execOp,resolve,invoke,builtin,Sem.run_bind,Sem.run_pure,Result.andThen_ok,List.map_toArray,List.map_cons,List.map_nil,ha.ev hx,ha.ev hy,Builtin.delete_,List.getElem?_toArray,List.getElem?_cons_zero,List.getElem?_cons_succ,
    run_underlying ht,hu,run_getObj_map hb,wI.check,hr,iW]
  exact fQ this ⟨hS _ hs,h a _ ha hs (hS _ hs)⟩
def vT{t kt et:TypeId}{bO:Ty}{b:Nat}{es:List (κ × Value)}{o:Obj}{w:World}{rty:TypeId}(ht:U.get t=some bO)(hu:bO.eV = .map kt et)(hm:oH kv o es)(hb:w.heap[b]?=some o) :
  (Builtin.len_ #[t] rty #[.map (some b)]).run P w = .ok (.int .i64 es.length) w:=by
 obtain⟨entries,clock,rfl,n9,iK,oS,Hy⟩:=hm
 have hl:entries.size=es.length:=by have:=congrArg List.length n9;simpa using this
 simp[Builtin.len_,run_underlying ht,hu,run_getObj_map hb,goInt,hl]
def N2{t kt et:TypeId}{bO:Ty}{x:Operand}{b:Nat}{es:List (κ × Value)}(i:Nat)(hd:Nat.blt d n=true)(hx:ev L x=some (.map (some b)))(ht:U.get t=some bO)(hu:bO.eV = .map kt et)(hi:bZ H i=some (aI kv b es))(h:J P f n R G S all rest k ((d,.int .i64 es.length)::L) H):J P f n R G S all (.cons false true ⟨some d,.call { callee := .builtin .len,args := #[x],argTypes := #[t] },ty,pos,af,gd⟩ rest) k L H :=
 jh hd (fun a w ha hw=>by
  obtain⟨o,hm,hb⟩:=hw.k9 hi
  simp[execOp,resolve,invoke,builtin,ha.ev hx,vT (P:=P) ht hu hm hb]) h
def Kr{t kt et:TypeId}{bO:Ty}{x:Operand}{b:Nat}{es:List (κ × Value)}(hd:Nat.blt d n=true)(hx:ev L x=some (.map (some b)))(ht:U.get t=some bO)(hu:bO.eV = .map kt et)(hi:∀w,Sat G w H→∃o,oH kv o es∧w.heap[b]?=some o)(h:J P f n R G S all rest k ((d,.int .i64 es.length)::L) H):J P f n R G S all (.cons false true ⟨some d,.call { callee := .builtin .len,args := #[x],argTypes := #[t] },ty,pos,af,gd⟩ rest) k L H :=
 jh hd (fun a w ha hw=>by
  obtain⟨o,hm,hb⟩:=hi w hw
  simp[execOp,resolve,invoke,builtin,ha.ev hx,vT (P:=P) ht hu hm hb]) h
def bB(kv:κ→Value)(b it:Nat)(es:List (κ × Value))(done:List κ):HP:=fun h =>
 ∃entries clock seen,oH kv (.map entries clock) es∧(∀(i:Nat) (e:MapEntry) (x:κ × Value),entries.toList[i]?=some e→es[i]?=some x→(seen.contains e.born=true↔x.1∈done)) ∧
  (∀key,done.head?=some key→∃e∈entries.toList,e.key=kv key∧seen.back?=some e.born) ∧
  star (ae b (.map entries clock)) (ae it (.mapIter (some b) clock seen clock)) h
def jD{b it:Nat}{es:List (κ × Value)}{done:List κ}:∀h,bB kv b it es done h→∃h',sub h' h∧aI kv b es h':=by
 rintro h⟨entries,clock,seen,hm,_,_,hs⟩
 obtain⟨h',s,hp⟩:=jz hs
 exact⟨h',s,_,hm,hp⟩
theorem nL{t kt et:TypeId}{bO:Ty}{x:Operand}{b:Nat}{es:List (κ × Value)}(i:Nat)(hd:Nat.blt d n=true)(hx:ev L x=some (.map (some b)))(ht:U.get t=some bO)(hu:bO.eV = .map kt et)(hi:bZ H i=some (aI kv b es)){Hf:Nat→List HP}(hp:∀it,jO i (bB kv b it es []) H [] = .mk (Hf it))(hS:∀it w,Sat G w (Hf it)→Sx rest S w)(h:∀it,J P f n R G S all rest k ((d,.pointer (some ⟨it,0,none⟩))::L) (Hf it)):J P f n R G S all (.cons false true ⟨some d,.range t x,ty,pos,af,gd⟩ rest) k L H:=by
 refine lV hd (fun u H1=>∃it,u = .pointer (some ⟨it,0,none⟩)∧H1=Hf it) (fun a w ha hw=>?_) ?_ ?_
 ·obtain⟨o,hm,hb⟩:=hw.k9 hi
  have u3:=hw.cu (ao.perm (cN (by rw[← dm];exact hi)))
  obtain⟨hT,hO,PM,hh,dj,h1,h2,⟨o',ho',u5⟩,hB,Zn,hj⟩:=u3
  have hoo:o'=o:=by
   have:w.heap[b]?=some o':=dj b o' (by rw[hj b,u5 b];simp)
   grind
  subst hoo
  have zq:Sat G w (ae b o'::H.eraseIdx i):=⟨hT,hO,PM,hh,dj,h1,h2,u5,hB,Zn,hj⟩
  obtain⟨entries,clock,rfl,wF⟩:=hm
  refine⟨_,{ w with heap:=w.heap.push (.mapIter (some b) clock #[] clock) },Hf w.heap.size,?_,⟨w.heap.size,rfl,rfl⟩,?_⟩
  ·simp only[execOp,ha.ev hx,Instr.range,Sem.run_bind,run_underlying ht,Result.andThen_ok,hu,run_getObj_map hb,Sem.run_pure,run_newObj]
  ·have h3:=zq.alloc (.mapIter (some b) clock #[] clock)
   have h4:=np i _ _ H [] (Hf w.heap.size) (hp _) hi
   refine(h3.cu ?_).cu (ao.perm (by simpa using h4.symm))
   refine(ao.perm (List.Perm.swap _ _ _)).trans ?_
   refine ao.fold (B:=[_,_]) fun h hs=>⟨h,sub.refl h,entries,clock,#[],⟨entries,clock,rfl,wF⟩,fun i e x _ _=>by simp,by simp,?_⟩
   exact e9 (fun _ h=>h) (fun _ h=>dp h) hs
 ·grind
 grind
theorem nN{x:Operand}{b it:Nat}{es:List (κ × Value)}{done:List κ}{key:κ}{v:Value}(i:Nat)(hd:Nat.blt d n=true)(aca:∀a b,kv a=kv b→a=b)(hx:ev L x=some (.pointer (some ⟨it,0,none⟩)))(hi:bZ H i=some (bB kv b it es (key::done)))(hv:(key,v)∈es)(h:J P f n R G S all rest k ((d,.tuple #[kv key,v])::L) H):J P f n R G S all (.cons false true ⟨some d,.entry x,ty,pos,af,gd⟩ rest) k L H :=
 jh hd (fun a w ha hw=>by
  have u3:=hw.cu (ao.perm (cN (by rw[← dm];exact hi)))
  obtain⟨hT,hO,PM,hh,dj,h1,h2,hA,hB,Zn,hj⟩:=u3
  obtain⟨entries,clock,seen,hm,QM,lN,h3,h4,sO,Jm,PD,hj2⟩:=hA
  have hb:w.heap[b]?=some (.map entries clock):=dj b _ (by rw[hj b,hj2 b,sO b];simp)
  have Hr:w.heap[it]?=some (.mapIter (some b) clock seen clock):=by
   refine dj it _ ?_
   rw[hj it,hj2 it,Jm it]
   rcases PD it with e|e
   ·rw[e];simp
   ·rw[Jm it]at e;simp at e
  obtain⟨r6,A6,heq,n9,iK,oS,Hy⟩:=hm
  cases heq
  have hgm:=run_getObj_map (P:=P) hb
  have M0:(getObj it).run P w = .ok (.mapIter (some b) clock seen clock) w:=by simp[getObj,Sem.run,Hr]
  obtain⟨e,he,hek,mL⟩:=lN key rfl
  -- the cell's value
  obtain⟨j,BE⟩:=List.getElem?_of_mem he
  have hev:e.val=v:=by
   have h6:=congrArg (·[j]?) n9
   simp only[List.getElem?_map,BE,Option.map_some]at h6
   cases CG:es[j]? with
   | none=>rw[CG]at h6;cases h6
   | some x2 =>
    rw[CG]at h6
    simp only[Option.map_some,Option.some.injEq,Prod.mk.injEq]at h6
    have hkk:x2.1=key:=aca _ _ (h6.1.symm.trans hek)
    obtain⟨j2,Ze⟩:=List.getElem?_of_mem hv
    have Q6:(es.map (·.1))[j]?=(es.map (·.1))[j2]? := by simp only[List.getElem?_map,CG,Ze,Option.map_some,hkk]
    have h12:j=j2:=(List.getElem?_inj (by
     have:j<es.length:=by
      grind
     rw[List.length_map];exact this) iK).1 Q6
    grind
  have acm:entries.find? (fun x=>x.born == e.born)=some e:=by
   rw[← Array.find?_toList]
   cases hf:entries.toList.find? (fun x=>x.born == e.born)with
   | none=>have:=List.find?_eq_none.1 hf e he;simp at this
   | some e2 =>
    have h1:=List.find?_some hf
    have h2:=List.mem_of_find?_eq_some hf
    simp only[beq_iff_eq]at h1
    obtain⟨j2,Ze⟩:=List.getElem?_of_mem h2
    have Q6:(entries.toList.map (·.born))[j2]?=(entries.toList.map (·.born))[j]? := by simp only[List.getElem?_map,BE,Ze,Option.map_some,h1]
    have h12:j2=j:=(List.getElem?_inj (by
     have:j2<entries.toList.length:=by
      grind
     rw[List.length_map];exact this) Hy).1 Q6
    grind
  simp only[execOp,ha.ev hx,Instr.entry,Sem.run_bind,M0,hgm,Result.andThen_ok,mL,acm,Sem.run_pure,hek,hev,bne_self_eq_false,Bool.false_eq_true,if_false]) h
theorem qR{x:Operand}{b it:Nat}{es:List (κ × Value)}{done:List κ}(i:Nat)(hd:Nat.blt d n=true)(aca:∀a b,kv a=kv b→a=b)(hx:ev L x=some (.pointer (some ⟨it,0,none⟩)))(hi:bZ H i=some (bB kv b it es done)){Hf:κ→List HP}(hp:∀key,jO i (bB kv b it es (key::done)) H [] = .mk (Hf key))(hS0:∀w,Sat G w H→Sx rest S w)(hS:∀key w,Sat G w (Hf key)→Sx rest S w)(jq:(∀y∈es,y.1∈done)→J P f n R G S all rest k ((d,.tuple #[.bool false])::L) H)(hgo:∀key v,(key,v)∈es→key ∉ done→J P f n R G S all rest k ((d,.tuple #[.bool true,kv key,v])::L) (Hf key)) :
  J P f n R G S all (.cons false true ⟨some d,.next x false,ty,pos,af,gd⟩ rest) k L H:=by
 intro a w ha hw _
 refine .inl ⟨.inl rfl,.inr ⟨rfl,?_⟩⟩
 have u3:=hw.cu (ao.perm (cN (by rw[← dm];exact hi)))
 obtain⟨hT,hO,PM,hh,dj,h1,h2,hA,hB,Zn,hj⟩:=u3
 obtain⟨entries,clock,seen,hm,QM,_,h3,h4,sO,Jm,PD,hj2⟩:=hA
 have hb:w.heap[b]?=some (.map entries clock):=dj b _ (by rw[hj b,hj2 b,sO b];simp)
 have Hr:w.heap[it]?=some (.mapIter (some b) clock seen clock):=by
  refine dj it _ ?_
  rw[hj it,hj2 it,Jm it]
  rcases PD it with e|e
  ·rw[e];simp
  ·rw[Jm it]at e;simp at e
 obtain⟨r6,A6,heq,n9,iK,oS,Hy⟩:=hm
 cases heq
 have hgm:=run_getObj_map (P:=P) hb
 have M0:(getObj it).run P w = .ok (.mapIter (some b) clock seen clock) w:=by simp[getObj,Sem.run,Hr]
 have fI:(!seen.isEmpty && !entries.isEmpty && entries.all (·.born≥clock))=false:=by
  cases he:entries.isEmpty with
  | true=>simp
  | false =>
   have fu:entries.toList≠[]:=by simpa[Array.isEmpty_iff]using he
   obtain⟨e,l,qf⟩:=List.exists_cons_of_ne_nil fu
   grind
 have hold:∀(l:Array MapEntry),(∀e∈l.toList,e∈entries.toList)→l.filter (·.born<clock)=l∧l.filter (·.born≥clock) = #[]:=by
  simp_all
 have QV:=hold (entries.filter fun e => !seen.contains e.born) (fun e he=>by simp at he;simpa using he.1)
 -- the entry that comes, if one does
 have ab2:∀e,e∈entries.toList→∃(j:Nat) (x:κ × Value),entries.toList[j]?=some e∧es[j]?=some x∧x∈es∧e.key=kv x.1∧e.val=x.2∧(seen.contains e.born=true↔x.1∈done):=by
  intro e he
  obtain⟨j,BE⟩:=List.getElem?_of_mem he
  have h6:=congrArg (·[j]?) n9
  grind
 have abH:∀x,x∈es→∃e,e∈entries.toList∧e.key=kv x.1∧(seen.contains e.born=true↔x.1∈done):=by
  intro x2 CG
  obtain⟨j,BE⟩:=List.getElem?_of_mem CG
  have h6:=congrArg (·[j]?) n9
  grind
 have abR:(execOp a.eval ⟨some d,.next x false,ty,pos,af,gd⟩)=(do let v ← Instr.next (.pointer (some ⟨it,0,none⟩)) false ty;pure (.value v)):=by simp only[execOp,ha.ev hx]
 refine kR (fun c hc=>by cases hc) rfl ?_
 rw[abR]
 simp only[Sem.run_bind,Instr.next,M0,Result.andThen_ok,hgm,fI,Bool.false_eq_true,if_false,QV.1,QV.2,Array.append_empty]
 by_cases wM:(entries.filter fun e => !seen.contains e.born).isEmpty=true
 ·have he:(entries.filter fun e => !seen.contains e.born) = #[]:=Array.isEmpty_iff.1 wM
  have acq:∀y∈es,y.1∈done:=by
   intro y hy
   obtain⟨e,hem,_,Pz⟩:=abH y hy
   simp_all
  have:=jq acq
  simp only[he,Array.isEmpty_empty,if_true,Array.map_empty,Array.append_empty,Sem.run_bind,run_choose]
  simp only[Question.forced,List.size_toArray,List.length_singleton,Nat.le_refl,decide_true,if_true,Result.andThen_ok,List.getElem?_toArray,List.getElem?_cons_zero,Sem.run_pure]
  exact⟨hS0 w hw,this _ w (ha.put hd _) hw (hS0 w hw)⟩
 ·have aco:(entries.filter fun e => !seen.contains e.born).isEmpty=false:=by simpa using wM
  obtain⟨q,w1,hq,zp,PF⟩:∃q w1,q<(entries.filter fun e => !seen.contains e.born).size∧(w1=w∨w1=w.drew) ∧
    (choose (.mapNext ((entries.filter fun e => !seen.contains e.born).map some).size)).run P w = .ok q w1:=by
   have oO:0<(entries.filter fun e => !seen.contains e.born).size:=by
    grind
   simp only[run_choose,Array.size_map]
   by_cases hf:(Question.mapNext (entries.filter fun e => !seen.contains e.born).size).forced=true
   ·exact⟨0,w,oO,.inl rfl,by rw[if_pos hf]⟩
   ·exact⟨_,w.drew,Nat.mod_lt _ oO,.inr rfl,by rw[if_neg hf];rfl⟩
  have Fy:((entries.filter fun e => !seen.contains e.born).map some)[q]?=some (some (entries.filter fun e => !seen.contains e.born)[q]):=by simp[hq]
  generalize hE:(entries.filter fun e => !seen.contains e.born)[q]=e at Fy
  have QU:e∈(entries.filter fun e => !seen.contains e.born):=by rw[← hE];exact Array.getElem_mem hq
  simp only[Array.mem_filter]at QU
  obtain⟨Y9,MS⟩:=QU
  obtain⟨i3,x2,hi3,hx3,CG,AU,pN,acb⟩:=ab2 e (by simpa using Y9)
  have adS:x2.1 ∉ done:=fun h=>by have:=acb.2 h;rw[this]at MS;cases MS
  have acj:=hgo x2.1 x2.2 CG adS
  simp only[aco,Bool.false_eq_true,if_false,Array.empty_append,Sem.run_bind]
  rw[PF]
  have iW:(setObj it (.mapIter (some b) clock (seen.push e.born) clock)).run P w1 = .ok () { w1 with heap:=w1.heap.setIfInBounds it (.mapIter (some b) clock (seen.push e.born) clock) }:=by
   have:w1.heap[it]?=some (.mapIter (some b) clock seen clock):=by rcases zp with rfl|rfl <;> exact Hr
   simp[setObj,Sem.run,this]
  simp only[Result.andThen_ok,Fy,Sem.run_bind,iW,Sem.run_pure,AU,pN]
  have MG:Sat G { w1 with heap:=w1.heap.setIfInBounds it (.mapIter (some b) clock (seen.push e.born) clock) } (Hf x2.1):=by
   have ado:Sat G w1 (ae it (.mapIter (some b) clock seen clock)::ae b (.map entries clock)::H.eraseIdx i):=by
    have h7:Sat G w (ae it (.mapIter (some b) clock seen clock)::ae b (.map entries clock)::H.eraseIdx i):=by
     refine⟨hT,hO,PM,hh,dj,?_⟩
     have h8:star (star (ae b (.map entries clock)) (ae it (.mapIter (some b) clock seen clock))) (Sep (H.eraseIdx i)) hh:=⟨h1,h2,⟨h3,h4,sO,Jm,PD,hj2⟩,hB,Zn,hj⟩
     exact yW (jN h8)
    rcases zp with rfl|rfl
    ·exact h7
    ·exact h7.draw _
   have h9:=ado.Aq (o' := .mapIter (some b) clock (seen.push e.born) clock)
   have h10:=np i _ _ H [] (Hf x2.1) (hp _) hi
   refine(h9.cu ?_).cu (ao.perm (by simpa using h10.symm))
   refine(ao.perm (List.Perm.swap _ _ _)).trans ?_
   refine ao.fold (B:=[_,_]) fun h hs=>⟨h,sub.refl h,entries,clock,seen.push e.born,⟨entries,clock,rfl,n9,iK,oS,Hy⟩,?_,?_,?_⟩
   ·intro i2 e2 y2 Hv QH
    have abZ:=QM i2 e2 y2 Hv QH
    simp only[Array.contains_eq_mem,Array.mem_push,decide_eq_true_eq,List.mem_cons]at abZ ⊢
    constructor
    ·rintro(h|h)
     ·grind
     ·left
      -- the borns are one, so the entries are
      have Q6:(entries.toList.map (·.born))[i2]?=(entries.toList.map (·.born))[i3]? := by simp only[List.getElem?_map,Hv,hi3,Option.map_some,h]
      have h12:i2=i3:=(List.getElem?_inj (by
       have:i2<entries.toList.length:=by
        grind
       rw[List.length_map];exact this) Hy).1 Q6
      grind
    ·rintro(h|h)
     ·right
      have Q6:(es.map (·.1))[i2]?=(es.map (·.1))[i3]? := by simp only[List.getElem?_map,QH,hx3,Option.map_some,h]
      have h12:i2=i3:=(List.getElem?_inj (by
       have:i2<es.length:=by
        grind
       rw[List.length_map];exact this) iK).1 Q6
      grind
     grind
   ·grind
   ·exact e9 (fun _ h=>h) (fun _ h=>dp h) hs
  exact⟨hS _ _ MG,acj _ _ (ha.put hd _) MG (hS _ _ MG)⟩
end
end Go.SL
namespace Go.SL
section
variable{P:Program}{U:Tr}[hU:eT P U]{f:FuncId}{n:Nat}{R:Ending→World→Prop}{G:ct}{k:List Item}{L:eH}{H H':List HP}{S:World→Prop}{all:Array Oper}{rest:Pl}{ty:TypeId}{pos:String}{af:Array Edge}{gd:Option (Nat × Bool)}{m:Bool}{d:Tmp}
def vV{g:FuncId}{fn:Func}{e:Array Value→Sem Value}{vs:Array Value}{w:World}(hf:P.funcs[g]?=some fn)(hb:fn.body=none)(hn:(fn.name == "runtime.NumGoroutine")=false)(u6:(Extern.findNext fn).isNone=true)(he:Extern.find fn=some e) :
  (callFunc g vs).run P w=((e vs).run P w).andThen fun v w' => .ok (.value v) w':=by
 have adP:Extern.findNext fn=none:=Option.isNone_iff_eq_none.1 u6
 simp only[callFunc,Sem.run_bind,run_program,Result.andThen_ok,hf,hn,hb,Option.isNone_none,Bool.false_eq_true,if_false,if_true,run_mark,adP,he,Sem.run_pure]
theorem DK{κ:Type}[DecidableEq κ]{kv:κ→Value}{g:FuncId}{fn:Func}{args:Array Operand}{vz:Array TypeId}{t:TypeId}{b:Nat}{es:List (κ × Value)}(i:Nat)(hd:Nat.blt d n=true)(hf:P.funcs[g]?=some fn)(hb:fn.body=none)(hn:(fn.name == "runtime.NumGoroutine")=false)(u6:(Extern.findNext fn).isNone=true)(he:Extern.find fn=some Extern.MapsClone.clone)(fN:Ee L args.toList [] = .mk [.iface t (.map (some b))])(hi:bZ H i=some (aI kv b es))(hS:∀b' w,Sat G w (aI kv b' es::H)→Sx rest S w)(h:∀b',J P f n R G S all rest k ((d,.iface t (.map (some b')))::L) (aI kv b' es::H)) :
  J P f n R G S all (.cons false true ⟨some d,.call { callee := .value (.func g),args:=args,argTypes:=vz },ty,pos,af,gd⟩ rest) k L H:=by
 refine lV hd (fun u H1=>∃b',u = .iface t (.map (some b'))∧H1=aI kv b' es::H) (fun a w ha hw=>?_) ?_ ?_
 ·obtain⟨o,hm,Zv⟩:=hw.k9 hi
  have CP:=hm
  obtain⟨entries,clock,rfl,n9,iK,oS,Hy⟩:=hm
  refine⟨_,{ w with heap:=w.heap.push (.map entries clock) },_,?_,⟨w.heap.size,rfl,rfl⟩,?_⟩
  ·simp only[execOp,resolve,Sem.run_bind,Act.eval,Deferred.ofValue,Sem.run_pure,Result.andThen_ok,invoke]
   rw[show(args.map fun x=>a.eval x)=args.map a.eval from rfl]at *
   have hav:=lQ ha _ _ fN
   rw[show Array.map a.eval args = #[.iface t (.map (some b))]from hav]
   simp only[Array.empty_append,Array.append_empty]
   rw[vV hf hb hn u6 he]
   have mX:Extern.MapsClone.clone #[.iface t (.map (some b))]=(getObj b >>= fun o=>match o with
     | .map entries clock=>newObj (.map entries clock) >>= fun r=>pure (.iface t (.map (some r)))
     | _=>stuck "maps.clone: a map expected"):=rfl
   rw[mX]
   simp only[Sem.run_bind,run_getObj_map Zv,Result.andThen_ok,run_newObj,Sem.run_pure]
  ·have h3:=hw.alloc (.map entries clock)
   exact h3.cu (ao.fold (B:=[_]) fun h hs=>⟨h,sub.refl h,_,CP,dp hs⟩)
 ·grind
 grind
def N4{x:Operand}{xt t:TypeId}{bO:Ty}{v:Value}(hd:Nat.blt d n=true)(hx:ev L x=some (.iface t v))(ht:U.get t=some bO)(hni:(match bO.eV with | .interface _=>false|_=>true)=true)(h:J P f n R G S all rest k ((d,v)::L) H):J P f n R G S all (.cons m true ⟨some d,.typeAssert x xt t false,ty,pos,af,gd⟩ rest) k L H :=
 cS hd (fun a ha w=>by
  simp only[execOp,ha.ev hx,Instr.typeAssert,Sem.run_bind,run_underlying ht,Result.andThen_ok]
  cases hu:bO.eV <;> simp_all) h
def Ko{x:Operand}{t:TypeId}{bO:Ty}{v:Value}(hd:Nat.blt d n=true)(hx:ev L x=some v)(ht:U.get t=some bO)(hni:(match bO.eV with | .interface _=>false|_=>true)=true)(h:J P f n R G S all rest k ((d,.iface t v)::L) H):J P f n R G S all (.cons m true ⟨some d,.makeInterface t x,ty,pos,af,gd⟩ rest) k L H :=
 cS hd (fun a ha w=>by
  simp only[execOp,ha.ev hx,Instr.makeInterface,Sem.run_bind,run_underlying ht,Result.andThen_ok]
  cases hu:bO.eV <;> simp_all) h
def Row(w:World)(b:Nat):Prop:=∃l e,w.heap[b]?=some (cl l e)
theorem B3{b1 o1 b2 o2:Nat}{w:World}(h1:Row w b1)(h2:Row w b2):(sameAddr ⟨b1,o1,none⟩ ⟨b2,o2,none⟩).run P w = .ok (decide (b1=b2∧o1=o2)) w:=by
 obtain⟨l1,e1,sO⟩:=h1
 obtain⟨l2,e2,rR⟩:=h2
 unfold sameAddr
 by_cases hb:b1=b2
 ·subst hb
  simp only[beq_self_eq_true,if_true,Sem.run_pure,true_and]
  congr 1
  grind
 ·have fu:(b1 == b2)=false:=by simpa using hb
  have f1:∀o,w.frozen? ⟨b1,o,none⟩=false:=fun o=>kd sO
  have f2:∀o,w.frozen? ⟨b2,o,none⟩=false:=fun o=>kd rR
  have s1:w.shape? b1=some (e1,l1.length):=by simp[World.shape?,sO,cl]
  have s2:w.shape? b2=some (e2,l2.length):=by simp[World.shape?,rR,cl]
  simp[fu,f1,f2,noView,viewAt,s1,s2,mayBeOne,stringish,hb]
def Qn{x y:Operand}{t yt el:TypeId}{bO te:Ty}{b1 o1 b2 o2:Nat}(hd:Nat.blt d n=true)(hx:ev L x=some (.pointer (some ⟨b1,o1,none⟩)))(hy:ev L y=some (.pointer (some ⟨b2,o2,none⟩)))(ht:U.get t=some bO)(hu:bO.eV = .pointer el)(he:U.get el=some te)(iJ:Nat.beq te.info.size 0=false)(h1:∀w,Sat G w H→Row w b1)(h2:∀w,Sat G w H→Row w b2)(h:J P f n R G S all rest k ((d,.bool (decide (b1=b2∧o1=o2)))::L) H):J P f n R G S all (.cons false true ⟨some d,.binOp .eql t x y yt,ty,pos,af,gd⟩ rest) k L H :=
 jh hd (fun a w ha hw=>by
  have hr:=B3 (P:=P) (o1:=o1) (o2:=o2) (h1 w hw) (h2 w hw)
  have fu:te.info.size≠0:=Nat.ne_of_beq_eq_false iJ
  have heq:(Op.equal t (.pointer (some ⟨b1,o1,none⟩)) (.pointer (some ⟨b2,o2,none⟩))).run P w = .ok (decide (b1=b2∧o1=o2)) w:=by
   unfold Op.equal Op.maxDepth Op.equalIn
   simp only[Sem.run_bind,run_underlying ht,Result.andThen_ok,hu,run_sizeOf he,ne_eq,fu,not_false_eq_true,if_true,hr]
  have hg:(eqGuard .eql t x y (.pointer (some ⟨b1,o1,none⟩)) (.pointer (some ⟨b2,o2,none⟩))).run P w = .ok () w:=by simp[eqGuard]
  have hb:(binOp .eql t (.pointer (some ⟨b1,o1,none⟩)) (.pointer (some ⟨b2,o2,none⟩))).run P w = .ok (.bool (decide (b1=b2∧o1=o2))) w:=by
   simp only[binOp,Sem.run_bind,heq,Result.andThen_ok,Sem.run_pure]
  simp only[execOp,ha.ev hx,ha.ev hy,Sem.run_bind,hg,hb,Result.andThen_ok,Sem.run_pure]) h
theorem vo{x:Operand}{t elem:TypeId}{bO te:Ty}{z:Value}{b o nn cap:Nat}{l l':List Value}{e:TypeId}(i:Nat)(hS:∀w,Sat G w H'→Sx rest S w)(hx:ev L x=some (.slice (some ⟨b,o,none⟩) nn cap))(ht:U.get t=some bO)(hu:bO.eV = .slice elem)(he:U.get elem=some te)(hz:te.info.zero=some z)(KE:Nat.beq (bt z).length te.info.size=true)(eM:gF (bt z)=true)(hi:bZ H i=some (ae b (cl l e)))(tC:o+nn*te.info.size≤l.length)(Fw:l'=l.take o++(List.replicate nn (bt z)).flatten++l.drop (o+nn*te.info.size))(hp:jO i (ae b (cl l' e)) H [] = .mk H')(h:J P f n R G S all rest k L H'):J P f n R G S all (.cons false true ⟨none,.call { callee := .builtin .clear,args := #[x],argTypes := #[t] },ty,pos,af,gd⟩ rest) k L H:=by
 intro a w ha hw _
 have adi:(bt z).length=te.info.size:=Nat.eq_of_beq_eq_true KE
 have FC:(Builtin.zeroCells z.cells nn).toList=(List.replicate nn (bt z)).flatten:=by
  have qh:z.cells.size=(bt z).length:=by rw[dw];simp
  unfold Builtin.zeroCells
  simp only[Array.toList_map,Array.toList_range,qh]
  rw[dw]
  induction nn with
  | zero=>simp
  | succ nn ih =>
   clear ih
   rw[List.replicate_succ',List.flatten_append]
   have ad4:∀q,List.map (fun i=>(bt z).toArray[i%(bt z).length]!) (List.range (q*(bt z).length))=(List.replicate q (bt z)).flatten:=by
    intro q
    induction q with
    | zero=>simp
    | succ q ih =>
     rw[List.replicate_succ',List.flatten_append,← ih,Nat.succ_mul,List.range_add,List.map_append]
     congr 1
     simp only[List.map_map,List.flatten_cons,List.flatten_nil,List.append_nil]
     apply List.ext_getElem?
     intro j
     by_cases hj:j<(bt z).length
     ·simp only[List.getElem?_map,List.getElem?_range hj,Option.map_some,Function.comp]
      rw[Nat.mul_comm,Nat.mul_add_mod,Nat.mod_eq_of_lt hj]
      simp[hj]
     grind
   have:=ad4 (nn+1)
   rw[List.replicate_succ',List.flatten_append]at this
   exact this
 have hlen:((List.replicate nn (bt z)).flatten).length=nn*te.info.size:=by simp[adi]
 have dK:=eK (P:=P) ((List.replicate nn (bt z)).flatten) 0 o l w (hw.qF hi) (by rw[hlen];simpa using tC) (fun u hu=>by
  simp only[List.mem_flatten,List.mem_replicate]at hu
  obtain⟨l2,⟨_,rfl⟩,hu⟩:=hu
  exact uH eM u hu)
 simp only[Nat.add_zero,hlen,← Fw]at dK
 have hs:=hw.put hi hp
 refine .inl ⟨.inl rfl,.inr ⟨rfl,?_⟩⟩
 by_cases h0:nn=0
 ·subst h0
  have hll:l'=l:=by rw[Fw];simp
  subst hll
  have YW:Sat G w H':=by
   have hb:=hw.qF hi
   have cL:b<w.heap.size:=by
    grind
   have Zv:w.heap[b]=cl l' e:=by rw[Array.getElem?_eq_getElem cL]at hb;exact Option.some.inj hb
   have:w.heap.setIfInBounds b (cl l' e)=w.heap:=by rw[← Zv];simp[Array.setIfInBounds,cL]
   rw[this]at hs;exact hs
  have:(execOp a.eval ⟨none,.call { callee := .builtin .clear,args := #[x],argTypes := #[t] },ty,pos,af,gd⟩).run P w = .ok (.value (.tuple #[])) w:=by
   simp[execOp,resolve,invoke,builtin,ha.ev hx,Builtin.clear_,run_underlying ht,hu]
  exact fQ this ⟨hS _ YW,h a _ ha YW (hS _ YW)⟩
 ·have:(execOp a.eval ⟨none,.call { callee := .builtin .clear,args := #[x],argTypes := #[t] },ty,pos,af,gd⟩).run P w = .ok (.value (.tuple #[])) { w with heap:=w.heap.setIfInBounds b (cl l' e) }:=by
   obtain⟨q,rfl⟩:∃q,nn=q+1:=⟨nn-1,ai⟩
   simp only[execOp,resolve,invoke,builtin,Sem.run_bind,Sem.run_pure,Result.andThen_ok,List.map_toArray,List.map_cons,List.map_nil,ha.ev hx,Builtin.clear_,List.getElem?_toArray,List.getElem?_cons_zero,run_underlying ht,hu,dD he hz,FC,dK]
  exact fQ this ⟨hS _ hs,h a _ ha hs (hS _ hs)⟩
end
end Go.SL
namespace Go.SL
def gM{α:Type}(p:α→Bool):List α→Int
 | [] => -1
 | x::l=>if p x then 0 else(if gM p l<0 then -1 else gM p l+1)
theorem G'{α:Type}(p:α→Bool)(l:List α) : -1≤gM p l:=by
 induction l with
 | nil=>simp[gM]
 | cons x l ih=>simp only[gM];split;omega;split <;> omega
def iF{α:Type}{p:α→Bool}{l:List α}(h:∀x∈l,p x=false):gM p l = -1:=by
 induction l with
 | nil=>rfl
 | cons x l ih=>simp[gM,h x (by simp),ih (fun y hy=>h y (by simp[hy]))]
theorem gL{α:Type}{p:α→Bool}{l:List α}{i:Nat}{x:α}(hi:l[i]?=some x)(hx:p x=true)(hb:∀y∈l.take i,p y=false):gM p l=i:=by
 induction l generalizing i with
 | nil=>simp at hi
 | cons y l ih =>
  cases i with
  | zero=>simp at hi;subst hi;simp[gM,hx]
  | succ i =>
   grind [gM]
theorem jQ{α:Type}{p:α→Bool}{l:List α}:gM p l<0↔l.any p=false:=by
 induction l with
 | nil=>simp[gM]
 | cons x l ih =>
  grind [G',gM]
theorem Vw.cell{A:HP}{b o n cap:Nat}{cs:List Value}(h:Vw A (.slice (some ⟨b,o,none⟩) n cap) n cs){i:Nat}{c:Value}(hi:cs[i]?=some c):∀h,A h→dt h b (o+i)=some c:=by
 obtain⟨a,eY,hv,h0|⟨b',o',ha,hc⟩⟩:=h
 ·grind
 grind
def Vw.shape{A:HP}{v:Value}{n:Nat}{cs:List Value}(h:Vw A v n cs):∃a cap,v = .slice a n cap:=by
 obtain⟨a,cap,hv,_⟩:=h;exact⟨a,cap,hv⟩
theorem Vw.some{A:HP}{v:Value}{n:Nat}{cs:List Value}(h:Vw A v n cs)(h0:cs≠[]):∃b o cap,v = .slice (some ⟨b,o,none⟩) n cap:=by
 obtain⟨a,cap,hv,h1|⟨b,o,ha,hc⟩⟩:=h
 ·exact absurd h1 h0
 grind
theorem tO{bs:List UInt8}{i:Nat}{x:UInt8}(h:bs[i]?=some x):(bV bs)[i]?=some (u8 x):=by simp[bV,h]
def ao.lj(H:List HP):ao H (emp::H):=fun h hs=>⟨h,sub.refl h,eE (rm hs)⟩
def ao.join(A B:HP)(H:List HP):ao (A::B::H) (star A B::H):=fun h hs=>⟨h,sub.refl h,jA hs⟩
theorem ao.part(A B:HP)(H:List HP):ao (star A B::H) (A::B::H):=fun h hs=>⟨h,sub.refl h,jN hs⟩
def Vw.left{A B:HP}{v:Value}{n:Nat}{cs:List Value}(h:Vw A v n cs):Vw (star A B) v n cs:=h.mono fun _ hs=>jz hs
def Vw.right{A B:HP}{v:Value}{n:Nat}{cs:List Value}(h:Vw B v n cs):Vw (star A B) v n cs:=h.mono fun _ hs=>vJ hs
def aac(x:UInt8):((x.toNat:Nat):Int)<256:=by have:=x.toNat_lt;omega
def K6{x y:UInt8}(h:(x.toNat:Int)=y.toNat):x=y:=UInt8.toNat_inj.1 ai
def fK{α β:Type}(q:α→β→Prop)(l:List α)(r:List β):Prop:=l.length=r.length∧∀(i:Nat) (x:α) (y:β),l[i]?=Option.some x→r[i]?=Option.some y→q x y
theorem fK.nil{α β:Type}{q:α→β→Prop}:fK q [] []:=⟨rfl,fun i x y h=>by simp at h⟩
theorem fK.snoc{α β:Type}{q:α→β→Prop}{l:List α}{r:List β}{x:α}{y:β}(h:fK q l r)(hq:q x y):fK q (l++[x]) (r++[y]):=by
 obtain⟨hl,ha⟩:=h
 refine⟨by simp[hl],fun i u v hu hv=>?_⟩
 grind
def fK.cons{α β:Type}{q:α→β→Prop}{l:List α}{r:List β}{x:α}{y:β}(h:fK q l r)(hq:q x y):fK q (x::l) (y::r):=by
 obtain⟨hl,ha⟩:=h
 refine⟨by simp[hl],fun i u v hu hv=>?_⟩
 cases i with
 | zero=>simp at hu hv;subst hu;subst hv;exact hq
 | succ i=>exact ha i u v (by simpa using hu) (by simpa using hv)
def fK.one{α β:Type}{q:α→β→Prop}{x:α}{y:β}(hq:q x y):fK q [x] [y]:=fK.nil.cons hq
def fK.mono{α β:Type}{q q':α→β→Prop}{l:List α}{r:List β}(h:fK q l r)(hm:∀x y,q x y→q' x y):fK q' l r:=⟨h.1,fun i x y hx hy=>hm x y (h.2 i x y hx hy)⟩
theorem fK.left{α β:Type}{q:α→β→Prop}{l:List α}{r:List β}(h:fK q l r){i:Nat}{x:α}(hi:l[i]?=Option.some x):∃y,r[i]?=Option.some y∧q x y:=by
 have cL:i<l.length:=by
  grind
 have:i<r.length:=by have:=h.1;omega
 exact⟨r[i],by simp[this],h.2 i x _ hi (by simp[this])⟩
theorem fK.right{α β:Type}{q:α→β→Prop}{l:List α}{r:List β}(h:fK q l r){i:Nat}{y:β}(hi:r[i]?=Option.some y):∃x,l[i]?=Option.some x∧q x y:=by
 have cL:i<r.length:=by
  grind
 have:i<l.length:=by have:=h.1;omega
 exact⟨l[i],by simp[this],h.2 i _ y (by simp[this]) hi⟩
theorem fK.set{α β:Type}{q:α→β→Prop}{l:List α}{r:List β}(h:fK q l r)(i:Nat){x:α}{y:β}(hq:q x y):fK q (l.set i x) (r.set i y):=by
 refine⟨by simp[h.1],fun j u v hu hv=>?_⟩
 rw[List.getElem?_set]at hu hv
 by_cases Jn:i=j
 ·grind
 ·rw[if_neg Jn]at hu hv;exact h.2 j u v hu hv
def ao.to{H pre rest F T:List HP}(is:List Nat)(m:Nat)(h:rE is [] H [] = .mk pre rest)(hd:rest.drop m=F)(ht:pre++F=T):ao H T:=ht ▸ ao.fin is m h hd
def bg(e:TypeId)(size:Nat)(a:Option Addr)(H:List HP):ao H (aB e size (.slice a 0 0) 0 []::H):=fun h hs=>⟨h,sub.refl h,e9 (OG e size a) (fun _ h=>h) (eE (rm hs))⟩
def ef(e:TypeId)(size b:Nat)(n cap:Nat)(cs junk:List Value)(H:List HP)(hl:cs.length=n*size)(hn:n≤cap)(hc:cap*size≤cs.length+junk.length) :
  ao (ae b (cl (cs++junk) e)::H) (aB e size (.slice (Option.some ⟨b,0,none⟩) n cap) n cs::H) :=
 ao.fold (B:=[_]) fun h hs=>⟨h,sub.refl h,hl,.inr ⟨b,0,cap,[],junk,rfl,rfl,hn,hc,dp hs⟩⟩
theorem kC{α:Type}{q:α→Prop}{l:List α}{i:Nat}{x:α}(hb:∀y∈l.take i,q y)(hi:l[i]?=Option.some x)(hx:q x):∀y∈l.take (i+1),q y:=by
 intro y hy
 have cL:i<l.length:=by
  grind
 rw[List.take_succ_eq_append_getElem cL]at hy
 grind
def CE{L:eH}:∀t v,dz ([]:eH) t=Option.some v→dz L t=Option.some v:=fun _ _ h=>by cases h
def zn{L L':eH}{t0:Nat}{v0:Value}(h:dz L t0=Option.some v0)(hr:∀t v,dz L' t=Option.some v→dz L t=Option.some v):∀t v,dz ((t0,v0)::L') t=Option.some v→dz L t=Option.some v:=by
 intro t v e
 simp only[dz]at e
 cases hb:Nat.beq t0 t with
 | true=>rw[← Nat.eq_of_beq_eq_true hb,h];simpa[hb]using e
 | false=>exact hr t v (by simpa[hb]using e)
def aH{P:Program}{f:FuncId}{n:Nat}{R:Ending→World→Prop}{G:ct}{k:List Item}{L:eH}{H:List HP}{S:World→Prop}{all:Array Oper}{rest:Pl}{e:TypeId}{size nn:Nat}{v:Value}{cs:List Value}(i:Nat)(hi:bZ H i=some (aB e size v nn cs))(h:∀a c,v = .slice a nn c→J P f n R G S all rest k L H):J P f n R G S all rest k L H :=
 xL fun w hw=>by
  obtain⟨h0,_,hA⟩:=hw.jF hi
  obtain⟨_,⟨a,rfl,rfl,_⟩|⟨b,o,cap,pre,junk,rfl,_⟩⟩:=hA
  ·exact h _ _ rfl
  ·exact h _ _ rfl
def db{P:Program}{f:FuncId}{n:Nat}{R:Ending→World→Prop}{G:ct}{k:List Item}{L:eH}{H:List HP}{e:TypeId}{size nn:Nat}{v:Value}{cs:List Value}(i:Nat)(hi:bZ H i=some (aB e size v nn cs))(h:∀a c,v = .slice a nn c→K P f n R G k L H):K P f n R G k L H :=
 pn fun⟨w,hw⟩=>by
  obtain⟨h0,_,hA⟩:=hw.jF hi
  obtain⟨_,⟨a,rfl,rfl,_⟩|⟨b,o,cap,pre,junk,rfl,_⟩⟩:=hA
  ·exact h _ _ rfl
  ·exact h _ _ rfl
def eU(old:List UInt8)(at_:Nat)(b:List UInt8):List UInt8 :=
 let o:=old++List.replicate (at_+b.length-old.length) 0
 o.take at_++b++o.drop (at_+b.length)
section
variable{P:Program}{U:Tr}[hU:eT P U]{f:FuncId}{n:Nat}{R:Ending→World→Prop}{G:ct}{k:List Item}{L:eH}{H H':List HP}{S:World→Prop}{all:Array Oper}{rest:Pl}{ty:TypeId}{pos:String}{af:Array Edge}{gd:Option (Nat × Bool)}{m:Bool}{d:Tmp}
def sq{e:TypeId}{sz nn:Nat}{v:Value}{cs:List Value}(i:Nat)(hi:bZ H i=some (aB e sz v nn cs))(h0:0<nn)(h:∀b o c,v = .slice (some ⟨b,o,none⟩) nn c→Vw (aB e sz v nn cs) v nn cs→J P f n R G S all rest k L H):J P f n R G S all rest k L H :=
 xL fun w hw=>by
  obtain⟨h1,_,hA⟩:=hw.jF hi
  have hv:=Vw.l7 e sz v nn cs ⟨h1,hA⟩
  obtain⟨_,⟨a,rfl,rfl,_⟩|⟨b,o,cap,pre,junk,rfl,_⟩⟩:=hA
  ·omega
  ·exact h _ _ _ rfl hv
def dH{e:TypeId}{sz nn:Nat}{v:Value}{cs:List Value}(i:Nat)(hi:bZ H i=some (aB e sz v nn cs))(h:Vw (aB e sz v nn cs) v nn cs→J P f n R G S all rest k L H):J P f n R G S all rest k L H :=
 xL fun w hw=>by
  obtain⟨h1,_,hA⟩:=hw.jF hi
  exact h (Vw.l7 e sz v nn cs ⟨h1,hA⟩)
def N1{t:TypeId}{x:Operand}{b o off nn cap:Nat}{bO:Ty}{c:Value}{A:HP}{cs:List Value}(i idx:Nat)(hd:Nat.blt d n=true)(hx:ev L x=some (.pointer (some ⟨b,off,none⟩)))(hi:bZ H i=some A)(hv:Vw A (.slice (some ⟨b,o,none⟩) nn cap) nn cs)(jR:off=o+idx)(hc:cs[idx]?=some c)(ht:U.get t=some bO)(hg:bO.isAgg=false)(h:J P f n R G S all rest k ((d,c)::L) H):J P f n R G S all (.cons false true ⟨some d,.load t x,ty,pos,af,gd⟩ rest) k L H :=
 vk (U:=U) i hd (jR ▸ hx) hi (hv.cell hc) ht hg h
def Kp{Hs:List HP}{t:TypeId}{x:Operand}{b o off nn cap:Nat}{bO:Ty}{c:Value}{A:HP}{cs:List Value}(i idx:Nat)(hd:Nat.blt d n=true)(hx:ev L x=some (.pointer (some ⟨b,off,none⟩)))(hi:bZ Hs i=some A)(hv:Vw A (.slice (some ⟨b,o,none⟩) nn cap) nn cs)(jR:off=o+idx)(hc:cs[idx]?=some c)(ht:U.get t=some bO)(hg:bO.isAgg=false)(h:J P f n R G (fun w=>Sat G w Hs) all rest k ((d,c)::L) H):J P f n R G (fun w=>Sat G w Hs) all (.cons true true ⟨some d,.load t x,ty,pos,af,gd⟩ rest) k L H :=
 Bv (U:=U) hd (jR ▸ hx) (fun w hw=>by
  obtain⟨h,hh,hA⟩:=hw.jF hi
  exact dE hh (hv.cell hc h hA)) ht hg h
theorem u':∀(acc l:List Value),AZ acc l = .mk (acc.reverse++l)
 | [],l=>rfl
 | a::acc,l=>by simp only[AZ,u' acc (a::l)];simp
theorem GU(u:Value):∀(l acc:List Value) (off:Nat),off<l.length→l5 acc off l [u] = .mk (acc.reverse++l.set off u):=by
 intro l
 induction l with
 | nil=>intro acc off h;simp at h
 | cons y l ih =>
  intro acc off h
  cases off with
  | zero =>
   simp only[l5]
   cases l <;> simp[u']
  | succ off=>simp only[l5];rw[ih _ _ (by simpa using h)];simp
def Ll{e:TypeId}{b o c nn:Nat}{cs:List Value}:∀h,aB e 1 (.slice (some ⟨b,o,none⟩) nn c) nn cs h→0<nn→∃x:List Value × List Value,(x.1.length=o∧nn≤c∧c≤cs.length+x.2.length∧cs.length=nn)∧Sep [ae b (cl (x.1++cs++x.2) e)] h:=by
 rintro h⟨hl,⟨a,hv,rfl,_⟩|⟨b',o',cap,pre,junk,hv,hp,hn,hc,u5⟩⟩ h0
 ·omega
 ·simp only[Value.slice.injEq,Option.some.injEq,Addr.mk.injEq,and_true,true_and]at hv
  obtain⟨⟨rfl,rfl⟩,rfl⟩:=hv
  exact⟨(pre,junk),⟨hp,hn,by simpa using hc,by simpa using hl⟩,dG u5⟩
def Iq{e:TypeId}{b o c nn:Nat}{cs pre junk:List Value}(hp:pre.length=o)(hn:nn≤c)(hc:c≤cs.length+junk.length)(hl:cs.length=nn)(H:List HP) :
  ao (ae b (cl (pre++cs++junk) e)::H) (aB e 1 (.slice (some ⟨b,o,none⟩) nn c) nn cs::H) :=
 ao.fold (B:=[_]) fun h hs=>⟨h,sub.refl h,by simpa using hl,.inr ⟨b,o,c,pre,junk,rfl,hp,hn,by simpa using hc,dp hs⟩⟩
theorem Gj{t:TypeId}{x y:Operand}{b o q c nn:Nat}{bO:Ty}{u:Value}{e:TypeId}{cs:List Value}(i:Nat)(hS:∀w,Sat G w H'→Sx rest S w)(hx:ev L x=some (.pointer (some ⟨b,o+q,none⟩)))(hy:ev L y=some u)(ht:U.get t=some bO)(iJ:Nat.beq bO.info.size 1=true)(hc:bt u=[u])(eM:gF [u]=true)(hi:bZ H i=some (aB e 1 (.slice (some ⟨b,o,none⟩) nn c) nn cs))(hq:q<nn)(hp:jO i (aB e 1 (.slice (some ⟨b,o,none⟩) nn c) nn (cs.set q u)) H [] = .mk H')(h:J P f n R G S all rest k L H'):J P f n R G S all (.cons false true ⟨none,.store t x y,ty,pos,af,gd⟩ rest) k L H:=by
 refine aN (ao.perm (cN (by rw[← dm];exact hi))) ?_
 refine NZ (B:=fun x:List Value × List Value=>[ae b (cl (x.1++cs++x.2) e)]) (fun h hs=>Ll h hs ai) ?_
 rintro⟨pre,junk⟩⟨h1,h2,h3,h4⟩
 simp only at h1 h2 h3 h4
 have iW:(pre++cs++junk).set (o+q) u=pre++cs.set q u++junk:=by
  grind
 have hE:ao (ae b (cl (pre++cs.set q u++junk) e)::H.eraseIdx i) H':=by
  have h5:=np i _ _ H [] H' hp hi
  exact(Iq h1 h2 (by rw[List.length_set];exact h3) (by rw[List.length_set];exact h4) _).trans (ao.perm (by simpa using h5.symm))
 refine ei (U:=U) (l':=pre++cs.set q u++junk) 0 (fun w hw=>hS w (hw.cu hE)) hx hy ht (by rw[hc,Nat.eq_of_beq_eq_true iJ];rfl) (by rw[hc];rfl) (by rw[hc];exact eM) rfl ?_ rfl (aN hE h)
 grind [GU]
end
def au.post{P:Program}{f:FuncId}{args:List Value}{Pre:List HP}{Post Post':Value→List HP→Prop}(c:au P f args Pre Post)(h:∀v H,Post v H→Post' v H):au P f args Pre Post' :=
 ⟨c.1,fun G w F hw=>(c.2 G w F hw).mono fun e w' h'=>let ⟨v,H,he,hp,hs⟩:=h';⟨v,H,he,h v H hp,hs⟩⟩
def au.pre{P:Program}{f:FuncId}{args:List Value}{Pre Pre':List HP}{Post:Value→List HP→Prop}(c:au P f args Pre Post)(h:ao Pre' Pre):au P f args Pre' Post :=
 ⟨c.1,fun G w F hw=>c.2 G w F (hw.cu (ao.append F h))⟩
structure Z5(A:Prop):Prop where
 out:A
def bS{p:Prop}(h:p:=by repeat(first|exact CE|refine zn rfl ?_)):p:=h
end Go.SL
namespace Go.SL
section
variable{P:Program}{U:Tr}[hU:eT P U]{f:FuncId}{n:Nat}{R:Ending→World→Prop}{G:ct}{k:List Item}{L:eH}{H H':List HP}{S:World→Prop}{all:Array Oper}{rest:Pl}{ty:TypeId}{pos:String}{af:Array Edge}{gd:Option (Nat × Bool)}{m:Bool}{d:Tmp}
def xM{t:TypeId}{x:Operand}{b off:Nat}{bO:Ty}{cs:List Value}(hd:Nat.blt d n=true)(hx:ev L x=some (.pointer (some ⟨b,off,none⟩)))(ht:U.get t=some bO)(hg:bO.isAgg=true)(hl:Nat.beq cs.length bO.info.size=true)(hc:∀w,Sat G w H→∀j v,cs[j]?=some v→w.cell? ⟨b,off+j,none⟩=some v)(h:J P f n R G S all rest k ((d,.agg cs.toArray)::L) H):J P f n R G S all (.cons false true ⟨some d,.load t x,ty,pos,af,gd⟩ rest) k L H :=
 jh hd (fun a w ha hw=>by
  simp[execOp,ha.ev hx,gu (P:=P) ht hg (Nat.eq_of_beq_eq_true hl) (hc w hw)]) h
def cd{t:TypeId}{x:Operand}{b o off nn cap:Nat}{bO:Ty}{es cs:List Value}{A:HP}(i idx:Nat)(hd:Nat.blt d n=true)(hx:ev L x=some (.pointer (some ⟨b,off,none⟩)))(hi:bZ H i=some A)(hv:Vw A (.slice (some ⟨b,o,none⟩) nn cap) nn cs)(jR:off=o+idx)(n9:∀j v,es[j]?=some v→cs[idx+j]?=some v)(ht:U.get t=some bO)(hg:bO.isAgg=true)(hl:Nat.beq es.length bO.info.size=true)(h:J P f n R G S all rest k ((d,.agg es.toArray)::L) H):J P f n R G S all (.cons false true ⟨some d,.load t x,ty,pos,af,gd⟩ rest) k L H :=
 xM (U:=U) hd hx ht hg hl (fun w hw j v hj=>by
  obtain⟨h,hh,hA⟩:=hw.jF hi
  have:=hv.cell (n9 j v hj) h hA
  rw[jR,show o+idx+j=o+(idx+j) by omega]
  exact dE hh this) h
theorem IA:∀(l vs acc:List Value) (off:Nat),off+vs.length≤l.length→l5 acc off l vs = .mk (acc.reverse++(l.take off++vs++l.drop (off+vs.length))):=by
 intro l
 induction l with
 | nil =>
  intro vs acc off h
  simp only[List.length_nil]at h
  grind [l5,u']
 | cons y l ih =>
  intro vs acc off h
  cases vs with
  | nil=>cases off <;> simp[l5,u']
  | cons v vs =>
   cases off with
   | zero =>
    grind [l5]
   | succ off =>
    grind [l5]
def lr{t:TypeId}{x y:Operand}{b off:Nat}{bO:Ty}{l l':List Value}{e:TypeId}{v:Value}(i:Nat)(hS:∀w,Sat G w H'→Sx rest S w)(hx:ev L x=some (.pointer (some ⟨b,off,none⟩)))(hy:ev L y=some v)(ht:U.get t=some bO)(iJ:Nat.beq (bt v).length bO.info.size=true)(fu:Nat.beq (bt v).length 0=false)(eM:gF (bt v)=true)(hi:bZ H i=some (ae b (cl l e)))(tC:off+(bt v).length≤l.length)(hl:l'=l.take off++bt v++l.drop (off+(bt v).length))(hp:jO i (ae b (cl l' e)) H [] = .mk H')(h:J P f n R G S all rest k L H'):J P f n R G S all (.cons false true ⟨none,.store t x y,ty,pos,af,gd⟩ rest) k L H :=
 ei (U:=U) i hS hx hy ht iJ fu eM hi (by rw[IA _ _ _ _ tC,hl];rfl) hp h
theorem qO{e:TypeId}{sz nn:Nat}{v:Value}{cs:List Value}{H:List HP}(h0:∀a,v = .slice a 0 0→nn=0→cs=[]→K P f n R G k L H)(h1:∀b o c pre junk,v = .slice (some ⟨b,o,none⟩) nn c→pre.length=o→nn≤c→c*sz≤cs.length+junk.length→cs.length=nn*sz→K P f n R G k L (ae b (cl (pre++cs++junk) e)::H)) :
  K P f n R G k L (aB e sz v nn cs::H):=by
 intro a w ha hw
 obtain⟨t,o,u,hp,BC,hA,hB,⟨hl,ig⟩,Jz,hd,he⟩:=hw
 rcases ig with⟨a0,hv,hn,wM⟩|⟨b,oo,cap,pre,junk,hv,j8,hn,hc,u5⟩
 ·refine h0 a0 hv hn (List.eq_nil_of_length_eq_zero (by rw[hl,hn];simp)) a w ha ⟨t,o,u,hB,fun x y I8=>?_,Jz⟩
  grind
 ·exact h1 b oo cap pre junk hv j8 hn hc hl a w ha ⟨t,o,u,hp,BC,hA,hB,u5,Jz,hd,he⟩
end
theorem cM{α:Type}{g:α→List Value}{s:Nat}(hs:∀x,(g x).length=s){l:List α}{i:Nat}{x:α}(h:l[i]?=some x)(j:Nat)(hj:j<s):(l.flatMap g)[i*s+j]?=(g x)[j]? := by
 induction l generalizing i with
 | nil=>simp at h
 | cons y l ih =>
  have hy:=hs y
  rw[List.flatMap_cons]
  cases i with
  | zero=>simp at h;subst h;rw[List.getElem?_append_left ai];simp
  | succ i =>
   grind
def bT{α:Type}{g:α→List Value}{s:Nat}(hs:∀x,(g x).length=s)(l:List α):(l.flatMap g).length=l.length*s:=by
 induction l with
 | nil=>simp
 | cons y l ih=>rw[List.flatMap_cons,List.length_append,ih,hs,List.length_cons,Nat.add_mul,Nat.one_mul];omega
theorem zL{α:Type}{g:α→List Value}{s:Nat}(hs:∀x,(g x).length=s){l:List α}{i:Nat}(hi:i<l.length)(x:α):(l.set i x).flatMap g=(l.flatMap g).take (i*s)++g x++(l.flatMap g).drop (i*s+s):=by
 induction l generalizing i with
 | nil=>simp at hi
 | cons y l ih =>
  have hy:=hs y
  cases i with
  | zero =>
   grind
  | succ i =>
   have e:(i+1)*s=s+i*s:=by rw[Nat.add_mul,Nat.one_mul];omega
   rw[List.set_cons_succ,List.flatMap_cons,List.flatMap_cons,ih (by simpa using hi),e,← hy,List.take_length_add_append,show(g y).length+i*(g y).length+(g y).length=(g y).length+(i*(g y).length+(g y).length) by omega,List.drop_length_add_append]
   simp
def gq{e:TypeId}{sz b o c nn:Nat}{cs pre junk:List Value}(hp:pre.length=o)(hn:nn≤c)(hc:c*sz≤cs.length+junk.length)(hl:cs.length=nn*sz)(H:List HP) :
  ao (ae b (cl (pre++cs++junk) e)::H) (aB e sz (.slice (some ⟨b,o,none⟩) nn c) nn cs::H) :=
 ao.fold (B:=[_]) fun h hs=>⟨h,sub.refl h,hl,.inr ⟨b,o,c,pre,junk,rfl,hp,hn,hc,dp hs⟩⟩
theorem qB{α:Type}{p:α→Bool}{l:List α}(h:¬gM p l = -1):∃(i:Nat) (x:α),gM p l=i∧l[i]?=Option.some x∧p x=true∧∀y∈l.take i,p y=false:=by
 have hex:∃(i:Nat) (x:α),l[i]?=Option.some x∧p x=true∧∀y∈l.take i,p y=false:=by
  have lC:l.any p=true:=by
   cases ha:l.any p with
   | true=>rfl
   | false =>
    have h1:=jQ.2 ha
    have h2:=G' p l
    omega
  clear h
  induction l with
  | nil=>simp at lC
  | cons y l ih =>
   cases hy:p y with
   | true=>exact⟨0,y,by simp,hy,by simp⟩
   | false =>
    simp only[List.any_cons,hy,Bool.false_or]at lC
    obtain⟨i,x,h1,h2,h3⟩:=ih lC
    refine⟨i+1,x,by simpa using h1,h2,fun z hz=>?_⟩
    grind
 grind [gL]
theorem qp(pre W junk vs:List Value)(q:Nat)(h:q+vs.length≤W.length):(pre++W++junk).take (pre.length+q)++vs++(pre++W++junk).drop (pre.length+q+vs.length)=pre++(W.take q++vs++W.drop (q+vs.length))++junk:=by
 rw[List.append_assoc pre W junk,List.take_length_add_append,Nat.add_assoc,List.drop_length_add_append,List.take_append_of_le_length ai,List.drop_append_of_le_length ai]
 grind
theorem qH{α:Type}{g:α→List Value}{s:Nat}(hs:∀x,(g x).length=s)(l:List α)(i:Nat)(hi:i≤l.length):(l.take i).flatMap g=(l.flatMap g).take (i*s):=by
 have h1:l.flatMap g=(l.take i).flatMap g++(l.drop i).flatMap g:=by rw[← List.flatMap_append,List.take_append_drop]
 have h2:((l.take i).flatMap g).length=i*s:=by rw[bT hs,List.length_take,Nat.min_eq_left hi]
 grind
theorem iZ(n:Nat)(x:List Value):(List.replicate n x).flatten.length=n*x.length:=by
 simp_all
end Go.SL
namespace Go.SL
open Go
abbrev iu:=BitVec 32
def u32(x:iu):Value := .int .u32 (x.toNat:Int)
def wV(l:List iu):List Value:=l.map u32
def jX(l:List iu):(wV l).length=l.length:=by simp[wV]
def gp{l:List iu}{i:Nat}{x:iu}(h:l[i]?=some x):(wV l)[i]?=some (u32 x):=by simp[wV,h]
def vr(l:List iu)(i:Nat)(x:iu):(wV l).set i (u32 x)=wV (l.set i x):=by simp[wV]
def wB(c:UInt8):iu:=BitVec.ofNat 32 c.toNat
theorem qn(c:UInt8):(wB c).toNat=c.toNat:=by
 have:=c.toNat_lt
 grind [wB]
theorem wrap32(n:Nat):IntKind.u32.wrap (n:Int)=((n%4294967296:Nat):Int):=by
 simp[IntKind.wrap,IntKind.bits,IntKind.signed]
theorem ofInt32(p:iu):BitVec.ofInt IntKind.u32.bits ((p.toNat:Nat):Int)=p:=by
 apply BitVec.eq_of_toNat_eq
 have h:IntKind.u32.bits=32:=rfl
 grind
section
variable{P:Program}{U:Tr}[hU:eT P U]{f:FuncId}{n:Nat}{R:Ending→World→Prop}{G:ct}{k:List Item}{L:eH}{H H':List HP}{S:World→Prop}{all:Array Oper}{rest:Pl}{ty:TypeId}{pos:String}{af:Array Edge}{gd:Option (Nat × Bool)}{m:Bool}{d:Tmp}
theorem jj{t yt:TypeId}{x y:Operand}{p q:iu}(hd:Nat.blt d n=true)(hx:ev L x=some (.int .u32 (p.toNat:Int)))(hy:ev L y=some (.int .u32 (q.toNat:Int)))(h:J P f n R G S all rest k ((d,.int .u32 ((p+q).toNat:Int))::L) H):J P f n R G S all (.cons m true ⟨some d,.binOp .add t x y yt,ty,pos,af,gd⟩ rest) k L H:=by
 refine Gr hd hx hy ?_
 have e:IntKind.u32.wrap ((p.toNat:Int)+(q.toNat:Int))=((p+q).toNat:Int):=by
  grind [wrap32]
 rw[e];exact h
def Gn{t yt:TypeId}{x y:Operand}{p q:iu}(hd:Nat.blt d n=true)(hx:ev L x=some (.int .u32 (p.toNat:Int)))(hy:ev L y=some (.int .u32 (q.toNat:Int)))(h:J P f n R G S all rest k ((d,.int .u32 ((p*q).toNat:Int))::L) H):J P f n R G S all (.cons m true ⟨some d,.binOp .mul t x y yt,ty,pos,af,gd⟩ rest) k L H:=by
 refine Gm hd hx hy ?_
 have e:IntKind.u32.wrap ((p.toNat:Int)*(q.toNat:Int))=((p*q).toNat:Int):=by
  rw[← Int.natCast_mul,wrap32,BitVec.toNat_mul]
 rw[e];exact h
def pz(p:iu):IntKind.u32.wrap (p.toNat:Int)=(p.toNat:Int):=by
 rw[wrap32];have:=p.isLt;congr 1;omega
def gX{t yt:TypeId}{x y:Operand}{p q:iu}(hd:Nat.blt d n=true)(hx:ev L x=some (.int .u32 (p.toNat:Int)))(hy:ev L y=some (.int .u32 (q.toNat:Int)))(h:J P f n R G S all rest k ((d,.int .u32 ((p ^^^ q).toNat:Int))::L) H):J P f n R G S all (.cons m true ⟨some d,.binOp .xor t x y yt,ty,pos,af,gd⟩ rest) k L H :=
 cS hd (fun a ha w=>by
  have e:IntKind.u32.wrap ((BitVec.ofInt IntKind.u32.bits (p.toNat:Int) ^^^ BitVec.ofInt IntKind.u32.bits (q.toNat:Int)).toNat:Int)=((p ^^^ q).toNat:Int):=by rw[ofInt32,ofInt32];exact pz (p ^^^ q)
  simp[execOp,ha.ev hx,ha.ev hy,eqGuard,binOp,Op.intBits]
  simpa using e) h
def Bw{t yt:TypeId}{x y:Operand}{p q:iu}(hd:Nat.blt d n=true)(hx:ev L x=some (.int .u32 (p.toNat:Int)))(hy:ev L y=some (.int .u32 (q.toNat:Int)))(h:J P f n R G S all rest k ((d,.int .u32 ((p &&& q).toNat:Int))::L) H):J P f n R G S all (.cons m true ⟨some d,.binOp .and t x y yt,ty,pos,af,gd⟩ rest) k L H :=
 cS hd (fun a ha w=>by
  have e:IntKind.u32.wrap ((BitVec.ofInt IntKind.u32.bits (p.toNat:Int) &&& BitVec.ofInt IntKind.u32.bits (q.toNat:Int)).toNat:Int)=((p &&& q).toNat:Int):=by rw[ofInt32,ofInt32];exact pz (p &&& q)
  simp[execOp,ha.ev hx,ha.ev hy,eqGuard,binOp,Op.intBits]
  simpa using e) h
def DJ{t yt:TypeId}{x y:Operand}{p q:iu}(hd:Nat.blt d n=true)(hx:ev L x=some (.int .u32 (p.toNat:Int)))(hy:ev L y=some (.int .u32 (q.toNat:Int)))(h:J P f n R G S all rest k ((d,.int .u32 ((p ||| q).toNat:Int))::L) H):J P f n R G S all (.cons m true ⟨some d,.binOp .or t x y yt,ty,pos,af,gd⟩ rest) k L H :=
 cS hd (fun a ha w=>by
  have e:IntKind.u32.wrap ((BitVec.ofInt IntKind.u32.bits (p.toNat:Int) ||| BitVec.ofInt IntKind.u32.bits (q.toNat:Int)).toNat:Int)=((p ||| q).toNat:Int):=by rw[ofInt32,ofInt32];exact pz (p ||| q)
  simp[execOp,ha.ev hx,ha.ev hy,eqGuard,binOp,Op.intBits]
  simpa using e) h
def pq{t yt:TypeId}{x y:Operand}{p:iu}{j':IntKind}{q:Int}(s:Nat)(hd:Nat.blt d n=true)(hx:ev L x=some (.int .u32 (p.toNat:Int)))(hy:ev L y=some (.int j' q))(hq:q=(s:Int))(hs:s≤32)(h:J P f n R G S all rest k ((d,.int .u32 ((p >>> s).toNat:Int))::L) H):J P f n R G S all (.cons m true ⟨some d,.binOp .shr t x y yt,ty,pos,af,gd⟩ rest) k L H:=by
 subst hq
 refine iI hd hx hy ai ?_
 have e:(p.toNat:Int)/2 ^ (min ((s:Int).toNat) IntKind.u32.bits)=((p >>> s).toNat:Int):=by
  rw[BitVec.toNat_ushiftRight,Nat.shiftRight_eq_div_pow,Int.toNat_natCast,show min s IntKind.u32.bits=s from by show min s 32=s;omega]
  simp
 rw[e];exact h
def Gl{t yt:TypeId}{x y:Operand}{p:iu}{j':IntKind}{q:Int}(s:Nat)(hd:Nat.blt d n=true)(hx:ev L x=some (.int .u32 (p.toNat:Int)))(hy:ev L y=some (.int j' q))(hq:q=(s:Int))(hs:s≤32)(h:J P f n R G S all rest k ((d,.int .u32 ((p <<< s).toNat:Int))::L) H):J P f n R G S all (.cons m true ⟨some d,.binOp .shl t x y yt,ty,pos,af,gd⟩ rest) k L H:=by
 subst hq
 refine pt hd hx hy ai ?_
 have e:IntKind.u32.wrap ((p.toNat:Int)*2 ^ (min ((s:Int).toNat) IntKind.u32.bits))=((p <<< s).toNat:Int):=by
  rw[BitVec.toNat_shiftLeft,Nat.shiftLeft_eq,Int.toNat_natCast,show min s IntKind.u32.bits=s from by show min s 32=s;omega]
  rw[show(p.toNat:Int)*2 ^ s=((p.toNat*2 ^ s:Nat):Int)from by simp,wrap32]
 rw[e];exact h
def ZZ{t:TypeId}{x:Operand}{p:iu}(hd:Nat.blt d n=true)(hx:ev L x=some (.int .u32 (p.toNat:Int)))(h:J P f n R G S all rest k ((d,.int .u32 ((~~~p).toNat:Int))::L) H):J P f n R G S all (.cons m true ⟨some d,.unOp .xor t x,ty,pos,af,gd⟩ rest) k L H :=
 cS hd (fun a ha w=>by
  have e:IntKind.u32.wrap ((BitVec.ofInt IntKind.u32.bits IntKind.u32.max ^^^ BitVec.ofInt IntKind.u32.bits (p.toNat:Int)).toNat:Int)=((~~~p).toNat:Int):=by
   rw[ofInt32]
   have e1:BitVec.ofInt 32 4294967295 ^^^ p = ~~~p:=by rw[show BitVec.ofInt 32 4294967295=BitVec.allOnes 32 from by decide];exact BitVec.allOnes_xor
   exact(congrArg (fun z:BitVec 32=>IntKind.u32.wrap (z.toNat:Int)) e1).trans (pz (~~~p))
  simp only[execOp,ha.ev hx,Sem.run_bind,Result.andThen_ok,Op.unary,IntKind.signed,Bool.false_eq_true,if_false,Op.intBits]
  simp
  simpa using e) h
def po{src dst:TypeId}{ts td:Ty}{x:Operand}{j':IntKind}{c:UInt8}(hd:Nat.blt d n=true)(hx:ev L x=some (.int .u8 (c.toNat:Int)))(hs:U.get src=some ts)(Ja:ts.eV = .int j')(Jt:U.get dst=some td)(Js:td.eV = .int .u32)(h:J P f n R G S all rest k ((d,.int .u32 ((wB c).toNat:Int))::L) H):J P f n R G S all (.cons m true ⟨some d,.convert src dst x,ty,pos,af,gd⟩ rest) k L H:=by
 refine xO hd hx hs Ja Jt Js (by have:=c.toNat_lt;simp only[fz];omega) ?_
 rw[qn]at h;exact h
def Ac{src dst:TypeId}{ts td:Ty}{x:Operand}{j':IntKind}{p:iu}(hd:Nat.blt d n=true)(hx:ev L x=some (.int .u32 (p.toNat:Int)))(hs:U.get src=some ts)(Ja:ts.eV = .int j')(Jt:U.get dst=some td)(Js:td.eV = .int .u8)(h:J P f n R G S all rest k ((d,u8 (UInt8.ofNat p.toNat))::L) H):J P f n R G S all (.cons m true ⟨some d,.convert src dst x,ty,pos,af,gd⟩ rest) k L H:=by
 refine H4 hd hx hs Ja Jt Js ?_
 have e:Value.int .u8 (IntKind.u8.wrap (p.toNat:Int))=u8 (UInt8.ofNat p.toNat):=by
  simp[u8,IntKind.wrap,IntKind.bits,IntKind.signed]
 rw[e];exact h
end
end Go.SL
namespace Go.SL
open Go
structure Dg where
 bs:List UInt8
 len:bs.length=32
deriving DecidableEq
def Dg.at(x:Dg)(i:Nat):UInt8:=x.bs.getD i 0
def Dg.zero:Dg:=⟨List.replicate 32 0,by simp⟩
instance:Inhabited Dg:=⟨Dg.zero⟩
def dC(x:Dg):List Value :=
  [u8 (x.at 0),u8 (x.at 1),u8 (x.at 2),u8 (x.at 3),u8 (x.at 4),u8 (x.at 5),u8 (x.at 6),u8 (x.at 7),u8 (x.at 8),u8 (x.at 9),u8 (x.at 10),u8 (x.at 11),u8 (x.at 12),u8 (x.at 13),u8 (x.at 14),u8 (x.at 15),
   u8 (x.at 16),u8 (x.at 17),u8 (x.at 18),u8 (x.at 19),u8 (x.at 20),u8 (x.at 21),u8 (x.at 22),u8 (x.at 23),u8 (x.at 24),u8 (x.at 25),u8 (x.at 26),u8 (x.at 27),u8 (x.at 28),u8 (x.at 29),u8 (x.at 30),u8 (x.at 31)]
def mf(x:Dg):(dC x).length=32:=rfl
theorem dW(x:Dg):dC x=bV x.bs:=by
 have h1:x.bs=(List.range 32).map (fun i=>x.at i):=by
  apply List.ext_getElem?
  intro i
  rcases Nat.lt_or_ge i 32 with h|h
  ·rw[List.getElem?_map,List.getElem?_range h]
   simp only[Dg.at,Option.map_some,List.getD_eq_getElem?_getD]
   rw[List.getElem?_eq_getElem (by rw[x.len];exact h)];rfl
  ·rw[List.getElem?_eq_none (by rw[x.len];exact h),List.getElem?_eq_none (by simpa using h)]
 conv=>rhs;rw[h1]
 rfl
def Ow{a b:UInt8}(h:u8 a=u8 b):a=b:=by
 simp only[u8,Value.int.injEq,true_and,Int.natCast_inj]at h
 exact UInt8.toNat.inj h
def ZT{a b:List UInt8}(h:bV a=bV b):a=b:=by
 induction a generalizing b with
 | nil=>cases b with
  | nil=>rfl
  | cons y b=>simp[bV]at h
 | cons x a ih=>cases b with
  | nil=>simp[bV]at h
  | cons y b =>
   simp only[bV,List.map_cons,List.cons.injEq]at h
   rw[Ow h.1,ih h.2]
theorem ZK{a b:Dg}(h:dC a=dC b):a=b:=by
 rw[dW,dW]at h
 have:=ZT h
 cases a;cases b;simp_all
section
variable{P:Program}
theorem FN{e:TypeId}(he:P.underlying e=some (.int .u8))(hc:P.cellsOf e=1)(d:Nat)(a b:List UInt8)(hl:a.length=b.length)(w:World):∀is:List Nat,(∀i∈is,i<a.length) →
  (Op.eqItems (d+1) e (P.cellsOf e) (bV a).toArray (bV b).toArray is).run P w = .ok (decide (∀i∈is,a[i]?=b[i]?)) w:=by
 intro is
 induction is with
 | nil=>intro _;simp[Op.eqItems]
 | cons i is ih =>
  intro hi
  have Pm:P.plainKey e=true:=by unfold Program.plainKey;rw[he]
  have Ht:=hi i (List.mem_cons_self ..)
  have h1:(bV a).toArray[i*P.cellsOf e]?=some (u8 (a[i]'Ht)):=by rw[hc,Nat.mul_one];simp[bV,Ht]
  have h2:(bV b).toArray[i*P.cellsOf e]?=some (u8 (b[i]'(hl ▸ Ht))):=by rw[hc,Nat.mul_one];simp[bV,hl ▸ Ht]
  simp only[Op.eqItems,Sem.run_bind,run_part_plain w Pm h1,run_part_plain w Pm h2,Result.andThen_ok]
  have h3:(Op.equalIn (d+1) e (u8 (a[i]'Ht)) (u8 (b[i]'(hl ▸ Ht)))).run P w = .ok (decide (a[i]'Ht=b[i]'(hl ▸ Ht))) w:=by
   simp only[Op.equalIn,Sem.run_bind,Go.run_underlying he,Result.andThen_ok,u8,if_true,Sem.run_pure]
   congr 1
   rw[Bool.eq_iff_iff]
   simp only[beq_iff_eq,decide_eq_true_iff]
   constructor
   ·intro h;exact UInt8.toNat.inj ai
   grind
  rw[h3]
  simp only[Result.andThen_ok]
  have h4:(a[i]?=b[i]?)↔a[i]'Ht=b[i]'(hl ▸ Ht):=by
   grind
  by_cases h5:a[i]'Ht=b[i]'(hl ▸ Ht)
  ·simp_all
  simp_all
theorem EC{t e:TypeId}{n:Nat}{a b:List UInt8}(ht:P.underlying t=some (.array n e))(he:P.underlying e=some (.int .u8))(hc:P.cellsOf e=1)(ha:a.length=n)(hb:b.length=n)(d:Nat)(w:World) :
  (Op.equalIn (d+2) t (.agg (bV a).toArray) (.agg (bV b).toArray)).run P w = .ok (decide (a=b)) w:=by
 obtain⟨i,hi⟩:=info_of_underlying he
 rw[run_equalIn_array w (d+1) _ _ ht hi,FN he hc d a b ai w _ (fun i hi=>by rw[ha];exact List.mem_range.1 hi)]
 congr 1
 rw[Bool.eq_iff_iff,decide_eq_true_iff,decide_eq_true_iff]
 constructor
 ·intro h
  apply List.ext_getElem?
  grind
 grind
theorem ng{t e:TypeId}(ht:P.underlying t=some (.array 32 e))(he:P.underlying e=some (.int .u8))(hc:P.cellsOf e=1)(a b:Dg)(d:Nat)(w:World) :
  (Op.equalIn (d+2) t (.agg (dC a).toArray) (.agg (dC b).toArray)).run P w = .ok (decide (a=b)) w:=by
 rw[dW,dW,EC ht he hc a.len b.len]
 congr 1
 rw[Bool.eq_iff_iff,decide_eq_true_iff,decide_eq_true_iff]
 constructor
 ·intro h;cases a;cases b;simp_all
 grind
end
section
variable{P:Program}{U:Tr}[hU:eT P U]{f:FuncId}{n:Nat}{R:Ending→World→Prop}{G:ct}{k:List Item}{L:eH}{H H':List HP}{S:World→Prop}{all:Array Oper}{rest:Pl}{ty:TypeId}{pos:String}{af:Array Edge}{gd:Option (Nat × Bool)}{m:Bool}{d:Tmp}
def gQ{x y:Operand}{t yt:TypeId}{c1 c2:Array Value}{b:Bool}(hd:Nat.blt d n=true)(hx:ev L x=some (.agg c1))(hy:ev L y=some (.agg c2))(hg:P.eqGuardType P.depth t=false)(he:∀w,(Op.equal t (.agg c1) (.agg c2)).run P w = .ok b w)(h:J P f n R G S all rest k ((d,.bool b)::L) H):J P f n R G S all (.cons m true ⟨some d,.binOp .eql t x y yt,ty,pos,af,gd⟩ rest) k L H:=by
 have me:∀a w,Has n L a→(execOp a.eval ⟨some d,.binOp .eql t x y yt,ty,pos,af,gd⟩).run P w = .ok (.value (.bool b)) w:=fun a w ha=>by
  have hgu:(eqGuard .eql t x y (.agg c1) (.agg c2)).run P w = .ok () w:=by simp[eqGuard,hg]
  have hb:(binOp .eql t (.agg c1) (.agg c2)).run P w = .ok (.bool b) w:=by
   simp only[binOp,Sem.run_bind,he,Result.andThen_ok,Sem.run_pure]
  simp only[execOp,ha.ev hx,ha.ev hy,Sem.run_bind,hgu,hb,Result.andThen_ok,Sem.run_pure]
 cases m with
 | false=>exact jh hd (fun a w ha _=>me a w ha) h
 | true=>exact kF hd (fun a w ha _=>me a w ha) h
def gH{t e:TypeId}{bO te:Ty}{nn:Nat}{z:Array Value}(hd:Nat.blt d n=true)(ht:U.get t=some bO)(hu:bO.eV = .array nn e)(he:U.get e=some te)(hz:bO.info.zero=some (.agg z))(h:J P f n R G S all rest k ((d,.agg z)::L) H):J P f n R G S all (.cons m true ⟨some d,.build t #[],ty,pos,af,gd⟩ rest) k L H:=by
 have me:∀a w,Has n L a→(execOp a.eval ⟨some d,.build t #[],ty,pos,af,gd⟩).run P w = .ok (.value (.agg z)) w:=fun a w ha=>by
  simp only[execOp,Instr.build,Sem.run_bind,dD ht hz,run_underlying ht,Result.andThen_ok,hu,run_sizeOf he,Array.map_empty,Instr.fill,Value.cells,Sem.run_pure]
 cases m with
 | false=>exact jh hd (fun a w ha _=>me a w ha) h
 | true=>exact kF hd (fun a w ha _=>me a w ha) h
def fW{t elem:TypeId}{bO te:Ty}{x:Operand}{nn b off:Nat}(hd:Nat.blt d n=true)(ht:U.get t=some bO)(hu:bO.eV = .array nn elem)(he:U.get elem=some te)(hx:ev L x=some (.pointer (some ⟨b,off,none⟩)))(h:J P f n R G S all rest k ((d,.slice (some ⟨b,off,none⟩) nn nn)::L) H) :
  J P f n R G S all (.cons m true ⟨some d,.slice t x none none none,ty,pos,af,gd⟩ rest) k L H:=by
 refine cS hd (fun a ha w=>?_) h
 simp only[execOp,ha.ev hx,Instr.sliceAt,Sem.run_bind,run_underlying ht,Result.andThen_ok,hu,Instr.sureAddr,Instr.sliceBounds,Option.map_none,run_sizeOf he,Sem.run_pure]
 simp[Addr.add,run_sizeOf he]
def Ad{t elem:TypeId}{bO:Ty}{x:Operand}{nn len cap:Nat}{a0:Option Addr}(hd:Nat.blt d n=true)(ht:U.get t=some bO)(hu:bO.eV = .array nn elem)(hx:ev L x=some (.slice a0 len cap))(hl:nn≤len)(h:J P f n R G S all rest k ((d,.pointer a0)::L) H) :
  J P f n R G S all (.cons m true ⟨some d,.sliceToArrayPointer t x,ty,pos,af,gd⟩ rest) k L H:=by
 refine cS hd (fun a ha w=>?_) h
 simp only[execOp,ha.ev hx,Instr.arrayAt,Sem.run_bind,run_underlying ht,Result.andThen_ok,hu]
 rw[if_neg ai]
 simp
def Ot(X:HP)(v:Value)(l:List Dg):Prop:=Vw X v l.length (l.flatMap dC)∧∃a c,v = .slice a l.length c∧l.length≤c
end
end Go.SL
