import Derived.Test.YtnkfkabokmcgoaaGreatDoorQNQ1
import Derived.Laws.BytesString
import Derived.Laws.IdiomStrings
import Derived.Lib.MakeNoZero
set_option linter.unusedSectionVars false
set_option linter.unusedSimpArgs false
set_option linter.unusedVariables false
set_option linter.defProp false
namespace Go.SL
theorem Vw.lZ(e:TypeId)(size:Nat)(v:Value)(n:Nat)(cs:List Value)(h0:∃h,aI e size v n cs h):Vw (aI e size v n cs) v n cs:=by
 obtain⟨h,hl,⟨a,rfl,rfl,_⟩|⟨b,o,cap,pre,bL,rfl,hp,hn,hc,_⟩⟩:=h0
 ·exact⟨a,0,rfl,.inl (List.eq_nil_of_length_eq_zero (by simpa using hl))⟩
 ·refine⟨_,cap,rfl,.inr ⟨b,o,rfl,fun h hA j c hj=>?_⟩⟩
  obtain⟨_,⟨a,hv,_,_⟩|⟨b',o',eX,aca,jV,hv,pC,_,_,MJ⟩⟩:=hA
  ·grind
  ·simp only[Value.slice.injEq,Option.some.injEq,Addr.mk.injEq,and_true,true_and]at hv
   obtain⟨⟨rfl,rfl⟩,rfl⟩:=hv
   unfold cG
   rw[MJ b,if_pos rfl]
   grind [cl]
theorem Vw.ag{b:Nat}{l:List Value}{e:TypeId}{o n cap:Nat}{cs:List Value}(h:(l.drop o).take cs.length=cs):Vw (ag b (cl l e)) (.slice (some ⟨b,o,none⟩) n cap) n cs:=by
 refine⟨_,cap,rfl,.inr ⟨b,o,rfl,fun h' hA j c hj=>?_⟩⟩
 unfold cG
 rw[hA b,if_pos rfl]
 grind [cl]
theorem Vw.nil(A:HP)(a:Option Addr)(cap:Nat):Vw A (.slice a 0 cap) 0 []:=⟨a,cap,rfl,.inl rfl⟩
theorem Vw.mono{A B:HP}{v:Value}{n:Nat}{cs:List Value}(h:Vw A v n cs)(Z1:∀h,B h→∃h',sub h' h∧A h'):Vw B v n cs:=by
 obtain⟨a,cap,hv,h0|⟨b,o,ha,hc⟩⟩:=h
 ·exact⟨a,cap,hv,.inl h0⟩
 ·refine⟨a,cap,hv,.inr ⟨b,o,ha,fun h hB j c hj=>?_⟩⟩
  obtain⟨h',hs,hA⟩:=Z1 h hB
  have:=hc h' hA j c hj
  unfold cG at this ⊢
  split at this
  ·rename_i x y z hb;rw[hs b _ hb];exact this
  grind
theorem Vw.cells{A:HP}{v:Value}{n:Nat}{cs:List Value}(h:Vw A v n cs){G:bY}{w:World}{H:List HP}(hw:Sat G w H){i:Nat}(hi:bS H i=some A) :
  ∃a cap,v = .slice a n cap∧(cs=[]∨∃b o,a=some ⟨b,o,none⟩∧∀j c,cs[j]?=some c→w.cell? ⟨b,o+j,none⟩=some c):=by
 obtain⟨a,cap,hv,h0|⟨b,o,ha,hc⟩⟩:=h
 ·grind
 ·obtain⟨h,hh,hA⟩:=hw.jG hi
  grind [fA]
theorem Addr.add_eq(b o i:Nat):(⟨b,o,none⟩:Addr).add i=⟨b,o+i,none⟩:=by
 unfold Addr.add;split
 ·rename_i h;subst h;rfl
 ·rfl
section
variable{P:Program}{U:Tr}[hU:er P U]{f:FuncId}{n:Nat}{R:Ending→World→Prop}{G:bY}{k:List Item}{L:dS}{H H':List HP}{S:World→Prop}{all:Array Oper}{rest:Pl}{ty:TypeId}{pos:String}{af:Array Edge}{gd:Option (Nat × Bool)}{m:Bool}{d:Tmp}
def lr{A:HP}{v:Value}{nn size:Nat}{cs:List Value}{w:World}{i:Nat}(hv:Vw A v nn cs)(hw:Sat G w H)(hi:bS H i=some A)(hl:cs.length=nn*size) :
  (Builtin.firstCells size nn v).run P w = .ok cs.toArray w:=by
 obtain⟨a,cap,rfl,h0|⟨b,o,rfl,hc⟩⟩:=hv.cells hw hi
 ·subst h0
  have h0:nn*size=0:=by simpa using hl.symm
  cases a with
  | none=>simp[Builtin.firstCells]
  | some a=>simp[Builtin.firstCells,h0,loadCells,loadCellsFrom]
 ·have:=run_loadCells_list (P:=P) w ⟨b,o,none⟩ cs (fun j c hj=>by rw[Addr.add_eq];exact hc j c hj)
  rw[hl]at this
  simp[Builtin.firstCells,this]
def tP{A:HP}{v:Value}{nn size q:Nat}{cs:List Value}{w:World}{i:Nat}(hv:Vw A v nn cs)(hw:Sat G w H)(hi:bS H i=some A)(hl:cs.length=nn*size)(hq:q≤nn) :
  (Builtin.firstCells size q v).run P w = .ok (cs.take (q*size)).toArray w:=by
 obtain⟨a,cap,rfl,h0|⟨b,o,rfl,hc⟩⟩:=hv.cells hw hi
 ·subst h0
  have h0:nn*size=0:=by simpa using hl.symm
  have h1:q*size=0:=by have:=Nat.mul_le_mul_right size hq;omega
  cases a with
  | none=>simp[Builtin.firstCells]
  | some a=>simp[Builtin.firstCells,h1,loadCells,loadCellsFrom]
 ·have h2:(cs.take (q*size)).length=q*size:=by rw[List.length_take,hl];exact Nat.min_eq_left (Nat.mul_le_mul_right size hq)
  have:=run_loadCells_list (P:=P) w ⟨b,o,none⟩ (cs.take (q*size)) (fun j c hj=>by
   rw[Addr.add_eq]
   rw[List.getElem?_take]at hj
   split at hj
   ·exact hc j c hj
   ·cases hj)
  rw[h2]at this
  simp[Builtin.firstCells,this]
def Mg(e:TypeId)(size:Nat)(a:Option Addr):∀h,emp h→aI e size (.slice a 0 0) 0 [] h:=fun h he=>⟨by simp,.inl ⟨a,rfl,rfl,he⟩⟩
theorem qH(pre cs bL news:List Value)(o:Nat)(ho:pre.length=o) :
  (pre++cs++bL).take (o+cs.length)++news++(pre++cs++bL).drop (o+cs.length+news.length)=pre++(cs++news)++bL.drop news.length:=by
 subst ho
 have h1:(pre++cs++bL).take (pre.length+cs.length)=pre++cs:=by
  grind
 have h2:(pre++cs++bL).drop (pre.length+cs.length+news.length)=bL.drop news.length:=by
  rw[show pre.length+cs.length=(pre++cs).length by simp];rw[List.drop_append];simp
 grind
theorem CQ{t t2 elem:TypeId}{bH Cl te:Ty}{z v v2:Value}{nn mm:Nat}{cs news:List Value}{A:HP}{rty:TypeId}{w:World}(i j:Nat)(ht:U.get t=some bH)(hu:bH.eH = .slice elem)(h2:U.get t2=some Cl)(Nh:∀q,Cl.eH ≠ .int q)(he:U.get elem=some te)(hz:te.info.zero=some z)(Il:(aX z).length=te.info.size)(hw:Sat G w H)(hi:bS H i=some (aI elem te.info.size v nn cs))(hj:bS H j=some A)(p5:Vw A v2 mm news)(qY:news.length=mm*te.info.size)(fT:∀u∈news,u.oneCell'=true)(GW:nn+mm≤9223372036854775807)(nF:(nn+mm)*te.info.bytes≤140737488355328) :
    ∃v' w',(Builtin.append_ #[t,t2] rty #[v,v2]).run P w = .ok v' w'∧(∀H',jk i (aI elem te.info.size v' (nn+mm) (cs++news)) H [] = .mk H'→Sat G w' H'):=by
  have Kg:∀B H',jk i B H [] = .mk H'→H'.Perm (B::H.eraseIdx i):=fun B H' hp=>by simpa using lX i _ _ H [] H' hp hi
  have aa5:∃h,aI elem te.info.size v nn cs h:=by obtain⟨h,_,hA⟩:=hw.jG hi;exact⟨h,hA⟩
  have dt:=Vw.lZ _ _ _ _ _ aa5
  have y7:=lr (P:=P) p5 hw hj qY
  obtain⟨a2,c2,aaV,_⟩:=p5
  subst aaV
  have Kf:=hw.cn (ao.perm (ct (by rw[← cK];exact hi)))
  obtain⟨hT,hO,Nc,hh,cu,h1,h2h,xH,ZY,ZI,Ks⟩:=Kf
  obtain⟨hl,gB⟩:=xH
  have qW:∀ {w:World},(underlying t2).run P w = .ok Cl.eH w:=fun {w}=>run_underlying h2 w
  have WR:(Cl.eH matches .int _)=false:=by
    cases hq:Cl.eH <;> first|rfl|exact absurd hq (Nh _)
  have aau:=lr (P:=P) dt hw hi hl
  by_cases rY:∃a cap,v = .slice a nn cap∧nn+mm≤cap
  · obtain⟨a,cap,rfl,rY⟩:=rY
    rcases gB with⟨a',hv,hn0,uE⟩|⟨b,o,eX,pre,bL,hv,hp,hn,hc,MJ⟩
    · simp only[Value.slice.injEq]at hv
      obtain⟨rfl,rfl,rfl⟩:=hv
      have A7:mm=0:=by omega
      subst A7
      have jA:cs=[]:=List.eq_nil_of_length_eq_zero (by simpa using hl)
      have Zd:news=[]:=List.eq_nil_of_length_eq_zero (by simpa using qY)
      subst jA;subst Zd
      refine⟨.slice a 0 0,w,?_,fun H' hp=>?_⟩
      · cases a with
        | none=>simp[Builtin.append_,run_underlying ht,hu,run_sizeOf he,qW,WR,Builtin.lenOf,y7]
        | some a=>simp[Builtin.append_,run_underlying ht,hu,run_sizeOf he,qW,WR,Builtin.lenOf,y7,storeCells]
      · refine(show Sat G w (aI elem te.info.size (.slice a 0 0) 0 []::H.eraseIdx i)from ?_).cn (ao.perm (Kg _ _ hp).symm)
        exact⟨hT,hO,Nc,hh,cu,h1,h2h,⟨hl,.inl ⟨a,rfl,rfl,uE⟩⟩,ZY,ZI,Ks⟩
    · simp only[Value.slice.injEq]at hv
      obtain⟨rfl,_,rfl⟩:=hv
      have Bd:news.length≤bL.length:=by
        have h3:(nn+mm)*te.info.size≤cap*te.info.size:=Nat.mul_le_mul_right _ rY
        grind
      have hb:w.heap[b]?=some (cl (pre++cs++bL) elem):=by
        refine cu b _ ?_
        rw[Ks b,MJ b];simp
      have dD:=eO (P:=P) news 0 (o+nn*te.info.size) (pre++cs++bL) w hb (by simp;omega) fT
      simp only[Nat.add_zero]at dD
      rw[← hl,qH pre cs bL news o hp]at dD
      refine⟨.slice (some ⟨b,o,none⟩) (nn+mm) cap,{ w with heap:=w.heap.setIfInBounds b (cl (pre++(cs++news)++bL.drop news.length) elem) },?_,fun H' pC=>?_⟩
      · rw[hl]at dD
        simp[Builtin.append_,run_underlying ht,hu,run_sizeOf he,qW,WR,Builtin.lenOf,rY,y7,Addr.add_eq,dD]
      · have h4:=Sat.yA (o':=cl (pre++(cs++news)++bL.drop news.length) elem) (show Sat G w (ag b (cl (pre++cs++bL) elem)::H.eraseIdx i)from⟨hT,hO,Nc,hh,cu,h1,h2h,MJ,ZY,ZI,Ks⟩)
        refine(h4.cn ?_).cn (ao.perm (Kg _ _ pC).symm)
        refine ao.fold (B:=[_]) fun h hs=>⟨h,sub.refl h,?_⟩
        refine⟨by simp[hl,qY,Nat.add_mul],.inr ⟨b,o,cap,pre,_,rfl,hp,rY,?_,cW hs⟩⟩
        simp;omega
  · have N0:∃a cap,v = .slice a nn cap:=by obtain⟨a,cap,hv,_⟩:=dt;exact⟨a,cap,hv⟩
    obtain⟨a,cap,rfl⟩:=N0
    have L2:¬nn+mm≤cap:=fun h=>rY ⟨a,cap,rfl,h⟩
    have hgs:=growslice_fits (need:=nn+mm) (old:=cap) (bytes:=te.info.bytes) ai nF
    have ek:=grownCap_ge w (nn+mm) cap elem
    have hzc:z.cells=(aX z).toArray:=cN z
    refine⟨.slice (some ⟨w.heap.size,0,none⟩) (nn+mm) (grownCap w (nn+mm) cap elem),w.drew.alloc (cl (cs++news++(Builtin.zeroCells z.cells (grownCap w (nn+mm) cap elem-(nn+mm))).toList) elem),?_,fun H' pC=>?_⟩
    · have y5:=lr (P:=P) (G:=G) (w:=w.drew) dt (hw.draw _) hi hl
      have abn:=lr (P:=P) (G:=G) (w:=w.drew) ⟨a2,c2,rfl,by assumption⟩ (hw.draw _) hj qY
      have DJ:¬((9223372036854775807:Int)<(nn:Int)+(mm:Int)):=by omega
      have VU:¬281474976710656<Builtin.nextslicecap (nn+mm) cap*te.info.bytes:=by omega
      simp[Builtin.append_,run_underlying ht,hu,run_sizeOf he,qW,WR,Builtin.lenOf,L2,DJ,VU,Question.forced,run_typeInfo he,cS he hz,newRow,y5,abn,grownCap,cl]
      congr 2
      grind
    · have h5 : Sat G (w.drew.alloc (cl (cs ++ news ++ (Builtin.zeroCells z.cells (grownCap w (nn + mm) cap elem - (nn + mm))).toList) elem))
          (ag w.heap.size (cl (cs++news++(Builtin.zeroCells z.cells (grownCap w (nn+mm) cap elem-(nn+mm))).toList) elem)::H.eraseIdx i):=by
        have h6:Sat G w (H.eraseIdx i):=(hw.cn (ao.perm (ct (by rw[← cK];exact hi)))).cn (ao.drop _ _)
        exact Sat.alloc (w:=w.drew) (h6.draw _) _
      refine(h5.cn ?_).cn (ao.perm (Kg _ _ pC).symm)
      refine ao.fold (B:=[_]) fun h hs=>⟨h,sub.refl h,?_⟩
      refine⟨by simp[hl,qY,Nat.add_mul],.inr ⟨w.heap.size,0,_,[],_,rfl,rfl,ek,?_,by simpa using cW hs⟩⟩
      have h7:(Builtin.zeroCells z.cells (grownCap w (nn+mm) cap elem-(nn+mm))).size=(grownCap w (nn+mm) cap elem-(nn+mm))*te.info.size:=by rw[size_zeroCells,hzc];simp[Il]
      rw[List.length_append,hl,qY,Array.length_toList,h7,← Nat.add_mul,← Nat.add_mul]
      grind
theorem LA{x y:Operand}{t t2 elem:TypeId}{bH Cl te:Ty}{z v v2:Value}{nn mm:Nat}{cs news:List Value}{A:HP}(i j:Nat)(hd:Nat.blt d n=true)(hx:ev L x=some v)(hy:ev L y=some v2)(ht:U.get t=some bH)(hu:bH.eH = .slice elem)(h2:U.get t2=some Cl)(Nh:(match Cl.eH with | .int _=>false|_=>true)=true)(he:U.get elem=some te)(hz:te.info.zero=some z)(Il:Nat.beq (aX z).length te.info.size=true)(hi:bS H i=some (aI elem te.info.size v nn cs))(hj:bS H j=some A)(p5:Vw A v2 mm news)(qY:news.length=mm*te.info.size)(fT:∀u∈news,u.oneCell'=true)(GW:nn+mm≤9223372036854775807)(nF:(nn+mm)*te.info.bytes≤140737488355328){Hf:Value→List HP}(hp:∀v',jk i (aI elem te.info.size v' (nn+mm) (cs++news)) H [] = .mk (Hf v'))(hS:∀v' w,Sat G w (Hf v')→Sx rest S w)(h:∀v',J P f n R G S all rest k ((d,v')::L) (Hf v')) :
  J P f n R G S all (.cons false true ⟨some d,.call { callee := .builtin .append,args := #[x,y],argTypes := #[t,t2] },ty,pos,af,gd⟩ rest) k L H:=by
 refine lN hd (fun u H1=>H1=Hf u) (fun a w ha hw=>?_) ?_ ?_
 ·obtain⟨v',w',hr,hs⟩:=CQ (P:=P) (rty:=ty) i j ht hu h2 (fun q e=>by rw[e]at Nh;cases Nh) he hz (Nat.eq_of_beq_eq_true Il) hw hi hj p5 qY fT GW nF
  refine⟨v',w',_,?_,rfl,hs _ (hp v')⟩
  simp[execOp,resolve,invoke,builtin,ha.ev hx,ha.ev hy,hr]
 ·grind
 grind
theorem Ly{x y:Operand}{t t2 elem:TypeId}{bH te:Ty}{v2:Value}{b o dl dc mm:Nat}{l src l':List Value}{e:TypeId}{A:HP}(i j:Nat)(hd:Nat.blt d n=true)(hx:ev L x=some (.slice (some ⟨b,o,none⟩) dl dc))(hy:ev L y=some v2)(ht:U.get t=some bH)(hu:bH.eH = .slice elem)(he:U.get elem=some te)(hi:bS H i=some (ag b (cl l e)))(hj:bS H j=some A)(p5:Vw A v2 mm src)(qY:src.length=mm*te.info.size)(fT:∀u∈src,u.oneCell'=true)(Bd:o+(min mm dl)*te.info.size≤l.length)(Iw:l'=l.take o++src.take (min mm dl*te.info.size)++l.drop (o+min mm dl*te.info.size))(hp:jk i (ag b (cl l' e)) H [] = .mk H')(hS:∀w,Sat G w H'→Sx rest S w)(h:J P f n R G S all rest k ((d,.int .i64 (min mm dl:Nat))::L) H') :
  J P f n R G S all (.cons false true ⟨some d,.call { callee := .builtin .copy,args := #[x,y],argTypes := #[t,t2] },ty,pos,af,gd⟩ rest) k L H:=by
 refine lN hd (fun u H1=>u = .int .i64 (min mm dl:Nat)∧H1=H') (fun a w ha hw=>?_) ?_ ?_
 ·have hf:=tP (P:=P) (q:=min mm dl) p5 hw hj qY (Nat.min_le_left _ _)
  obtain⟨a2,c2,YQ,_⟩:=p5
  subst YQ
  have h3:(src.take (min mm dl*te.info.size)).length=min mm dl*te.info.size:=by rw[List.length_take,qY];exact Nat.min_eq_left (Nat.mul_le_mul_right _ (Nat.min_le_left _ _))
  have dD:=eO (P:=P) (src.take (min mm dl*te.info.size)) 0 o l w (hw.qa hi) (by rw[h3];simpa using Bd) (fun u hu=>fT u (List.mem_of_mem_take hu))
  simp only[Nat.add_zero,h3,← Iw]at dD
  refine⟨_,_,H',?_,⟨rfl,rfl⟩,hw.put hi hp⟩
  simp only[execOp,resolve,invoke,builtin,Sem.run_bind,Sem.run_pure,Result.andThen_ok,List.map_toArray,List.map_cons,List.map_nil,ha.ev hx,ha.ev hy,Builtin.copy_,List.getElem?_toArray,List.getElem?_cons_zero,List.getElem?_cons_succ,
   run_underlying ht,hu,Builtin.lenOf,run_sizeOf he]
  rw[show Nat.min mm dl=min mm dl from rfl]
  simp only[hf,Result.andThen_ok,dD,goInt]
 ·grind
 grind
theorem BZ{x y:Operand}{t elem:TypeId}{bH te:Ty}{z:Value}{p q:Nat}(hd:Nat.blt d n=true)(hx:ev L x=some (.int .i64 (p:Int)))(hy:ev L y=some (.int .i64 (q:Int)))(ht:U.get t=some bH)(hu:bH.eH = .slice elem)(he:U.get elem=some te)(hz:te.info.zero=some z)(Il:Nat.beq (aX z).length 1=true)(aaL:Nat.beq te.info.size 1=true)(LW:p≤q)(GW:q≤9223372036854775807)(nF:te.info.bytes*q≤281474976710656)(hS:∀b w,Sat G w (ag b (cl (List.replicate q ((aX z).headD undef)) elem)::H)→Sx rest S w)(h:∀b,J P f n R G S all rest k ((d,.slice (some ⟨b,0,none⟩) p q)::L) (ag b (cl (List.replicate q ((aX z).headD undef)) elem)::H)) :
  J P f n R G S all (.cons false true ⟨some d,.makeSlice t x y,ty,pos,af,gd⟩ rest) k L H:=by
 refine lN hd (fun u H1=>∃b,u = .slice (some ⟨b,0,none⟩) p q∧H1=ag b (cl (List.replicate q ((aX z).headD undef)) elem)::H) (fun a w ha hw=>?_) ?_ ?_
 ·refine⟨_,_,_,?_,⟨w.heap.size,rfl,rfl⟩,hw.alloc _⟩
  have h1:te.info.size=1:=Nat.eq_of_beq_eq_true aaL
  have h2:(aX z).length=1:=Nat.eq_of_beq_eq_true Il
  obtain⟨u,hu1⟩:∃u,aX z=[u]:=List.length_eq_one_iff.1 h2
  have wq:IntKind.i64.wrap (q:Int)=q:=cT (by simp only[gm];omega)
  have wp:IntKind.i64.wrap (p:Int)=p:=cT (by simp only[gm];omega)
  have hb:¬((281474976710656:Int)<(te.info.bytes:Int)*(q:Int)):=by omega
  have aa9:¬((q:Int)<(p:Int)):=by omega
  have DO:z.cells = #[u]:=by rw[cN,hu1]
  have hq0:¬((q:Int)<0):=by omega
  have GR:¬((p:Int)<0):=by omega
  by_cases h0:q=0
  ·subst h0
   have aba:p=0:=by omega
   subst aba
   have w0:IntKind.i64.wrap 0=0:=cT (by simp only[gm];omega)
   simp[execOp,ha.ev hx,ha.ev hy,Instr.makeSlice,run_underlying ht,hu,asInt,asIntOf,run_typeInfo he,w0,run_sizeOf he,h1,newRow,cl]
   grind
  ·have jA:(Array.range q).map (fun i=>(#[u]:Array Value)[i%(#[u]:Array Value).size]!)=(List.replicate q u).toArray:=by
    grind
   have oJ:(Instr.makeSlice t (.int .i64 (p:Int)) (.int .i64 (q:Int))).run P w = .ok (.slice (some ⟨w.heap.size,0,none⟩) p q) { w with heap:=w.heap.push (.cells (List.replicate q u).toArray elem) }:=by
    unfold Instr.makeSlice
    simp only[Sem.run_bind,run_underlying ht,Result.andThen_ok,hu,asInt,asIntOf,Sem.run_pure,run_typeInfo he,wp,wq]
    rw[if_neg (by simp[hb,aa9])]
    simp only[pure_bind,Sem.run_bind,run_askRoom,Result.andThen_ok,run_sizeOf he,h1,Nat.mul_one,Int.toNat_natCast,h0,if_false,cS he hz,Sem.run_pure,DO,jA,newRow,run_newObj]
   simp only[execOp,ha.ev hx,ha.ev hy,Sem.run_bind,oJ,Result.andThen_ok,Sem.run_pure,hu1,List.headD_cons,cl]
 ·grind
 grind
def GB(L:dS):Option Operand→Option Int
 | none=>some 0
 | some x=>match ev L x with
  | some (.int _ l)=>some l
  | _=>none
def xE(L:dS)(len:Nat):Option Operand→Option Int
 | none=>some (len:Int)
 | some x=>match ev L x with
  | some (.int _ l)=>some l
  | _=>none
def o4{lo hi:Option Operand}{len cap:Nat}{p q:Int}{a:Act}{w:World}(isSlice:Bool)(ha:Has n L a)(zV:GB L lo=some p)(Fj:xE L len hi=some q)(h0:0≤p)(LW:p≤q)(Vz:hi=none∨q≤(cap:Int)) :
  (Instr.sliceBounds isSlice len cap (lo.map a.eval) (hi.map a.eval) none).run P w = .ok (p.toNat,q.toNat,cap) w:=by
 have hh:(match hi.map a.eval with|some v=>Instr.sliceBound v cap (if isSlice then .sliceAcap else .sliceAlen)|none=>pure len:Sem Nat).run P w = .ok q.toNat w:=by
  cases hi with
  | none=>simp only[xE,Option.some.injEq]at Fj;subst Fj;simp
  | some x =>
   simp only[xE]at Fj
   split at Fj
   ·rename_i j l hx
    cases Fj
    simp only[Option.map_some,ha.ev hx,Instr.sliceBound,asIntOf,Sem.run_bind,Sem.run_pure,Result.andThen_ok]
    rw[if_pos ⟨ai,Vz.resolve_left (by simp)⟩];rfl
   ·cases Fj
 have hl:(match lo.map a.eval with|some v=>Instr.sliceBound v q.toNat .sliceB|none=>pure 0:Sem Nat).run P w = .ok p.toNat w:=by
  cases lo with
  | none=>simp only[GB,Option.some.injEq]at zV;subst zV;simp
  | some x =>
   simp only[GB]at zV
   split at zV
   ·rename_i j l hx
    cases zV
    simp only[Option.map_some,ha.ev hx,Instr.sliceBound,asIntOf,Sem.run_bind,Sem.run_pure,Result.andThen_ok]
    rw[if_pos ⟨h0,ai⟩];rfl
   ·cases zV
 unfold Instr.sliceBounds
 cases hi with
 | none =>
  cases lo with
  | none=>simp at hh hl ⊢;exact⟨hl.symm ▸ rfl,hh⟩
  | some x=>simp at hh hl ⊢;simp[hl,hh]
 | some y =>
  cases lo with
  | none=>simp at hh hl ⊢;simp[hl,hh]
  | some x=>simp at hh hl ⊢;simp[hl,hh]
theorem NK{t elem:TypeId}{bH te:Ty}{x:Operand}{lo hi:Option Operand}{b o len cap:Nat}{p q:Int}(hd:Nat.blt d n=true)(ht:U.get t=some bH)(hu:bH.eH = .slice elem)(he:U.get elem=some te)(hx:ev L x=some (.slice (some ⟨b,o,none⟩) len cap))(zV:GB L lo=some p)(Fj:xE L len hi=some q)(h0:0≤p)(LW:p≤q)(Vz:hi=none∨q≤(cap:Int))(h:∀o',(p.toNat≠cap→o'=o+p.toNat*te.info.size)→(p.toNat=cap→o'=o)→J P f n R G S all rest k ((d,.slice (some ⟨b,o',none⟩) (q.toNat-p.toNat) (cap-p.toNat))::L) H) :
  J P f n R G S all (.cons m true ⟨some d,.slice t x lo hi none,ty,pos,af,gd⟩ rest) k L H:=by
 refine cJ hd (v := .slice (some ⟨b,if p.toNat=cap then o else o+p.toNat*te.info.size,none⟩) (q.toNat-p.toNat) (cap-p.toNat)) (fun a ha w=>?_) (h _ (fun e=>if_neg e) (fun e=>if_pos e))
 have hr:=o4 (P:=P) (w:=w) true ha zV Fj h0 LW Vz
 simp only[execOp,ha.ev hx,Instr.sliceAt,Sem.run_bind,run_underlying ht,Result.andThen_ok,hu,Instr.slice,Option.map_none,hr,run_sizeOf he,Sem.run_pure]
 grind [Addr.add_eq]
def sliceAt(a0:Option Addr)(cap p size:Nat):Option Addr:=if p=cap then a0 else a0.map fun a=>a.add (p*size)
theorem Ev{t elem:TypeId}{bH te:Ty}{x:Operand}{lo hi:Option Operand}{a0:Option Addr}{len cap:Nat}{p q:Int}(hd:Nat.blt d n=true)(ht:U.get t=some bH)(hu:bH.eH = .slice elem)(he:U.get elem=some te)(hx:ev L x=some (.slice a0 len cap))(zV:GB L lo=some p)(Fj:xE L len hi=some q)(h0:0≤p)(LW:p≤q)(Vz:hi=none∨q≤(cap:Int))(h:J P f n R G S all rest k ((d,.slice (sliceAt a0 cap p.toNat te.info.size) (q.toNat-p.toNat) (cap-p.toNat))::L) H) :
  J P f n R G S all (.cons m true ⟨some d,.slice t x lo hi none,ty,pos,af,gd⟩ rest) k L H:=by
 refine cJ hd (fun a ha w=>?_) h
 have hr:=o4 (P:=P) (w:=w) true ha zV Fj h0 LW Vz
 simp only[execOp,ha.ev hx,Instr.sliceAt,Sem.run_bind,run_underlying ht,Result.andThen_ok,hu,Instr.slice,Option.map_none,hr,run_sizeOf he,Sem.run_pure,sliceAt]
 grind
def vq{t:TypeId}{bH:Ty}{x:Operand}{lo hi:Option Operand}{s:ByteArray}{p q:Int}(hd:Nat.blt d n=true)(ht:U.get t=some bH)(hu:bH.eH = .string)(hx:ev L x=some (.string s))(zV:GB L lo=some p)(Fj:xE L s.size hi=some q)(h0:0≤p)(LW:p≤q)(Vz:q≤(s.size:Int))(h:J P f n R G S all rest k ((d,.string (s.extract p.toNat q.toNat))::L) H) :
  J P f n R G S all (.cons m true ⟨some d,.slice t x lo hi none,ty,pos,af,gd⟩ rest) k L H:=by
 refine cJ hd (fun a ha w=>?_) h
 have hr:=o4 (P:=P) (w:=w) false ha zV Fj h0 LW (.inr Vz)
 simp only[execOp,ha.ev hx,Instr.sliceAt,Sem.run_bind,run_underlying ht,Result.andThen_ok,hu,Instr.slice,Option.map_none,hr,Option.isSome_none,Bool.false_eq_true,if_false,Sem.run_pure]
def B3{t elem:TypeId}{bH te:Ty}{x y:Operand}{j:IntKind}{b o len cap:Nat}{p:Int}(hd:Nat.blt d n=true)(ht:U.get t=some bH)(hu:bH.eH = .slice elem)(he:U.get elem=some te)(hx:ev L x=some (.slice (some ⟨b,o,none⟩) len cap))(hy:ev L y=some (.int j p))(h0:0≤p)(hp:p<(len:Int))(h:J P f n R G S all rest k ((d,.pointer (some ⟨b,o+p.toNat*te.info.size,none⟩))::L) H) :
  J P f n R G S all (.cons m true ⟨some d,.indexAddr t x y,ty,pos,af,gd⟩ rest) k L H:=by
 refine cJ hd (fun a ha w=>?_) h
 simp only[execOp,ha.ev hx,ha.ev hy,Instr.indexAt,asIntOf,Sem.run_bind,Sem.run_pure,run_underlying ht,Result.andThen_ok,hu]
 rw[if_pos ⟨h0,hp⟩]
 simp only[Sem.run_bind,run_sizeOf he,Result.andThen_ok,Sem.run_pure,Addr.add_eq]
def aas{t elem:TypeId}{bH te:Ty}{x y:Operand}{j:IntKind}{b o len cap:Nat}{p:Int}(q sz:Nat)(hd:Nat.blt d n=true)(ht:U.get t=some bH)(hu:bH.eH = .slice elem)(he:U.get elem=some te)(hs:te.info.size=sz)(hx:ev L x=some (.slice (some ⟨b,o,none⟩) len cap))(hy:ev L y=some (.int j p))(hq:p=(q:Int))(cq:q<len)(h:J P f n R G S all rest k ((d,.pointer (some ⟨b,o+q*sz,none⟩))::L) H) :
  J P f n R G S all (.cons m true ⟨some d,.indexAddr t x y,ty,pos,af,gd⟩ rest) k L H:=by
 subst hq;subst hs
 exact B3 hd ht hu he hx hy ai ai (by simpa using h)
def aar{t elem:TypeId}{bH te:Ty}{x y:Operand}{j:IntKind}{b o len cap:Nat}{p:Int}(q:Nat)(hd:Nat.blt d n=true)(ht:U.get t=some bH)(hu:bH.eH = .slice elem)(he:U.get elem=some te)(hs:te.info.size=1)(hx:ev L x=some (.slice (some ⟨b,o,none⟩) len cap))(hy:ev L y=some (.int j p))(hq:p=(q:Int))(cq:q<len)(h:J P f n R G S all rest k ((d,.pointer (some ⟨b,o+q,none⟩))::L) H) :
  J P f n R G S all (.cons m true ⟨some d,.indexAddr t x y,ty,pos,af,gd⟩ rest) k L H :=
 aas q 1 hd ht hu he hs hx hy hq cq (by simpa using h)
def py{t elem:TypeId}{bH te:Ty}{x y:Operand}{j:IntKind}{b o len:Nat}{p:Int}(hd:Nat.blt d n=true)(ht:U.get t=some bH)(hu:bH.eH = .array len elem)(he:U.get elem=some te)(hx:ev L x=some (.pointer (some ⟨b,o,none⟩)))(hy:ev L y=some (.int j p))(h0:0≤p)(hp:p<(len:Int))(h:J P f n R G S all rest k ((d,.pointer (some ⟨b,o+p.toNat*te.info.size,none⟩))::L) H) :
  J P f n R G S all (.cons m true ⟨some d,.indexAddr t x y,ty,pos,af,gd⟩ rest) k L H:=by
 refine cJ hd (fun a ha w=>?_) h
 simp only[execOp,ha.ev hx,ha.ev hy,Instr.indexAt,asIntOf,Sem.run_bind,Sem.run_pure,run_underlying ht,Result.andThen_ok,hu,Instr.sureAddr]
 rw[if_pos ⟨h0,hp⟩]
 simp only[Sem.run_bind,run_sizeOf he,Result.andThen_ok,Sem.run_pure,Addr.add_eq]
def rj(s:ByteArray)(i:Nat):UInt8:=s.data.toList.getD i 0
def px{t:TypeId}{bH:Ty}{x y:Operand}{j:IntKind}{s:ByteArray}{p:Int}(hd:Nat.blt d n=true)(ht:U.get t=some bH)(hu:bH.eH = .string)(hx:ev L x=some (.string s))(hy:ev L y=some (.int j p))(h0:0≤p)(hp:p<(s.size:Int))(h:J P f n R G S all rest k ((d,.int .u8 ((rj s p.toNat).toNat:Int))::L) H) :
  J P f n R G S all (.cons m true ⟨some d,.index t x y,ty,pos,af,gd⟩ rest) k L H:=by
 refine cJ hd (fun a ha w=>?_) h
 have cq:p.toNat<s.size:=by omega
 have hb:s[p.toNat]?=some (rj s p.toNat):=by
  have h1:p.toNat<s.data.size:=cq
  have h2:s[p.toNat]?=some s[p.toNat]:=by simp[cq]
  rw[h2]
  congr 1
  unfold rj
  rw[List.getD_eq_getElem?_getD,Array.getElem?_toList,Array.getElem?_eq_getElem h1]
  rfl
 simp[execOp,ha.ev hx,ha.ev hy,Instr.index,asIntOf,run_underlying ht,hu,h0,hb]
def Ey{t elem:TypeId}{bH te:Ty}{x y:Operand}{j:IntKind}{cs:Array Value}{len:Nat}{p:Int}{v:Value}(hd:Nat.blt d n=true)(ht:U.get t=some bH)(hu:bH.eH = .array len elem)(he:U.get elem=some te)(hg:te.isAgg=false)(h1:Nat.beq te.info.size 1=true)(hx:ev L x=some (.agg cs))(hy:ev L y=some (.int j p))(h0:0≤p)(hp:p<(len:Int))(hv:cs.toList[p.toNat]?=some v)(h:J P f n R G S all rest k ((d,v)::L) H) :
  J P f n R G S all (.cons m true ⟨some d,.index t x y,ty,pos,af,gd⟩ rest) k L H:=by
 refine cJ hd (fun a ha w=>?_) h
 have YQ:cs[p.toNat]?=some v:=by simpa using hv
 have h1':te.info.size=1:=Nat.eq_of_beq_eq_true h1
 simp[execOp,ha.ev hx,ha.ev hy,Instr.index,asIntOf,run_underlying ht,hu,h0,hp,run_sizeOf he,h1',part,om he,hg,YQ]
def s9{t:TypeId}{x:Operand}{b off:Nat}{bH:Ty}{v:Value}{A:HP}(i:Nat)(hd:Nat.blt d n=true)(hx:ev L x=some (.pointer (some ⟨b,off,none⟩)))(hi:bS H i=some A)(hv:∀h,A h→cG h b off=some v)(ht:U.get t=some bH)(hg:bH.isAgg=false)(h:J P f n R G S all rest k ((d,v)::L) H):J P f n R G S all (.cons false true ⟨some d,.load t x,ty,pos,af,gd⟩ rest) k L H :=
 tk hd hx (fun w hw=>by
  obtain⟨h,hh,hA⟩:=hw.jG hi
  exact fA hh (hv h hA)) ht hg h
def u8(x:UInt8):Value := .int .u8 (x.toNat:Int)
def bV(bs:List UInt8):List Value:=bs.map u8
theorem bJ(bs:List UInt8):(bV bs).length=bs.length:=by simp[bV]
theorem dm(bs:List UInt8):∀u∈bV bs,u.oneCell'=true:=by
 intro u hu
 simp only[bV,List.mem_map]at hu
 obtain⟨x,_,rfl⟩:=hu
 rfl
def foldl_push(bs:List UInt8):∀s:ByteArray,(bs.map fun x=>(x.toNat:Int)).foldl (fun r n=>r.push (UInt8.ofNat n.toNat)) s=⟨(s.data.toList++bs).toArray⟩:=by
 induction bs with
 | nil=>intro s;simp
 | cons x l ih =>
  simp_all
def strOf(bs:List UInt8):ByteArray:=⟨bs.toArray⟩
theorem tE(s:ByteArray):strOf s.data.toList=s:=by simp[strOf]
theorem F9{a b:List UInt8}:strOf a=strOf b↔a=b:=by
 grind [strOf]
theorem xP{a b:List UInt8}:Oq (strOf a) (strOf b)=decide (a=b):=by
 grind [Np,F9]
def zH{src dst e:TypeId}{ts td te:Ty}{x:Operand}{v:Value}{A:HP}{bs:List UInt8}(i:Nat)(hd:Nat.blt d n=true)(hx:ev L x=some v)(hs:U.get src=some ts)(GN:ts.eH = .slice e)(he:U.get e=some te)(ZD:te.eH = .int .u8)(G7:U.get dst=some td)(G6:td.eH = .string)(hi:bS H i=some A)(hv:Vw A v bs.length (bV bs))(h:J P f n R G S all rest k ((d,.string (strOf bs))::L) H):J P f n R G S all (.cons false true ⟨some d,.convert src dst x,ty,pos,af,gd⟩ rest) k L H:=by
 refine gV hd (fun a w ha hw=>?_) h
 obtain⟨a0,cap,rfl,h0|⟨b,o,rfl,hc⟩⟩:=hv.cells hw hi
 ·have hb:bs=[]:=by simpa[bV]using h0
  subst hb
  cases a0 with
  | none =>
   simp only[execOp,ha.ev hx,Sem.run_bind]
   rw[run_convert_bytes_string w src dst e _ _ _ (by rw[ib (P:=P) hs,GN]) (by rw[ib (P:=P) he,ZD]) (by rw[ib (P:=P) G7,G6])]
   simp[Conv.bytesToString,strOf]
   rfl
  | some a1 =>
   simp only[execOp,ha.ev hx,Sem.run_bind]
   rw[run_convert_bytes_string w src dst e _ _ _ (by rw[ib (P:=P) hs,GN]) (by rw[ib (P:=P) he,ZD]) (by rw[ib (P:=P) G7,G6])]
   rw[run_bytesToString w a1 _ _ [] (by simp[loadCells,loadCellsFrom])]
   simp[strOf]
   rfl
 ·have h1:=run_loadCells_list (P:=P) w ⟨b,o,none⟩ (bV bs) (fun j c hj=>by rw[Addr.add_eq];exact hc j c hj)
  rw[bJ]at h1
  simp only[execOp,ha.ev hx,Sem.run_bind]
  rw[run_convert_bytes_string w src dst e _ _ _ (by rw[ib (P:=P) hs,GN]) (by rw[ib (P:=P) he,ZD]) (by rw[ib (P:=P) G7,G6])]
  rw[run_bytesToString w _ _ _ (bs.map fun x=>(x.toNat:Int)) (by rw[h1];simp[bV,u8]),foldl_push]
  simp[strOf]
def aW(b:Nat)(s:ByteArray)(e:TypeId)(cap:Nat):HP:=ag b (.cells (bytesRow s cap) e ((bytesRow s cap).size,(bytesRow s cap).size+1))
theorem CL(b:Nat)(s:ByteArray)(e:TypeId)(cap eX:Nat):Vw (aW b s e cap) (.slice (some ⟨b,0,none⟩) s.size eX) s.size (bV s.data.toList):=by
 refine⟨_,eX,rfl,.inr ⟨b,0,rfl,fun h hA j c hj=>?_⟩⟩
 unfold cG
 rw[hA b,if_pos rfl]
 simp only[bytesRow,Nat.zero_add]
 grind [bV,u8]
theorem HX{src dst e:TypeId}{ts td te:Ty}{x:Operand}{s:ByteArray}(hd:Nat.blt d n=true)(hx:ev L x=some (.string s))(hs:U.get src=some ts)(GN:ts.eH = .string)(G7:U.get dst=some td)(G6:td.eH = .slice e)(he:U.get e=some te)(ZD:te.eH = .int .u8)(hS:∀b cap w,Sat G w (aW b s e cap::H)→Sx rest S w)(h:∀b cap,J P f n R G S all rest k ((d,.slice (some ⟨b,0,none⟩) s.size cap)::L) (aW b s e cap::H)):J P f n R G S all (.cons false true ⟨some d,.convert src dst x,ty,pos,af,gd⟩ rest) k L H:=by
 refine lN hd (fun u H1=>∃b cap,u = .slice (some ⟨b,0,none⟩) s.size cap∧H1=aW b s e cap::H) (fun a w ha hw=>?_) ?_ ?_
 ·refine⟨_,w.drew.alloc (.cells (bytesRow s (grownCap w s.size 0 e)) e ((bytesRow s (grownCap w s.size 0 e)).size,(bytesRow s (grownCap w s.size 0 e)).size+1)),_,?_,⟨w.heap.size,grownCap w s.size 0 e,rfl,rfl⟩,?_⟩
  ·have:=run_bytes_of_string (P:=P) w src dst e s (by rw[ib (P:=P) hs,GN]) (by rw[ib (P:=P) G7,G6]) (by rw[ib (P:=P) he,ZD])
   simp only[execOp,ha.ev hx,Sem.run_bind,this,Result.andThen_ok,Sem.run_pure]
  ·exact Sat.alloc (w:=w.drew) (hw.draw _) _
 ·grind
 grind
end
end Go.SL
namespace Go.SL
structure iz(P:Program)(kt:TypeId){κ:Type}(kv:κ→Value):Prop where
 inj:∀a b,kv a=kv b→a=b
 check:∀(e:Bool) (k:κ) (w:World),(Instr.checkKey e 10000 kt (kv k)).run P w = .ok () w
 find:∀(k:κ) (l:List MapEntry) (ks:List κ) (w:World),l.map (·.key)=ks.map kv →
  ∃r,(Instr.findKey kt (kv k) l).run P w = .ok r w ∧
   ((r=none∧k ∉ ks)∨∃i e,r=some (i,e.val)∧l[i]?=some e∧ks[i]?=some k∧∀j,j<i→ks[j]? ≠ some k)
 bits:∀k,Instr.sameBits 10000 (kv k) (kv k)=true
def findNow_spec{κ:Type}{kv:κ→Value}{kind:TypeDesc}[DecidableEq κ](hs:∀a b,Instr.sameNow kind (kv a) (kv b)=some (decide (a=b)))(k:κ) :
  ∀(l:List MapEntry) (ks:List κ) (o:Nat),l.map (·.key)=ks.map kv →
   ∃r,Instr.findNow kind (kv k) l o=some r∧((r=none∧k ∉ ks)∨∃i e,r=some (o+i,e.val)∧l[i]?=some e∧ks[i]?=some k∧∀j,j<i→ks[j]? ≠ some k):=by
 intro l
 induction l with
 | nil =>
  intro ks o h
  have:ks=[]:=by simpa using h.symm
  subst this
  exact⟨none,rfl,.inl ⟨rfl,by simp⟩⟩
 | cons e l ih =>
  intro ks o h
  cases ks with
  | nil=>simp at h
  | cons c ks =>
   simp only[List.map_cons,List.cons.injEq]at h
   obtain⟨h1,h2⟩:=h
   simp only[Instr.findNow,h1,hs]
   by_cases Kr:k=c
   ·subst Kr
    refine⟨_,by simp;rfl,.inr ⟨0,e,by simp,by simp,by simp,fun j hj=>absurd hj ai⟩⟩
   ·obtain⟨r,hr,gB⟩:=ih ks (o+1) h2
    refine⟨r,by simp[Kr,hr],?_⟩
    rcases gB with⟨rfl,hn⟩|⟨i,e',rfl,hi,hk,hj⟩
    ·exact .inl ⟨rfl,by simp[Kr,hn]⟩
    ·refine .inr ⟨i+1,e',by congr 2;omega,by simpa using hi,by simpa using hk,fun j nC=>?_⟩
     cases j with
     | zero=>simp;exact fun h=>Kr h.symm
     | succ j=>simpa using hj j ai
theorem oP{P:Program}{kt:TypeId}{kind:TypeDesc}{κ:Type}[DecidableEq κ]{kv:κ→Value}(hu:P.underlying kt=some kind)(hs:∀a b,Instr.sameNow kind (kv a) (kv b)=some (decide (a=b)))(hk:(match kind with | .interface _=>false | .array _ _=>false | .struct _=>false|_=>true)=true)(inj:∀a b,kv a=kv b→a=b)(bits:∀k,Instr.sameBits 10000 (kv k) (kv k)=true):iz P kt kv where
 inj:=inj
 check:=fun e k w=>by
  unfold Instr.checkKey
  simp only[Sem.run_bind,underlying,run_program,Result.andThen_ok,hu,Sem.run_pure]
  cases kind <;> simp_all
 find:=fun k l ks w h=>by
  obtain⟨r,hr,gB⟩:=findNow_spec hs k l ks 0 h
  refine⟨r,?_,?_⟩
  ·simp only[Instr.findKey,Sem.run_bind,underlying,run_program,Result.andThen_ok,hu,Sem.run_pure,hr]
  grind
 bits:=bits
def aai(a b:ByteArray):(a == b)=decide (a=b):=by
 rw[Bool.eq_iff_iff]
 simp only[decide_eq_true_eq]
 constructor
 ·intro h
  have h1:(a.data == b.data)=true:=h
  cases a;cases b;simp at h1;rw[h1]
 ·rintro rfl
  show(a.data == a.data)=true
  simp
theorem k9{α β:Type}(g:α→β)(l:List α)(i:Nat):(l.eraseIdx i).map g=(l.map g).eraseIdx i:=by
 induction l generalizing i with
 | nil=>rfl
 | cons x l ih=>cases i <;> simp[ih]
def J6{P:Program}{kt:TypeId}(hu:P.underlying kt=some .string):iz P kt Value.string :=
 oP hu (fun a b=>by simp only[Instr.sameNow,aai]) rfl (fun a b h=>by cases h;rfl) (fun k=>by simp[Instr.sameBits,aai])
def pg{P:Program}{kt:TypeId}{j:IntKind}(hu:P.underlying kt=some (.int j)):iz P kt (Value.int j) :=
 oP hu (fun a b=>by simp only[Instr.sameNow,if_true,aah]) rfl (fun a b h=>by cases h;rfl) (fun k=>by simp[Instr.sameBits])
section
variable{κ:Type}[DecidableEq κ]
def cw(es:List (κ × Value))(k:κ):Option Value:=(es.find? fun x=>decide (x.1=k)).map (·.2)
def iy(es:List (κ × Value))(k:κ)(v:Value):List (κ × Value):=if k∈es.map (·.1)then es.map (fun x=>if x.1=k then(k,v)else x)else es++[(k,v)]
def qh(es:List (κ × Value))(k:κ):List (κ × Value):=es.filter fun x => !decide (x.1=k)
def u'{es:List (κ × Value)}{k:κ}:cw es k=none↔k ∉ es.map (·.1):=by
 unfold cw
 simp only[Option.map_eq_none_iff,List.find?_eq_none,decide_eq_true_eq,List.mem_map,not_exists,not_and]
theorem yd{es:List (κ × Value)}{k:κ}{i:Nat}{v:Value}(hi:es[i]?=some (k,v))(hj:∀j,j<i→(es.map (·.1))[j]? ≠ some k):cw es k=some v:=by
 induction es generalizing i with
 | nil=>simp at hi
 | cons x es ih =>
  cases i with
  | zero=>simp at hi;subst hi;simp[cw]
  | succ i =>
   simp at hi
   have h0:=hj 0 ai
   grind [cw]
def mL(kv:κ→Value)(o:Obj)(es:List (κ × Value)):Prop :=
 ∃entries clock,o = .map entries clock∧entries.toList.map (fun e=>(e.key,e.val))=es.map (fun x=>(kv x.1,x.2))∧(es.map (·.1)).Nodup∧(∀e∈entries.toList,e.born<clock)∧(entries.toList.map (·.born)).Nodup
def aC(kv:κ→Value)(b:Nat)(es:List (κ × Value)):HP:=fun h=>∃o,mL kv o es∧ag b o h
def Sat.eU{G:bY}{w:World}{H:List HP}{kv:κ→Value}{b:Nat}{es:List (κ × Value)}(hs:Sat G w H){i:Nat}(hi:bS H i=some (aC kv b es)):∃o,mL kv o es∧w.heap[b]?=some o:=by
 obtain⟨h,hh,o,ho,hp⟩:=hs.jG hi
 exact⟨o,ho,hh b o (by rw[hp b];simp)⟩
def fO(kv:κ→Value)(b:Nat):∀h,ag b (.map #[] 0) h→aC kv b [] h:=fun h hp=>⟨_,⟨#[],0,rfl,rfl,by simp,by simp,by simp⟩,hp⟩
def Dt{kv:κ→Value}{b:Nat}{es:List (κ × Value)}{h:Hp}(hm:aC kv b es h):(es.map (·.1)).Nodup:=by
 obtain⟨o,⟨_,_,_,_,hn,_⟩,_⟩:=hm;exact hn
def Sat.tY{G:bY}{w:World}{H H':List HP}{kv:κ→Value}{b:Nat}{es es':List (κ × Value)}{o':Obj}{i:Nat}(hs:Sat G w H)(hi:bS H i=some (aC kv b es))(hm:mL kv o' es')(hp:jk i (aC kv b es') H [] = .mk H') :
  Sat G { w with heap:=w.heap.setIfInBounds b o' } H':=by
 have vI:=hs.cn (ao.perm (ct (by rw[← cK];exact hi)))
 obtain⟨hT,hO,Nc,hh,cu,h1,h2,⟨o,ho,uA⟩,hB,hd,hj⟩:=vI
 have xA:Sat G w (ag b o::H.eraseIdx i):=⟨hT,hO,Nc,hh,cu,h1,h2,uA,hB,hd,hj⟩
 have h3:=xA.yA (o':=o')
 have h4:=lX i _ _ H [] H' hp hi
 refine(h3.cn ?_).cn (ao.perm (by simpa using h4.symm))
 exact ao.fold (B:=[_]) fun h hs=>⟨h,sub.refl h,o',hm,cW hs⟩
end
section
variable{P:Program}{U:Tr}[hU:er P U]{f:FuncId}{n:Nat}{R:Ending→World→Prop}{G:bY}{k:List Item}{L:dS}{H H':List HP}{S:World→Prop}{all:Array Oper}{rest:Pl}{ty:TypeId}{pos:String}{af:Array Edge}{gd:Option (Nat × Bool)}{m:Bool}{d:Tmp}
variable{κ:Type}[DecidableEq κ]{kv:κ→Value}
def run_getObj_map{w:World}{b:Nat}{es:Array MapEntry}{c:Nat}(h:w.heap[b]?=some (.map es c)):(getObj b).run P w = .ok (.map es c) w:=by
 simp[getObj,Sem.run,h]
theorem jT{t kt et:TypeId}{bH te:Ty}{z:Value}{b:Nat}{es:List (κ × Value)}{key:κ}{o:Obj}{w:World}(c:Bool)(qC:iz P kt kv)(ht:U.get t=some bH)(hu:bH.eH = .map kt et)(he:U.get et=some te)(hz:te.info.zero=some z)(hm:mL kv o es)(hb:w.heap[b]?=some o) :
  (Instr.lookup t (.map (some b)) (kv key) c).run P w = .ok (if c then .tuple #[(cw es key).getD z,.bool (cw es key).isSome]else(cw es key).getD z) w:=by
 obtain⟨entries,clock,rfl,mT,gp,nG,Fo⟩:=hm
 have MU:entries.toList.map (·.key)=(es.map (·.1)).map kv:=by
  have:=congrArg (List.map (·.1)) mT
  simpa[Function.comp_def]using this
 obtain⟨r,hr,gB⟩:=qC.find key entries.toList (es.map (·.1)) w MU
 unfold Instr.lookup
 simp only[Sem.run_bind,run_underlying ht,Result.andThen_ok,hu,run_getObj_map hb,Sem.run_pure,qC.check,hr]
 rcases gB with⟨rfl,hn⟩|⟨i,e,rfl,hi,hk,hj⟩
 ·have:=u'.2 hn
  simp only[Sem.run_bind,cS he hz,Result.andThen_ok,Sem.run_pure,this]
  cases c <;> rfl
 ·have hv:es[i]?=some (key,e.val):=by
   have h1:=congrArg (·[i]?) mT
   grind
  have:=yd hv hj
  simp_all
def Lu{t kt et:TypeId}{bH te:Ty}{z:Value}{x y:Operand}{b:Nat}{es:List (κ × Value)}{key:κ}{lA:Value}(i:Nat)(hd:Nat.blt d n=true)(qC:iz P kt kv)(hx:ev L x=some (.map (some b)))(hy:ev L y=some lA)(GY:lA=kv key)(ht:U.get t=some bH)(hu:bH.eH = .map kt et)(he:U.get et=some te)(hz:te.info.zero=some z)(hi:bS H i=some (aC kv b es))(h:J P f n R G S all rest k ((d,(cw es key).getD z)::L) H):J P f n R G S all (.cons false true ⟨some d,.lookup t x y false,ty,pos,af,gd⟩ rest) k L H :=
 gV hd (fun a w ha hw=>by
  obtain⟨o,hm,hb⟩:=hw.eU hi
  subst GY
  simp[execOp,ha.ev hx,ha.ev hy,jT (P:=P) (key:=key) false qC ht hu he hz hm hb]) h
def Ex{t kt et:TypeId}{bH te:Ty}{z:Value}{x y:Operand}{b:Nat}{es:List (κ × Value)}{key:κ}{lA:Value}(i:Nat)(hd:Nat.blt d n=true)(qC:iz P kt kv)(hx:ev L x=some (.map (some b)))(hy:ev L y=some lA)(GY:lA=kv key)(ht:U.get t=some bH)(hu:bH.eH = .map kt et)(he:U.get et=some te)(hz:te.info.zero=some z)(hi:bS H i=some (aC kv b es))(h:J P f n R G S all rest k ((d,.tuple #[(cw es key).getD z,.bool (cw es key).isSome])::L) H):J P f n R G S all (.cons false true ⟨some d,.lookup t x y true,ty,pos,af,gd⟩ rest) k L H :=
 gV hd (fun a w ha hw=>by
  obtain⟨o,hm,hb⟩:=hw.eU hi
  subst GY
  simp[execOp,ha.ev hx,ha.ev hy,jT (P:=P) (key:=key) true qC ht hu he hz hm hb]) h
def n9{t kt et:TypeId}{bH te:Ty}{z:Value}{x y:Operand}{b:Nat}{es:List (κ × Value)}{key:κ}{lA:Value}(hd:Nat.blt d n=true)(qC:iz P kt kv)(hx:ev L x=some (.map (some b)))(hy:ev L y=some lA)(GY:lA=kv key)(ht:U.get t=some bH)(hu:bH.eH = .map kt et)(he:U.get et=some te)(hz:te.info.zero=some z)(hi:∀w,Sat G w H→∃o,mL kv o es∧w.heap[b]?=some o)(h:J P f n R G S all rest k ((d,.tuple #[(cw es key).getD z,.bool (cw es key).isSome])::L) H):J P f n R G S all (.cons false true ⟨some d,.lookup t x y true,ty,pos,af,gd⟩ rest) k L H :=
 gV hd (fun a w ha hw=>by
  obtain⟨o,hm,hb⟩:=hi w hw
  subst GY
  simp[execOp,ha.ev hx,ha.ev hy,jT (P:=P) (key:=key) true qC ht hu he hz hm hb]) h
def ym{t kt et:TypeId}{bH te:Ty}{z:Value}{x y:Operand}{b:Nat}{es:List (κ × Value)}{key:κ}{lA:Value}(hd:Nat.blt d n=true)(qC:iz P kt kv)(hx:ev L x=some (.map (some b)))(hy:ev L y=some lA)(GY:lA=kv key)(ht:U.get t=some bH)(hu:bH.eH = .map kt et)(he:U.get et=some te)(hz:te.info.zero=some z)(hi:∀w,S w→∃o,mL kv o es∧w.heap[b]?=some o)(h:J P f n R G S all rest k ((d,(cw es key).getD z)::L) H):J P f n R G S all (.cons true true ⟨some d,.lookup t x y false,ty,pos,af,gd⟩ rest) k L H :=
 iX hd (fun a w ha hw=>by
  obtain⟨o,hm,hb⟩:=hi w hw
  subst GY
  simp[execOp,ha.ev hx,ha.ev hy,jT (P:=P) (key:=key) false qC ht hu he hz hm hb]) h
def B0{t kt et:TypeId}{bH te:Ty}{z:Value}{x y:Operand}{b:Nat}{es:List (κ × Value)}{key:κ}{lA:Value}(hd:Nat.blt d n=true)(qC:iz P kt kv)(hx:ev L x=some (.map (some b)))(hy:ev L y=some lA)(GY:lA=kv key)(ht:U.get t=some bH)(hu:bH.eH = .map kt et)(he:U.get et=some te)(hz:te.info.zero=some z)(hi:∀w,S w→∃o,mL kv o es∧w.heap[b]?=some o)(h:J P f n R G S all rest k ((d,.tuple #[(cw es key).getD z,.bool (cw es key).isSome])::L) H):J P f n R G S all (.cons true true ⟨some d,.lookup t x y true,ty,pos,af,gd⟩ rest) k L H :=
 iX hd (fun a w ha hw=>by
  obtain⟨o,hm,hb⟩:=hi w hw
  subst GY
  simp[execOp,ha.ev hx,ha.ev hy,jT (P:=P) (key:=key) true qC ht hu he hz hm hb]) h
theorem JS{entries:Array MapEntry}{clock:Nat}{es:List (κ × Value)}{key:κ}{v:Value}{i:Nat}{e:MapEntry}(hm:mL kv (.map entries clock) es)(hi:entries.toList[i]?=some e)(hk:(es.map (·.1))[i]?=some key) :
  mL kv (.map (entries.modify i fun e=>{ e with key:=kv key,val:=v }) clock) (iy es key v):=by
 obtain⟨qe,zg,heq,mT,gp,nG,Fo⟩:=hm
 cases heq
 have dF:key∈es.map (·.1):=List.mem_of_getElem? hk
 have VG:(entries.modify i fun e=>{ e with key:=kv key,val:=v }).toList=entries.toList.modify i (fun e=>{ e with key:=kv key,val:=v }):=by simp
 refine⟨_,clock,rfl,?_,?_,?_,?_⟩
 ·rw[VG]
  apply List.ext_getElem?
  intro j
  have hj:=congrArg (·[j]?) mT
  simp only[List.getElem?_map]at hj
  simp only[iy,dF,if_true,List.getElem?_map,List.getElem?_modify]
  cases hx:es[j]? with
  | none =>
   grind
  | some x =>
   rw[hx]at hj
   simp only[Option.map_some]at hj
   cases hy:entries.toList[j]? with
   | none=>rw[hy]at hj;cases hj
   | some y =>
    rw[hy]at hj
    simp only[Option.map_some,Option.some.injEq,Prod.mk.injEq]at hj
    by_cases G1:i=j
    ·grind
    ·have fy:x.1≠key:=fun hxk=>by
      have h1:(es.map (·.1))[j]?=some key:=by simp[hx,hxk]
      exact G1 ((List.getElem?_inj (by
       rcases Nat.lt_or_ge i (es.map (·.1)).length with h|h
       ·exact h
       ·rw[List.getElem?_eq_none h]at hk;cases hk) gp).1 (hk.trans h1.symm))
     grind
 ·grind [iy]
 ·intro e' he'
  rw[VG]at he'
  obtain⟨j,hj⟩:=List.getElem?_of_mem he'
  grind
 ·rw[VG]
  have:(entries.toList.modify i (fun e=>{ e with key:=kv key,val:=v })).map (·.born)=entries.toList.map (·.born):=by
   apply List.ext_getElem?
   grind
  grind
theorem Gz{entries:Array MapEntry}{clock:Nat}{es:List (κ × Value)}{key:κ}{v:Value}(hm:mL kv (.map entries clock) es)(hn:key ∉ es.map (·.1)) :
  mL kv (.map (entries.push { key:=kv key,val:=v,born:=clock }) (clock+1)) (iy es key v):=by
 obtain⟨qe,zg,heq,mT,gp,nG,Fo⟩:=hm
 cases heq
 refine⟨_,clock+1,rfl,?_,?_,?_,?_⟩
 ·simp[iy,hn,mT]
 ·grind [iy]
 ·grind
 grind
theorem CO{t kt et:TypeId}{bH:Ty}{b:Nat}{es:List (κ × Value)}{key:κ}{v:Value}{w:World}{i:Nat}(qC:iz P kt kv)(ht:U.get t=some bH)(hu:bH.eH = .map kt et)(hw:Sat G w H)(hi:bS H i=some (aC kv b es))(hp:jk i (aC kv b (iy es key v)) H [] = .mk H') :
  ∃w',(Instr.mapUpdate t (.map (some b)) (kv key) v).run P w = .ok () w'∧Sat G w' H':=by
 obtain⟨o,hm,hb⟩:=hw.eU hi
 have A7:=hm
 obtain⟨entries,clock,rfl,mT,gp,nG,Fo⟩:=hm
 have MU:entries.toList.map (·.key)=(es.map (·.1)).map kv:=by
  have:=congrArg (List.map (·.1)) mT
  simpa[Function.comp_def]using this
 obtain⟨r,hr,gB⟩:=qC.find key entries.toList (es.map (·.1)) w MU
 have jX:∀o',(setObj b o').run P w = .ok () { w with heap:=w.heap.setIfInBounds b o' }:=fun o'=>by simp[setObj,Sem.run,hb]
 rcases gB with⟨rfl,hn⟩|⟨j,e,rfl,hj,hk,cq⟩
 ·refine⟨_,?_,hw.tY hi (Gz (v:=v) A7 hn) hp⟩
  unfold Instr.mapUpdate
  simp only[Sem.run_bind,run_underlying ht,Result.andThen_ok,hu,run_getObj_map hb,qC.check,hr,jX]
 ·refine⟨_,?_,hw.tY hi (JS (v:=v) A7 hj hk) hp⟩
  have VZ:e.key=kv key:=by
   have h1:=congrArg (·[j]?) MU
   grind
  have nC:entries[j]?=some e:=by simpa using hj
  unfold Instr.mapUpdate
  simp only[Sem.run_bind,run_underlying ht,Result.andThen_ok,hu,run_getObj_map hb,qC.check,hr,nC,Option.map_some,Option.getD_some,VZ,Instr.keyThatStays,qC.bits,if_true,Sem.run_pure,jX]
def BY{t kt et:TypeId}{bH:Ty}{x y v0:Operand}{b:Nat}{es:List (κ × Value)}{key:κ}{lA v:Value}(i:Nat)(qC:iz P kt kv)(hS:∀w,Sat G w H'→Sx rest S w)(hx:ev L x=some (.map (some b)))(hy:ev L y=some lA)(GY:lA=kv key)(hv:ev L v0=some v)(ht:U.get t=some bH)(hu:bH.eH = .map kt et)(hi:bS H i=some (aC kv b es))(hp:jk i (aC kv b (iy es key v)) H [] = .mk H')(h:J P f n R G S all rest k L H'):J P f n R G S all (.cons false true ⟨none,.mapUpdate t x y v0,ty,pos,af,gd⟩ rest) k L H:=by
 refine LD (fun H1=>H1=H') (fun a w ha hw=>?_) (fun H1 w e hw=>hS w (e ▸ hw)) (fun H1 e=>e ▸ h)
 subst GY
 obtain⟨w',hr,hs⟩:=CO (P:=P) qC ht hu hw hi hp
 exact⟨w',H',by simp[execOp,ha.ev hx,ha.ev hy,ha.ev hv,hr],rfl,hs⟩
theorem zc{es:List (κ × Value)}{key:κ}:∀ {i:Nat},(es.map (·.1)).Nodup→(es.map (·.1))[i]?=some key→qh es key=es.eraseIdx i:=by
 induction es with
 | nil=>intro i _ h;simp at h
 | cons x es ih =>
  intro i gp hk
  simp only[List.map_cons,List.nodup_cons]at gp
  cases i with
  | zero =>
   simp at hk
   subst hk
   simp only[qh,decide_true,Bool.not_true,List.filter_cons,Bool.false_eq_true,if_false,List.eraseIdx_cons_zero]
   apply List.filter_eq_self.2
   grind
  | succ i =>
   grind [qh]
theorem HD{es:List (κ × Value)}{key:κ}(h:key ∉ es.map (·.1)):qh es key=es:=by
 apply List.filter_eq_self.2
 grind
theorem JT{entries:Array MapEntry}{clock:Nat}{es:List (κ × Value)}{key:κ}{i:Nat}{e:MapEntry}(hm:mL kv (.map entries clock) es)(hi:entries.toList[i]?=some e)(hk:(es.map (·.1))[i]?=some key) :
  mL kv (.map (entries.eraseIdxIfInBounds i) clock) (qh es key):=by
 obtain⟨qe,zg,heq,mT,gp,nG,Fo⟩:=hm
 cases heq
 have pn:(entries.eraseIdxIfInBounds i).toList=entries.toList.eraseIdx i:=by simp
 rw[zc gp hk]
 refine⟨_,clock,rfl,?_,?_,?_,?_⟩
 ·grind [k9]
 ·grind
 ·grind
 grind
def Lx{t kt et:TypeId}{bH:Ty}{x y:Operand}{t2:TypeId}{b:Nat}{es:List (κ × Value)}{key:κ}{lA:Value}(i:Nat)(qC:iz P kt kv)(hS:∀w,Sat G w H'→Sx rest S w)(hx:ev L x=some (.map (some b)))(hy:ev L y=some lA)(GY:lA=kv key)(ht:U.get t=some bH)(hu:bH.eH = .map kt et)(hi:bS H i=some (aC kv b es))(hp:jk i (aC kv b (qh es key)) H [] = .mk H')(h:J P f n R G S all rest k L H'):J P f n R G S all (.cons false true ⟨none,.call { callee := .builtin .delete,args := #[x,y],argTypes := #[t,t2] },ty,pos,af,gd⟩ rest) k L H:=by
 intro a w ha hw _
 subst GY
 obtain⟨o,hm,hb⟩:=hw.eU hi
 have A7:=hm
 obtain⟨entries,clock,rfl,mT,gp,nG,Fo⟩:=hm
 have MU:entries.toList.map (·.key)=(es.map (·.1)).map kv:=by
  have:=congrArg (List.map (·.1)) mT
  simpa[Function.comp_def]using this
 obtain⟨r,hr,gB⟩:=qC.find key entries.toList (es.map (·.1)) w MU
 have jX:∀o',(setObj b o').run P w = .ok () { w with heap:=w.heap.setIfInBounds b o' }:=fun o'=>by simp[setObj,Sem.run,hb]
 refine .inl ⟨.inl rfl,.inr ⟨rfl,?_⟩⟩
 rcases gB with⟨rfl,hn⟩|⟨j,e,rfl,hj,hk,cq⟩
 ·have hs:=hw.tY hi (o' := .map entries clock) (es':=qh es key) (by rw[HD hn];exact A7) hp
  have:(execOp a.eval ⟨none,.call { callee := .builtin .delete,args := #[x,y],argTypes := #[t,t2] },ty,pos,af,gd⟩).run P w = .ok (.value (.tuple #[])) { w with heap:=w.heap.setIfInBounds b (.map entries clock) }:=by
   simp only[execOp,resolve,invoke,builtin,Sem.run_bind,Sem.run_pure,Result.andThen_ok,List.map_toArray,List.map_cons,List.map_nil,ha.ev hx,ha.ev hy,Builtin.delete_,List.getElem?_toArray,List.getElem?_cons_zero,List.getElem?_cons_succ,
    run_underlying ht,hu,run_getObj_map hb,qC.check,hr,jX]
  exact fe this ⟨hS _ hs,h a _ ha hs (hS _ hs)⟩
 ·have hs:=hw.tY hi (JT A7 hj hk) hp
  have:(execOp a.eval ⟨none,.call { callee := .builtin .delete,args := #[x,y],argTypes := #[t,t2] },ty,pos,af,gd⟩).run P w = .ok (.value (.tuple #[])) { w with heap:=w.heap.setIfInBounds b (.map (entries.eraseIdxIfInBounds j) clock) }:=by
   simp only[execOp,resolve,invoke,builtin,Sem.run_bind,Sem.run_pure,Result.andThen_ok,List.map_toArray,List.map_cons,List.map_nil,ha.ev hx,ha.ev hy,Builtin.delete_,List.getElem?_toArray,List.getElem?_cons_zero,List.getElem?_cons_succ,
    run_underlying ht,hu,run_getObj_map hb,qC.check,hr,jX]
  exact fe this ⟨hS _ hs,h a _ ha hs (hS _ hs)⟩
def oZ{t kt et:TypeId}{bH:Ty}{b:Nat}{es:List (κ × Value)}{o:Obj}{w:World}{rty:TypeId}(ht:U.get t=some bH)(hu:bH.eH = .map kt et)(hm:mL kv o es)(hb:w.heap[b]?=some o) :
  (Builtin.len_ #[t] rty #[.map (some b)]).run P w = .ok (.int .i64 es.length) w:=by
 obtain⟨entries,clock,rfl,mT,gp,nG,Fo⟩:=hm
 have hl:entries.size=es.length:=by have:=congrArg List.length mT;simpa using this
 simp[Builtin.len_,run_underlying ht,hu,run_getObj_map hb,goInt,hl]
def Lw{t kt et:TypeId}{bH:Ty}{x:Operand}{b:Nat}{es:List (κ × Value)}(i:Nat)(hd:Nat.blt d n=true)(hx:ev L x=some (.map (some b)))(ht:U.get t=some bH)(hu:bH.eH = .map kt et)(hi:bS H i=some (aC kv b es))(h:J P f n R G S all rest k ((d,.int .i64 es.length)::L) H):J P f n R G S all (.cons false true ⟨some d,.call { callee := .builtin .len,args := #[x],argTypes := #[t] },ty,pos,af,gd⟩ rest) k L H :=
 gV hd (fun a w ha hw=>by
  obtain⟨o,hm,hb⟩:=hw.eU hi
  simp[execOp,resolve,invoke,builtin,ha.ev hx,oZ (P:=P) ht hu hm hb]) h
def H5{t kt et:TypeId}{bH:Ty}{x:Operand}{b:Nat}{es:List (κ × Value)}(hd:Nat.blt d n=true)(hx:ev L x=some (.map (some b)))(ht:U.get t=some bH)(hu:bH.eH = .map kt et)(hi:∀w,Sat G w H→∃o,mL kv o es∧w.heap[b]?=some o)(h:J P f n R G S all rest k ((d,.int .i64 es.length)::L) H):J P f n R G S all (.cons false true ⟨some d,.call { callee := .builtin .len,args := #[x],argTypes := #[t] },ty,pos,af,gd⟩ rest) k L H :=
 gV hd (fun a w ha hw=>by
  obtain⟨o,hm,hb⟩:=hi w hw
  simp[execOp,resolve,invoke,builtin,ha.ev hx,oZ (P:=P) ht hu hm hb]) h
def rB{t kt et:TypeId}{bH:Ty}{x:Operand}{b:Nat}{es:List (κ × Value)}(hd:Nat.blt d n=true)(hx:ev L x=some (.map (some b)))(ht:U.get t=some bH)(hu:bH.eH = .map kt et)(hi:∀w,S w→∃o,mL kv o es∧w.heap[b]?=some o)(h:J P f n R G S all rest k ((d,.int .i64 es.length)::L) H):J P f n R G S all (.cons true true ⟨some d,.call { callee := .builtin .len,args := #[x],argTypes := #[t] },ty,pos,af,gd⟩ rest) k L H :=
 iX hd (fun a w ha hw=>by
  obtain⟨o,hm,hb⟩:=hi w hw
  simp[execOp,resolve,invoke,builtin,ha.ev hx,oZ (P:=P) ht hu hm hb]) h
def bF(kv:κ→Value)(b it:Nat)(es:List (κ × Value))(done:List κ):HP:=fun h =>
 ∃entries clock seen,mL kv (.map entries clock) es∧(∀(i:Nat) (e:MapEntry) (x:κ × Value),entries.toList[i]?=some e→es[i]?=some x→(seen.contains e.born=true↔x.1∈done)) ∧
  (∀key,done.head?=some key→∃e∈entries.toList,e.key=kv key∧seen.back?=some e.born) ∧
  star (ag b (.map entries clock)) (ag it (.mapIter (some b) clock seen clock)) h
def gX{b it:Nat}{es:List (κ × Value)}{done:List κ}:∀h,bF kv b it es done h→∃h',sub h' h∧aC kv b es h':=by
 rintro h⟨entries,clock,seen,hm,_,_,hs⟩
 obtain⟨h',s,hp⟩:=iM hs
 exact⟨h',s,_,hm,hp⟩
theorem kT{t kt et:TypeId}{bH:Ty}{x:Operand}{b:Nat}{es:List (κ × Value)}(i:Nat)(hd:Nat.blt d n=true)(hx:ev L x=some (.map (some b)))(ht:U.get t=some bH)(hu:bH.eH = .map kt et)(hi:bS H i=some (aC kv b es)){Hf:Nat→List HP}(hp:∀it,jk i (bF kv b it es []) H [] = .mk (Hf it))(hS:∀it w,Sat G w (Hf it)→Sx rest S w)(h:∀it,J P f n R G S all rest k ((d,.pointer (some ⟨it,0,none⟩))::L) (Hf it)):J P f n R G S all (.cons false true ⟨some d,.range t x,ty,pos,af,gd⟩ rest) k L H:=by
 refine lN hd (fun u H1=>∃it,u = .pointer (some ⟨it,0,none⟩)∧H1=Hf it) (fun a w ha hw=>?_) ?_ ?_
 ·obtain⟨o,hm,hb⟩:=hw.eU hi
  have vI:=hw.cn (ao.perm (ct (by rw[← cK];exact hi)))
  obtain⟨hT,hO,Nc,hh,cu,h1,h2,⟨o',ho',uA⟩,hB,V2,hj⟩:=vI
  have hoo:o'=o:=by
   have:w.heap[b]?=some o':=cu b o' (by rw[hj b,uA b];simp)
   grind
  subst hoo
  have xA:Sat G w (ag b o'::H.eraseIdx i):=⟨hT,hO,Nc,hh,cu,h1,h2,uA,hB,V2,hj⟩
  obtain⟨entries,clock,rfl,uz⟩:=hm
  refine⟨_,{ w with heap:=w.heap.push (.mapIter (some b) clock #[] clock) },Hf w.heap.size,?_,⟨w.heap.size,rfl,rfl⟩,?_⟩
  ·simp only[execOp,ha.ev hx,Instr.range,Sem.run_bind,run_underlying ht,Result.andThen_ok,hu,run_getObj_map hb,Sem.run_pure,run_newObj]
  ·have h3:=xA.alloc (.mapIter (some b) clock #[] clock)
   have h4:=lX i _ _ H [] (Hf w.heap.size) (hp _) hi
   refine(h3.cn ?_).cn (ao.perm (by simpa using h4.symm))
   refine(ao.perm (List.Perm.swap _ _ _)).trans ?_
   refine ao.fold (B:=[_,_]) fun h hs=>⟨h,sub.refl h,entries,clock,#[],⟨entries,clock,rfl,uz⟩,fun i e x _ _=>by simp,by simp,?_⟩
   exact ei (fun _ h=>h) (fun _ h=>cW h) hs
 ·grind
 grind
theorem kU{x:Operand}{b it:Nat}{es:List (κ × Value)}{done:List κ}{key:κ}{v:Value}(i:Nat)(hd:Nat.blt d n=true)(Zp:∀a b,kv a=kv b→a=b)(hx:ev L x=some (.pointer (some ⟨it,0,none⟩)))(hi:bS H i=some (bF kv b it es (key::done)))(hv:(key,v)∈es)(h:J P f n R G S all rest k ((d,.tuple #[kv key,v])::L) H):J P f n R G S all (.cons false true ⟨some d,.entry x,ty,pos,af,gd⟩ rest) k L H :=
 gV hd (fun a w ha hw=>by
  have vI:=hw.cn (ao.perm (ct (by rw[← cK];exact hi)))
  obtain⟨hT,hO,Nc,hh,cu,h1,h2,hA,hB,V2,hj⟩:=vI
  obtain⟨entries,clock,seen,hm,N3,kG,h3,h4,oR,GZ,M7,WW⟩:=hA
  have hb:w.heap[b]?=some (.map entries clock):=cu b _ (by rw[hj b,WW b,oR b];simp)
  have G0:w.heap[it]?=some (.mapIter (some b) clock seen clock):=by
   refine cu it _ ?_
   rw[hj it,WW it,GZ it]
   rcases M7 it with e|e
   ·rw[e];simp
   ·rw[GZ it]at e;simp at e
  obtain⟨qe,zg,heq,mT,gp,nG,Fo⟩:=hm
  cases heq
  have hgm:=run_getObj_map (P:=P) hb
  have Co:(getObj it).run P w = .ok (.mapIter (some b) clock seen clock) w:=by simp[getObj,Sem.run,G0]
  obtain⟨e,he,VZ,lF⟩:=kG key rfl
  -- the cell's value
  obtain⟨j,vJ⟩:=List.getElem?_of_mem he
  have hev:e.val=v:=by
   have h6:=congrArg (·[j]?) mT
   simp only[List.getElem?_map,vJ,Option.map_some]at h6
   cases AW:es[j]? with
   | none=>rw[AW]at h6;cases h6
   | some x2 =>
    rw[AW]at h6
    simp only[Option.map_some,Option.some.injEq,Prod.mk.injEq]at h6
    have hkk:x2.1=key:=Zp _ _ (h6.1.symm.trans VZ)
    obtain⟨j2,VP⟩:=List.getElem?_of_mem hv
    have Oo:(es.map (·.1))[j]?=(es.map (·.1))[j2]? := by simp only[List.getElem?_map,AW,VP,Option.map_some,hkk]
    have h12:j=j2:=(List.getElem?_inj (by
     have:j<es.length:=by
      grind
     rw[List.length_map];exact this) gp).1 Oo
    grind
  have ZB:entries.find? (fun x=>x.born == e.born)=some e:=by
   rw[← Array.find?_toList]
   cases hf:entries.toList.find? (fun x=>x.born == e.born)with
   | none=>have:=List.find?_eq_none.1 hf e he;simp at this
   | some e2 =>
    have h1:=List.find?_some hf
    have h2:=List.mem_of_find?_eq_some hf
    simp only[beq_iff_eq]at h1
    obtain⟨j2,VP⟩:=List.getElem?_of_mem h2
    have Oo:(entries.toList.map (·.born))[j2]?=(entries.toList.map (·.born))[j]? := by simp only[List.getElem?_map,vJ,VP,Option.map_some,h1]
    have h12:j2=j:=(List.getElem?_inj (by
     have:j2<entries.toList.length:=by
      grind
     rw[List.length_map];exact this) Fo).1 Oo
    grind
  simp only[execOp,ha.ev hx,Instr.entry,Sem.run_bind,Co,hgm,Result.andThen_ok,lF,ZB,Sem.run_pure,VZ,hev,bne_self_eq_false,Bool.false_eq_true,if_false]) h
theorem n5{x:Operand}{b it:Nat}{es:List (κ × Value)}{done:List κ}(i:Nat)(hd:Nat.blt d n=true)(Zp:∀a b,kv a=kv b→a=b)(hx:ev L x=some (.pointer (some ⟨it,0,none⟩)))(hi:bS H i=some (bF kv b it es done)){Hf:κ→List HP}(hp:∀key,jk i (bF kv b it es (key::done)) H [] = .mk (Hf key))(hS0:∀w,Sat G w H→Sx rest S w)(hS:∀key w,Sat G w (Hf key)→Sx rest S w)(gR:(∀y∈es,y.1∈done)→J P f n R G S all rest k ((d,.tuple #[.bool false])::L) H)(hgo:∀key v,(key,v)∈es→key ∉ done→J P f n R G S all rest k ((d,.tuple #[.bool true,kv key,v])::L) (Hf key)) :
  J P f n R G S all (.cons false true ⟨some d,.next x false,ty,pos,af,gd⟩ rest) k L H:=by
 intro a w ha hw _
 refine .inl ⟨.inl rfl,.inr ⟨rfl,?_⟩⟩
 have vI:=hw.cn (ao.perm (ct (by rw[← cK];exact hi)))
 obtain⟨hT,hO,Nc,hh,cu,h1,h2,hA,hB,V2,hj⟩:=vI
 obtain⟨entries,clock,seen,hm,N3,_,h3,h4,oR,GZ,M7,WW⟩:=hA
 have hb:w.heap[b]?=some (.map entries clock):=cu b _ (by rw[hj b,WW b,oR b];simp)
 have G0:w.heap[it]?=some (.mapIter (some b) clock seen clock):=by
  refine cu it _ ?_
  rw[hj it,WW it,GZ it]
  rcases M7 it with e|e
  ·rw[e];simp
  ·rw[GZ it]at e;simp at e
 obtain⟨qe,zg,heq,mT,gp,nG,Fo⟩:=hm
 cases heq
 have hgm:=run_getObj_map (P:=P) hb
 have Co:(getObj it).run P w = .ok (.mapIter (some b) clock seen clock) w:=by simp[getObj,Sem.run,G0]
 have dX:(!seen.isEmpty && !entries.isEmpty && entries.all (·.born≥clock))=false:=by
  cases he:entries.isEmpty with
  | true=>simp
  | false =>
   have fy:entries.toList≠[]:=by simpa[Array.isEmpty_iff]using he
   obtain⟨e,l,pn⟩:=List.exists_cons_of_ne_nil fy
   grind
 have hold:∀(l:Array MapEntry),(∀e∈l.toList,e∈entries.toList)→l.filter (·.born<clock)=l∧l.filter (·.born≥clock) = #[]:=by
  simp_all
 have Oc:=hold (entries.filter fun e => !seen.contains e.born) (fun e he=>by simp at he;simpa using he.1)
 -- the entry that comes, if one does
 have Ze:∀e,e∈entries.toList→∃(j:Nat) (x:κ × Value),entries.toList[j]?=some e∧es[j]?=some x∧x∈es∧e.key=kv x.1∧e.val=x.2∧(seen.contains e.born=true↔x.1∈done):=by
  intro e he
  obtain⟨j,vJ⟩:=List.getElem?_of_mem he
  have h6:=congrArg (·[j]?) mT
  grind
 have YI:∀x,x∈es→∃e,e∈entries.toList∧e.key=kv x.1∧(seen.contains e.born=true↔x.1∈done):=by
  intro x2 AW
  obtain⟨j,vJ⟩:=List.getElem?_of_mem AW
  have h6:=congrArg (·[j]?) mT
  grind
 have Y2:(execOp a.eval ⟨some d,.next x false,ty,pos,af,gd⟩)=(do let v ← Instr.next (.pointer (some ⟨it,0,none⟩)) false ty;pure (.value v)):=by simp only[execOp,ha.ev hx]
 refine jP (fun c hc=>by cases hc) rfl ?_
 rw[Y2]
 simp only[Sem.run_bind,Instr.next,Co,Result.andThen_ok,hgm,dX,Bool.false_eq_true,if_false,Oc.1,Oc.2,Array.append_empty]
 by_cases uE:(entries.filter fun e => !seen.contains e.born).isEmpty=true
 ·have he:(entries.filter fun e => !seen.contains e.born) = #[]:=Array.isEmpty_iff.1 uE
  have ZH:∀y∈es,y.1∈done:=by
   intro y hy
   obtain⟨e,hem,_,M0⟩:=YI y hy
   simp_all
  have:=gR ZH
  simp only[he,Array.isEmpty_empty,if_true,Array.map_empty,Array.append_empty,Sem.run_bind,run_choose]
  simp only[Question.forced,List.size_toArray,List.length_singleton,Nat.le_refl,decide_true,if_true,Result.andThen_ok,List.getElem?_toArray,List.getElem?_cons_zero,Sem.run_pure]
  exact⟨hS0 w hw,this _ w (ha.put hd _) hw (hS0 w hw)⟩
 ·have ZF:(entries.filter fun e => !seen.contains e.born).isEmpty=false:=by simpa using uE
  obtain⟨q,w1,hq,ux,M8⟩:∃q w1,q<(entries.filter fun e => !seen.contains e.born).size∧(w1=w∨w1=w.drew) ∧
    (choose (.mapNext ((entries.filter fun e => !seen.contains e.born).map some).size)).run P w = .ok q w1:=by
   have sD:0<(entries.filter fun e => !seen.contains e.born).size:=by
    grind
   simp only[run_choose,Array.size_map]
   by_cases hf:(Question.mapNext (entries.filter fun e => !seen.contains e.born).size).forced=true
   ·exact⟨0,w,sD,.inl rfl,by rw[if_pos hf]⟩
   ·exact⟨_,w.drew,Nat.mod_lt _ sD,.inr rfl,by rw[if_neg hf];rfl⟩
  have DL:((entries.filter fun e => !seen.contains e.born).map some)[q]?=some (some (entries.filter fun e => !seen.contains e.born)[q]):=by simp[hq]
  generalize hE:(entries.filter fun e => !seen.contains e.born)[q]=e at DL
  have Oa:e∈(entries.filter fun e => !seen.contains e.born):=by rw[← hE];exact Array.getElem_mem hq
  simp only[Array.mem_filter]at Oa
  obtain⟨VH,Kp⟩:=Oa
  obtain⟨i3,x2,hi3,hx3,AW,DK,p5,Zq⟩:=Ze e (by simpa using VH)
  have abi:x2.1 ∉ done:=fun h=>by have:=Zq.2 h;rw[this]at Kp;cases Kp
  have Zy:=hgo x2.1 x2.2 AW abi
  simp only[ZF,Bool.false_eq_true,if_false,Array.empty_append,Sem.run_bind]
  rw[M8]
  have jX:(setObj it (.mapIter (some b) clock (seen.push e.born) clock)).run P w1 = .ok () { w1 with heap:=w1.heap.setIfInBounds it (.mapIter (some b) clock (seen.push e.born) clock) }:=by
   have:w1.heap[it]?=some (.mapIter (some b) clock seen clock):=by rcases ux with rfl|rfl <;> exact G0
   simp[setObj,Sem.run,this]
  simp only[Result.andThen_ok,DL,Sem.run_bind,jX,Sem.run_pure,DK,p5]
  have Kf:Sat G { w1 with heap:=w1.heap.setIfInBounds it (.mapIter (some b) clock (seen.push e.born) clock) } (Hf x2.1):=by
   have aaR:Sat G w1 (ag it (.mapIter (some b) clock seen clock)::ag b (.map entries clock)::H.eraseIdx i):=by
    have h7:Sat G w (ag it (.mapIter (some b) clock seen clock)::ag b (.map entries clock)::H.eraseIdx i):=by
     refine⟨hT,hO,Nc,hh,cu,?_⟩
     have h8:star (star (ag b (.map entries clock)) (ag it (.mapIter (some b) clock seen clock))) (Sep (H.eraseIdx i)) hh:=⟨h1,h2,⟨h3,h4,oR,GZ,M7,WW⟩,hB,V2,hj⟩
     exact wP (iZ h8)
    rcases ux with rfl|rfl
    ·exact h7
    ·exact h7.draw _
   have h9:=aaR.yA (o' := .mapIter (some b) clock (seen.push e.born) clock)
   have h10:=lX i _ _ H [] (Hf x2.1) (hp _) hi
   refine(h9.cn ?_).cn (ao.perm (by simpa using h10.symm))
   refine(ao.perm (List.Perm.swap _ _ _)).trans ?_
   refine ao.fold (B:=[_,_]) fun h hs=>⟨h,sub.refl h,entries,clock,seen.push e.born,⟨entries,clock,rfl,mT,gp,nG,Fo⟩,?_,?_,?_⟩
   ·intro i2 e2 y2 Fl MF
    have Za:=N3 i2 e2 y2 Fl MF
    simp only[Array.contains_eq_mem,Array.mem_push,decide_eq_true_eq,List.mem_cons]at Za ⊢
    constructor
    ·rintro(h|h)
     ·grind
     ·left
      -- the borns are one, so the entries are
      have Oo:(entries.toList.map (·.born))[i2]?=(entries.toList.map (·.born))[i3]? := by simp only[List.getElem?_map,Fl,hi3,Option.map_some,h]
      have h12:i2=i3:=(List.getElem?_inj (by
       have:i2<entries.toList.length:=by
        grind
       rw[List.length_map];exact this) Fo).1 Oo
      grind
    ·rintro(h|h)
     ·right
      have Oo:(es.map (·.1))[i2]?=(es.map (·.1))[i3]? := by simp only[List.getElem?_map,MF,hx3,Option.map_some,h]
      have h12:i2=i3:=(List.getElem?_inj (by
       have:i2<es.length:=by
        grind
       rw[List.length_map];exact this) gp).1 Oo
      grind
     grind
   ·grind
   ·exact ei (fun _ h=>h) (fun _ h=>cW h) hs
  exact⟨hS _ _ Kf,Zy _ _ (ha.put hd _) Kf (hS _ _ Kf)⟩
end
end Go.SL
namespace Go.SL
section
variable{P:Program}{U:Tr}[hU:er P U]{f:FuncId}{n:Nat}{R:Ending→World→Prop}{G:bY}{k:List Item}{L:dS}{H H':List HP}{S:World→Prop}{all:Array Oper}{rest:Pl}{ty:TypeId}{pos:String}{af:Array Edge}{gd:Option (Nat × Bool)}{m:Bool}{d:Tmp}
def tQ{g:FuncId}{fn:Func}{e:Array Value→Sem Value}{vs:Array Value}{w:World}(hf:P.funcs[g]?=some fn)(hb:fn.body=none)(hn:(fn.name == "runtime.NumGoroutine")=false)(DH:(Extern.findNext fn).isNone=true)(he:Extern.find fn=some e) :
  (callFunc g vs).run P w=((e vs).run P w).andThen fun v w' => .ok (.value v) w':=by
 have abf:Extern.findNext fn=none:=Option.isNone_iff_eq_none.1 DH
 simp only[callFunc,Sem.run_bind,run_program,Result.andThen_ok,hf,hn,hb,Option.isNone_none,Bool.false_eq_true,if_false,if_true,run_mark,abf,he,Sem.run_pure]
theorem BX{κ:Type}[DecidableEq κ]{kv:κ→Value}{g:FuncId}{fn:Func}{args:Array Operand}{tu:Array TypeId}{t:TypeId}{b:Nat}{es:List (κ × Value)}(i:Nat)(hd:Nat.blt d n=true)(hf:P.funcs[g]?=some fn)(hb:fn.body=none)(hn:(fn.name == "runtime.NumGoroutine")=false)(DH:(Extern.findNext fn).isNone=true)(he:Extern.find fn=some Extern.MapsClone.clone)(e9:Cr L args.toList [] = .mk [.iface t (.map (some b))])(hi:bS H i=some (aC kv b es))(hS:∀b' w,Sat G w (aC kv b' es::H)→Sx rest S w)(h:∀b',J P f n R G S all rest k ((d,.iface t (.map (some b')))::L) (aC kv b' es::H)) :
  J P f n R G S all (.cons false true ⟨some d,.call { callee := .value (.func g),args:=args,argTypes:=tu },ty,pos,af,gd⟩ rest) k L H:=by
 refine lN hd (fun u H1=>∃b',u = .iface t (.map (some b'))∧H1=aC kv b' es::H) (fun a w ha hw=>?_) ?_ ?_
 ·obtain⟨o,hm,Wb⟩:=hw.eU hi
  have A7:=hm
  obtain⟨entries,clock,rfl,mT,gp,nG,Fo⟩:=hm
  refine⟨_,{ w with heap:=w.heap.push (.map entries clock) },_,?_,⟨w.heap.size,rfl,rfl⟩,?_⟩
  ·simp only[execOp,resolve,Sem.run_bind,Act.eval,Deferred.ofValue,Sem.run_pure,Result.andThen_ok,invoke]
   rw[show(args.map fun x=>a.eval x)=args.map a.eval from rfl]at *
   have hav:=kJ ha _ _ e9
   rw[show Array.map a.eval args = #[.iface t (.map (some b))]from hav]
   simp only[Array.empty_append,Array.append_empty]
   rw[tQ hf hb hn DH he]
   have mF:Extern.MapsClone.clone #[.iface t (.map (some b))]=(getObj b >>= fun o=>match o with
     | .map entries clock=>newObj (.map entries clock) >>= fun r=>pure (.iface t (.map (some r)))
     | _=>stuck "maps.clone: a map expected"):=rfl
   rw[mF]
   simp only[Sem.run_bind,run_getObj_map Wb,Result.andThen_ok,run_newObj,Sem.run_pure]
  ·have h3:=hw.alloc (.map entries clock)
   exact h3.cn (ao.fold (B:=[_]) fun h hs=>⟨h,sub.refl h,_,A7,cW hs⟩)
 ·grind
 grind
def Lz{x:Operand}{xt t:TypeId}{bH:Ty}{v:Value}(hd:Nat.blt d n=true)(hx:ev L x=some (.iface t v))(ht:U.get t=some bH)(hni:(match bH.eH with | .interface _=>false|_=>true)=true)(h:J P f n R G S all rest k ((d,v)::L) H):J P f n R G S all (.cons m true ⟨some d,.typeAssert x xt t false,ty,pos,af,gd⟩ rest) k L H :=
 cJ hd (fun a ha w=>by
  simp only[execOp,ha.ev hx,Instr.typeAssert,Sem.run_bind,run_underlying ht,Result.andThen_ok]
  cases hu:bH.eH <;> simp_all) h
def HZ{x:Operand}{t:TypeId}{bH:Ty}{v:Value}(hd:Nat.blt d n=true)(hx:ev L x=some v)(ht:U.get t=some bH)(hni:(match bH.eH with | .interface _=>false|_=>true)=true)(h:J P f n R G S all rest k ((d,.iface t v)::L) H):J P f n R G S all (.cons m true ⟨some d,.makeInterface t x,ty,pos,af,gd⟩ rest) k L H :=
 cJ hd (fun a ha w=>by
  simp only[execOp,ha.ev hx,Instr.makeInterface,Sem.run_bind,run_underlying ht,Result.andThen_ok]
  cases hu:bH.eH <;> simp_all) h
def Row(w:World)(b:Nat):Prop:=∃l e,w.heap[b]?=some (cl l e)
theorem Ao{b1 o1 b2 o2:Nat}{w:World}(h1:Row w b1)(h2:Row w b2):(sameAddr ⟨b1,o1,none⟩ ⟨b2,o2,none⟩).run P w = .ok (decide (b1=b2∧o1=o2)) w:=by
 obtain⟨l1,e1,oR⟩:=h1
 obtain⟨l2,e2,mN⟩:=h2
 unfold sameAddr
 by_cases hb:b1=b2
 ·subst hb
  simp only[beq_self_eq_true,if_true,Sem.run_pure,true_and]
  congr 1
  grind
 ·have fy:(b1 == b2)=false:=by simpa using hb
  have f1:∀o,w.frozen? ⟨b1,o,none⟩=false:=fun o=>jv oR
  have f2:∀o,w.frozen? ⟨b2,o,none⟩=false:=fun o=>jv mN
  have s1:w.shape? b1=some (e1,l1.length):=by simp[World.shape?,oR,cl]
  have s2:w.shape? b2=some (e2,l2.length):=by simp[World.shape?,mN,cl]
  simp[fy,f1,f2,noView,viewAt,s1,s2,mayBeOne,stringish,hb]
def NM{x y:Operand}{t yt el:TypeId}{bH te:Ty}{b1 o1 b2 o2:Nat}(hd:Nat.blt d n=true)(hx:ev L x=some (.pointer (some ⟨b1,o1,none⟩)))(hy:ev L y=some (.pointer (some ⟨b2,o2,none⟩)))(ht:U.get t=some bH)(hu:bH.eH = .pointer el)(he:U.get el=some te)(iF:Nat.beq te.info.size 0=false)(h1:∀w,Sat G w H→Row w b1)(h2:∀w,Sat G w H→Row w b2)(h:J P f n R G S all rest k ((d,.bool (decide (b1=b2∧o1=o2)))::L) H):J P f n R G S all (.cons false true ⟨some d,.binOp .eql t x y yt,ty,pos,af,gd⟩ rest) k L H :=
 gV hd (fun a w ha hw=>by
  have hr:=Ao (P:=P) (o1:=o1) (o2:=o2) (h1 w hw) (h2 w hw)
  have fy:te.info.size≠0:=Nat.ne_of_beq_eq_false iF
  have heq:(Op.equal t (.pointer (some ⟨b1,o1,none⟩)) (.pointer (some ⟨b2,o2,none⟩))).run P w = .ok (decide (b1=b2∧o1=o2)) w:=by
   unfold Op.equal Op.maxDepth Op.equalIn
   simp only[Sem.run_bind,run_underlying ht,Result.andThen_ok,hu,run_sizeOf he,ne_eq,fy,not_false_eq_true,if_true,hr]
  have hg:(eqGuard .eql t x y (.pointer (some ⟨b1,o1,none⟩)) (.pointer (some ⟨b2,o2,none⟩))).run P w = .ok () w:=by simp[eqGuard]
  have hb:(binOp .eql t (.pointer (some ⟨b1,o1,none⟩)) (.pointer (some ⟨b2,o2,none⟩))).run P w = .ok (.bool (decide (b1=b2∧o1=o2))) w:=by
   simp only[binOp,Sem.run_bind,heq,Result.andThen_ok,Sem.run_pure]
  simp only[execOp,ha.ev hx,ha.ev hy,Sem.run_bind,hg,hb,Result.andThen_ok,Sem.run_pure]) h
theorem zL{x:Operand}{t elem:TypeId}{bH te:Ty}{z:Value}{b o nn cap:Nat}{l l':List Value}{e:TypeId}(i:Nat)(hS:∀w,Sat G w H'→Sx rest S w)(hx:ev L x=some (.slice (some ⟨b,o,none⟩) nn cap))(ht:U.get t=some bH)(hu:bH.eH = .slice elem)(he:U.get elem=some te)(hz:te.info.zero=some z)(Il:Nat.beq (aX z).length te.info.size=true)(fT:gr (aX z)=true)(hi:bS H i=some (ag b (cl l e)))(Bd:o+nn*te.info.size≤l.length)(Iw:l'=l.take o++(List.replicate nn (aX z)).flatten++l.drop (o+nn*te.info.size))(hp:jk i (ag b (cl l' e)) H [] = .mk H')(h:J P f n R G S all rest k L H'):J P f n R G S all (.cons false true ⟨none,.call { callee := .builtin .clear,args := #[x],argTypes := #[t] },ty,pos,af,gd⟩ rest) k L H:=by
 intro a w ha hw _
 have aaM:(aX z).length=te.info.size:=Nat.eq_of_beq_eq_true Il
 have DO:(Builtin.zeroCells z.cells nn).toList=(List.replicate nn (aX z)).flatten:=by
  have jA:z.cells.size=(aX z).length:=by rw[cN];simp
  unfold Builtin.zeroCells
  simp only[Array.toList_map,Array.toList_range,jA]
  rw[cN]
  induction nn with
  | zero=>simp
  | succ nn ih =>
   clear ih
   rw[List.replicate_succ',List.flatten_append]
   have abv:∀q,List.map (fun i=>(aX z).toArray[i%(aX z).length]!) (List.range (q*(aX z).length))=(List.replicate q (aX z)).flatten:=by
    intro q
    induction q with
    | zero=>simp
    | succ q ih =>
     rw[List.replicate_succ',List.flatten_append,← ih,Nat.succ_mul,List.range_add,List.map_append]
     congr 1
     simp only[List.map_map,List.flatten_cons,List.flatten_nil,List.append_nil]
     apply List.ext_getElem?
     intro j
     by_cases hj:j<(aX z).length
     ·simp only[List.getElem?_map,List.getElem?_range hj,Option.map_some,Function.comp]
      rw[Nat.mul_comm,Nat.mul_add_mod,Nat.mod_eq_of_lt hj]
      simp[hj]
     grind
   have:=abv (nn+1)
   rw[List.replicate_succ',List.flatten_append]at this
   exact this
 have hlen:((List.replicate nn (aX z)).flatten).length=nn*te.info.size:=by simp[aaM]
 have dD:=eO (P:=P) ((List.replicate nn (aX z)).flatten) 0 o l w (hw.qa hi) (by rw[hlen];simpa using Bd) (fun u hu=>by
  simp only[List.mem_flatten,List.mem_replicate]at hu
  obtain⟨l2,⟨_,rfl⟩,hu⟩:=hu
  exact sq fT u hu)
 simp only[Nat.add_zero,hlen,← Iw]at dD
 have hs:=hw.put hi hp
 refine .inl ⟨.inl rfl,.inr ⟨rfl,?_⟩⟩
 by_cases h0:nn=0
 ·subst h0
  have hll:l'=l:=by rw[Iw];simp
  subst hll
  have Vu:Sat G w H':=by
   have hb:=hw.qa hi
   have cq:b<w.heap.size:=by
    grind
   have Wb:w.heap[b]=cl l' e:=by rw[Array.getElem?_eq_getElem cq]at hb;exact Option.some.inj hb
   have:w.heap.setIfInBounds b (cl l' e)=w.heap:=by rw[← Wb];simp[Array.setIfInBounds,cq]
   rw[this]at hs;exact hs
  have:(execOp a.eval ⟨none,.call { callee := .builtin .clear,args := #[x],argTypes := #[t] },ty,pos,af,gd⟩).run P w = .ok (.value (.tuple #[])) w:=by
   simp[execOp,resolve,invoke,builtin,ha.ev hx,Builtin.clear_,run_underlying ht,hu]
  exact fe this ⟨hS _ Vu,h a _ ha Vu (hS _ Vu)⟩
 ·have:(execOp a.eval ⟨none,.call { callee := .builtin .clear,args := #[x],argTypes := #[t] },ty,pos,af,gd⟩).run P w = .ok (.value (.tuple #[])) { w with heap:=w.heap.setIfInBounds b (cl l' e) }:=by
   obtain⟨q,rfl⟩:∃q,nn=q+1:=⟨nn-1,ai⟩
   simp only[execOp,resolve,invoke,builtin,Sem.run_bind,Sem.run_pure,Result.andThen_ok,List.map_toArray,List.map_cons,List.map_nil,ha.ev hx,Builtin.clear_,List.getElem?_toArray,List.getElem?_cons_zero,run_underlying ht,hu,cS he hz,DO,dD]
  exact fe this ⟨hS _ hs,h a _ ha hs (hS _ hs)⟩
end
end Go.SL
namespace Go.SL
def gQ{α:Type}(p:α→Bool):List α→Int
 | [] => -1
 | x::l=>if p x then 0 else(if gQ p l<0 then -1 else gQ p l+1)
theorem E8{α:Type}(p:α→Bool)(l:List α) : -1≤gQ p l:=by
 induction l with
 | nil=>simp[gQ]
 | cons x l ih=>simp only[gQ];split;omega;split <;> omega
def gY{α:Type}{p:α→Bool}{l:List α}(h:∀x∈l,p x=false):gQ p l = -1:=by
 induction l with
 | nil=>rfl
 | cons x l ih=>simp[gQ,h x (by simp),ih (fun y hy=>h y (by simp[hy]))]
theorem gb{α:Type}{p:α→Bool}{l:List α}{i:Nat}{x:α}(hi:l[i]?=some x)(hx:p x=true)(hb:∀y∈l.take i,p y=false):gQ p l=i:=by
 induction l generalizing i with
 | nil=>simp at hi
 | cons y l ih =>
  cases i with
  | zero=>simp at hi;subst hi;simp[gQ,hx]
  | succ i =>
   grind [gQ]
theorem jW{α:Type}{p:α→Bool}{l:List α}:gQ p l<0↔l.any p=false:=by
 induction l with
 | nil=>simp[gQ]
 | cons x l ih =>
  grind [E8,gQ]
theorem Vw.cell{A:HP}{b o n cap:Nat}{cs:List Value}(h:Vw A (.slice (some ⟨b,o,none⟩) n cap) n cs){i:Nat}{c:Value}(hi:cs[i]?=some c):∀h,A h→cG h b (o+i)=some c:=by
 obtain⟨a,eX,hv,h0|⟨b',o',ha,hc⟩⟩:=h
 ·grind
 grind
def Vw.shape{A:HP}{v:Value}{n:Nat}{cs:List Value}(h:Vw A v n cs):∃a cap,v = .slice a n cap:=by
 obtain⟨a,cap,hv,_⟩:=h;exact⟨a,cap,hv⟩
theorem Vw.some{A:HP}{v:Value}{n:Nat}{cs:List Value}(h:Vw A v n cs)(h0:cs≠[]):∃b o cap,v = .slice (some ⟨b,o,none⟩) n cap:=by
 obtain⟨a,cap,hv,h1|⟨b,o,ha,hc⟩⟩:=h
 ·exact absurd h1 h0
 grind
theorem u7{bs:List UInt8}{i:Nat}{x:UInt8}(h:bs[i]?=some x):(bV bs)[i]?=some (u8 x):=by simp[bV,h]
def ao.jw(H:List HP):ao H (emp::H):=fun h hs=>⟨h,sub.refl h,dL (pM hs)⟩
def ao.join(A B:HP)(H:List HP):ao (A::B::H) (star A B::H):=fun h hs=>⟨h,sub.refl h,iN hs⟩
theorem ao.part(A B:HP)(H:List HP):ao (star A B::H) (A::B::H):=fun h hs=>⟨h,sub.refl h,iZ hs⟩
def Vw.left{A B:HP}{v:Value}{n:Nat}{cs:List Value}(h:Vw A v n cs):Vw (star A B) v n cs:=h.mono fun _ hs=>iM hs
def Vw.right{A B:HP}{v:Value}{n:Nat}{cs:List Value}(h:Vw B v n cs):Vw (star A B) v n cs:=h.mono fun _ hs=>tG hs
def Xd(x:UInt8):((x.toNat:Nat):Int)<256:=by have:=x.toNat_lt;omega
def IN{x y:UInt8}(h:(x.toNat:Int)=y.toNat):x=y:=UInt8.toNat_inj.1 ai
def eY{α β:Type}(q:α→β→Prop)(l:List α)(r:List β):Prop:=l.length=r.length∧∀(i:Nat) (x:α) (y:β),l[i]?=Option.some x→r[i]?=Option.some y→q x y
theorem eY.nil{α β:Type}{q:α→β→Prop}:eY q [] []:=⟨rfl,fun i x y h=>by simp at h⟩
theorem eY.snoc{α β:Type}{q:α→β→Prop}{l:List α}{r:List β}{x:α}{y:β}(h:eY q l r)(hq:q x y):eY q (l++[x]) (r++[y]):=by
 obtain⟨hl,ha⟩:=h
 refine⟨by simp[hl],fun i u v hu hv=>?_⟩
 grind
def eY.cons{α β:Type}{q:α→β→Prop}{l:List α}{r:List β}{x:α}{y:β}(h:eY q l r)(hq:q x y):eY q (x::l) (y::r):=by
 obtain⟨hl,ha⟩:=h
 refine⟨by simp[hl],fun i u v hu hv=>?_⟩
 cases i with
 | zero=>simp at hu hv;subst hu;subst hv;exact hq
 | succ i=>exact ha i u v (by simpa using hu) (by simpa using hv)
def eY.one{α β:Type}{q:α→β→Prop}{x:α}{y:β}(hq:q x y):eY q [x] [y]:=eY.nil.cons hq
def eY.mono{α β:Type}{q q':α→β→Prop}{l:List α}{r:List β}(h:eY q l r)(hm:∀x y,q x y→q' x y):eY q' l r:=⟨h.1,fun i x y hx hy=>hm x y (h.2 i x y hx hy)⟩
theorem eY.left{α β:Type}{q:α→β→Prop}{l:List α}{r:List β}(h:eY q l r){i:Nat}{x:α}(hi:l[i]?=Option.some x):∃y,r[i]?=Option.some y∧q x y:=by
 have cq:i<l.length:=by
  grind
 have:i<r.length:=by have:=h.1;omega
 exact⟨r[i],by simp[this],h.2 i x _ hi (by simp[this])⟩
theorem eY.right{α β:Type}{q:α→β→Prop}{l:List α}{r:List β}(h:eY q l r){i:Nat}{y:β}(hi:r[i]?=Option.some y):∃x,l[i]?=Option.some x∧q x y:=by
 have cq:i<r.length:=by
  grind
 have:i<l.length:=by have:=h.1;omega
 exact⟨l[i],by simp[this],h.2 i _ y (by simp[this]) hi⟩
theorem eY.set{α β:Type}{q:α→β→Prop}{l:List α}{r:List β}(h:eY q l r)(i:Nat){x:α}{y:β}(hq:q x y):eY q (l.set i x) (r.set i y):=by
 refine⟨by simp[h.1],fun j u v hu hv=>?_⟩
 rw[List.getElem?_set]at hu hv
 by_cases G1:i=j
 ·grind
 ·rw[if_neg G1]at hu hv;exact h.2 j u v hu hv
def ao.to{H pre rest F T:List HP}(is:List Nat)(m:Nat)(h:pU is [] H [] = .mk pre rest)(hd:rest.drop m=F)(ht:pre++F=T):ao H T:=ht ▸ ao.fin is m h hd
def bj(e:TypeId)(size:Nat)(a:Option Addr)(H:List HP):ao H (aI e size (.slice a 0 0) 0 []::H):=fun h hs=>⟨h,sub.refl h,ei (Mg e size a) (fun _ h=>h) (dL (pM hs))⟩
def eL(e:TypeId)(size b:Nat)(n cap:Nat)(cs bL:List Value)(H:List HP)(hl:cs.length=n*size)(hn:n≤cap)(hc:cap*size≤cs.length+bL.length) :
  ao (ag b (cl (cs++bL) e)::H) (aI e size (.slice (Option.some ⟨b,0,none⟩) n cap) n cs::H) :=
 ao.fold (B:=[_]) fun h hs=>⟨h,sub.refl h,hl,.inr ⟨b,0,cap,[],bL,rfl,rfl,hn,hc,cW hs⟩⟩
theorem jH{α:Type}{q:α→Prop}{l:List α}{i:Nat}{x:α}(hb:∀y∈l.take i,q y)(hi:l[i]?=Option.some x)(hx:q x):∀y∈l.take (i+1),q y:=by
 intro y hy
 have cq:i<l.length:=by
  grind
 rw[List.take_succ_eq_append_getElem cq]at hy
 grind
def AU{L:dS}:∀t v,cR ([]:dS) t=Option.some v→cR L t=Option.some v:=fun _ _ h=>by cases h
def xx{L L':dS}{t0:Nat}{v0:Value}(h:cR L t0=Option.some v0)(hr:∀t v,cR L' t=Option.some v→cR L t=Option.some v):∀t v,cR ((t0,v0)::L') t=Option.some v→cR L t=Option.some v:=by
 intro t v e
 simp only[cR]at e
 cases hb:Nat.beq t0 t with
 | true=>rw[← Nat.eq_of_beq_eq_true hb,h];simpa[hb]using e
 | false=>exact hr t v (by simpa[hb]using e)
def aL{P:Program}{f:FuncId}{n:Nat}{R:Ending→World→Prop}{G:bY}{k:List Item}{L:dS}{H:List HP}{S:World→Prop}{all:Array Oper}{rest:Pl}{e:TypeId}{size nn:Nat}{v:Value}{cs:List Value}(i:Nat)(hi:bS H i=some (aI e size v nn cs))(h:∀a c,v = .slice a nn c→J P f n R G S all rest k L H):J P f n R G S all rest k L H :=
 yl fun w hw=>by
  obtain⟨h0,_,hA⟩:=hw.jG hi
  obtain⟨_,⟨a,rfl,rfl,_⟩|⟨b,o,cap,pre,bL,rfl,_⟩⟩:=hA
  ·exact h _ _ rfl
  ·exact h _ _ rfl
def cL{P:Program}{f:FuncId}{n:Nat}{R:Ending→World→Prop}{G:bY}{k:List Item}{L:dS}{H:List HP}{e:TypeId}{size nn:Nat}{v:Value}{cs:List Value}(i:Nat)(hi:bS H i=some (aI e size v nn cs))(h:∀a c,v = .slice a nn c→K P f n R G k L H):K P f n R G k L H :=
 nY fun⟨w,hw⟩=>by
  obtain⟨h0,_,hA⟩:=hw.jG hi
  obtain⟨_,⟨a,rfl,rfl,_⟩|⟨b,o,cap,pre,bL,rfl,_⟩⟩:=hA
  ·exact h _ _ rfl
  ·exact h _ _ rfl
def ea(old:List UInt8)(at_:Nat)(b:List UInt8):List UInt8 :=
 let o:=old++List.replicate (at_+b.length-old.length) 0
 o.take at_++b++o.drop (at_+b.length)
section
variable{P:Program}{U:Tr}[hU:er P U]{f:FuncId}{n:Nat}{R:Ending→World→Prop}{G:bY}{k:List Item}{L:dS}{H H':List HP}{S:World→Prop}{all:Array Oper}{rest:Pl}{ty:TypeId}{pos:String}{af:Array Edge}{gd:Option (Nat × Bool)}{m:Bool}{d:Tmp}
def NL{e:TypeId}{sz nn:Nat}{v:Value}{cs:List Value}(i:Nat)(hi:bS H i=some (aI e sz v nn cs))(h0:0<nn)(h:∀b o c,v = .slice (some ⟨b,o,none⟩) nn c→Vw (aI e sz v nn cs) v nn cs→J P f n R G S all rest k L H):J P f n R G S all rest k L H :=
 yl fun w hw=>by
  obtain⟨h1,_,hA⟩:=hw.jG hi
  have hv:=Vw.lZ e sz v nn cs ⟨h1,hA⟩
  obtain⟨_,⟨a,rfl,rfl,_⟩|⟨b,o,cap,pre,bL,rfl,_⟩⟩:=hA
  ·omega
  ·exact h _ _ _ rfl hv
def dT{e:TypeId}{sz nn:Nat}{v:Value}{cs:List Value}(i:Nat)(hi:bS H i=some (aI e sz v nn cs))(h:Vw (aI e sz v nn cs) v nn cs→J P f n R G S all rest k L H):J P f n R G S all rest k L H :=
 yl fun w hw=>by
  obtain⟨h1,_,hA⟩:=hw.jG hi
  exact h (Vw.lZ e sz v nn cs ⟨h1,hA⟩)
def Lv{t:TypeId}{x:Operand}{b o off nn cap:Nat}{bH:Ty}{c:Value}{A:HP}{cs:List Value}(i idx:Nat)(hd:Nat.blt d n=true)(hx:ev L x=some (.pointer (some ⟨b,off,none⟩)))(hi:bS H i=some A)(hv:Vw A (.slice (some ⟨b,o,none⟩) nn cap) nn cs)(iq:off=o+idx)(hc:cs[idx]?=some c)(ht:U.get t=some bH)(hg:bH.isAgg=false)(h:J P f n R G S all rest k ((d,c)::L) H):J P f n R G S all (.cons false true ⟨some d,.load t x,ty,pos,af,gd⟩ rest) k L H :=
 s9 (U:=U) i hd (iq ▸ hx) hi (hv.cell hc) ht hg h
def H0{Hs:List HP}{t:TypeId}{x:Operand}{b o off nn cap:Nat}{bH:Ty}{c:Value}{A:HP}{cs:List Value}(i idx:Nat)(hd:Nat.blt d n=true)(hx:ev L x=some (.pointer (some ⟨b,off,none⟩)))(hi:bS Hs i=some A)(hv:Vw A (.slice (some ⟨b,o,none⟩) nn cap) nn cs)(iq:off=o+idx)(hc:cs[idx]?=some c)(ht:U.get t=some bH)(hg:bH.isAgg=false)(h:J P f n R G (fun w=>Sat G w Hs) all rest k ((d,c)::L) H):J P f n R G (fun w=>Sat G w Hs) all (.cons true true ⟨some d,.load t x,ty,pos,af,gd⟩ rest) k L H :=
 tj (U:=U) hd (iq ▸ hx) (fun w hw=>by
  obtain⟨h,hh,hA⟩:=hw.jG hi
  exact fA hh (hv.cell hc h hA)) ht hg h
theorem sV:∀(acc l:List Value),za acc l = .mk (acc.reverse++l)
 | [],l=>rfl
 | a::acc,l=>by simp only[za,sV acc (a::l)];simp
theorem EU(u:Value):∀(l acc:List Value) (off:Nat),off<l.length→k6 acc off l [u] = .mk (acc.reverse++l.set off u):=by
 intro l
 induction l with
 | nil=>intro acc off h;simp at h
 | cons y l ih =>
  intro acc off h
  cases off with
  | zero =>
   simp only[k6]
   cases l <;> simp[sV]
  | succ off=>simp only[k6];rw[ih _ _ (by simpa using h)];simp
def I4{e:TypeId}{b o c nn:Nat}{cs:List Value}:∀h,aI e 1 (.slice (some ⟨b,o,none⟩) nn c) nn cs h→0<nn→∃x:List Value × List Value,(x.1.length=o∧nn≤c∧c≤cs.length+x.2.length∧cs.length=nn)∧Sep [ag b (cl (x.1++cs++x.2) e)] h:=by
 rintro h⟨hl,⟨a,hv,rfl,_⟩|⟨b',o',cap,pre,bL,hv,hp,hn,hc,uA⟩⟩ h0
 ·omega
 ·simp only[Value.slice.injEq,Option.some.injEq,Addr.mk.injEq,and_true,true_and]at hv
  obtain⟨⟨rfl,rfl⟩,rfl⟩:=hv
  exact⟨(pre,bL),⟨hp,hn,by simpa using hc,by simpa using hl⟩,cV uA⟩
def Ga{e:TypeId}{b o c nn:Nat}{cs pre bL:List Value}(hp:pre.length=o)(hn:nn≤c)(hc:c≤cs.length+bL.length)(hl:cs.length=nn)(H:List HP) :
  ao (ag b (cl (pre++cs++bL) e)::H) (aI e 1 (.slice (some ⟨b,o,none⟩) nn c) nn cs::H) :=
 ao.fold (B:=[_]) fun h hs=>⟨h,sub.refl h,by simpa using hl,.inr ⟨b,o,c,pre,bL,rfl,hp,hn,by simpa using hc,cW hs⟩⟩
theorem Eu{t:TypeId}{x y:Operand}{b o q c nn:Nat}{bH:Ty}{u:Value}{e:TypeId}{cs:List Value}(i:Nat)(hS:∀w,Sat G w H'→Sx rest S w)(hx:ev L x=some (.pointer (some ⟨b,o+q,none⟩)))(hy:ev L y=some u)(ht:U.get t=some bH)(iF:Nat.beq bH.info.size 1=true)(hc:aX u=[u])(fT:gr [u]=true)(hi:bS H i=some (aI e 1 (.slice (some ⟨b,o,none⟩) nn c) nn cs))(hq:q<nn)(hp:jk i (aI e 1 (.slice (some ⟨b,o,none⟩) nn c) nn (cs.set q u)) H [] = .mk H')(h:J P f n R G S all rest k L H'):J P f n R G S all (.cons false true ⟨none,.store t x y,ty,pos,af,gd⟩ rest) k L H:=by
 refine aS (ao.perm (ct (by rw[← cK];exact hi))) ?_
 refine Ew (B:=fun x:List Value × List Value=>[ag b (cl (x.1++cs++x.2) e)]) (fun h hs=>I4 h hs ai) ?_
 rintro⟨pre,bL⟩⟨h1,h2,h3,h4⟩
 simp only at h1 h2 h3 h4
 have jX:(pre++cs++bL).set (o+q) u=pre++cs.set q u++bL:=by
  grind
 have hE:ao (ag b (cl (pre++cs.set q u++bL) e)::H.eraseIdx i) H':=by
  have h5:=lX i _ _ H [] H' hp hi
  exact(Ga h1 h2 (by rw[List.length_set];exact h3) (by rw[List.length_set];exact h4) _).trans (ao.perm (by simpa using h5.symm))
 refine dv (U:=U) (l':=pre++cs.set q u++bL) 0 (fun w hw=>hS w (hw.cn hE)) hx hy ht (by rw[hc,Nat.eq_of_beq_eq_true iF];rfl) (by rw[hc];rfl) (by rw[hc];exact fT) rfl ?_ rfl (aS hE h)
 grind [EU]
def F1{z:Int}(h0:0≤z)(h1:z<256):∃y:UInt8,Value.int .u8 z=u8 y:=⟨UInt8.ofNat z.toNat,by
  simp only[u8,UInt8.toNat_ofNat']
  congr 1
  omega⟩
end
def aq.post{P:Program}{f:FuncId}{args:List Value}{Pre:List HP}{Post sr:Value→List HP→Prop}(c:aq P f args Pre Post)(h:∀v H,Post v H→sr v H):aq P f args Pre sr :=
 ⟨c.1,fun G w F hw=>(c.2 G w F hw).mono fun e w' h'=>let ⟨v,H,he,hp,hs⟩:=h';⟨v,H,he,h v H hp,hs⟩⟩
def aq.pre{P:Program}{f:FuncId}{args:List Value}{Pre Lb:List HP}{Post:Value→List HP→Prop}(c:aq P f args Pre Post)(h:ao Lb Pre):aq P f args Lb Post :=
 ⟨c.1,fun G w F hw=>c.2 G w F (hw.cn (ao.append F h))⟩
structure WC(A:Prop):Prop where
 out:A
def bQ{p:Prop}(h:p:=by repeat(first|exact AU|refine xx rfl ?_)):p:=h
end Go.SL
namespace Go.SL
section
variable{P:Program}{U:Tr}[hU:er P U]{f:FuncId}{n:Nat}{R:Ending→World→Prop}{G:bY}{k:List Item}{L:dS}{H H':List HP}{S:World→Prop}{all:Array Oper}{rest:Pl}{ty:TypeId}{pos:String}{af:Array Edge}{gd:Option (Nat × Bool)}{m:Bool}{d:Tmp}
def vt{t:TypeId}{x:Operand}{b off:Nat}{bH:Ty}{cs:List Value}(hd:Nat.blt d n=true)(hx:ev L x=some (.pointer (some ⟨b,off,none⟩)))(ht:U.get t=some bH)(hg:bH.isAgg=true)(hl:Nat.beq cs.length bH.info.size=true)(hc:∀w,Sat G w H→∀j v,cs[j]?=some v→w.cell? ⟨b,off+j,none⟩=some v)(h:J P f n R G S all rest k ((d,.agg cs.toArray)::L) H):J P f n R G S all (.cons false true ⟨some d,.load t x,ty,pos,af,gd⟩ rest) k L H :=
 gV hd (fun a w ha hw=>by
  simp[execOp,ha.ev hx,fK (P:=P) ht hg (Nat.eq_of_beq_eq_true hl) (hc w hw)]) h
def bW{t:TypeId}{x:Operand}{b o off nn cap:Nat}{bH:Ty}{es cs:List Value}{A:HP}(i idx:Nat)(hd:Nat.blt d n=true)(hx:ev L x=some (.pointer (some ⟨b,off,none⟩)))(hi:bS H i=some A)(hv:Vw A (.slice (some ⟨b,o,none⟩) nn cap) nn cs)(iq:off=o+idx)(mT:∀j v,es[j]?=some v→cs[idx+j]?=some v)(ht:U.get t=some bH)(hg:bH.isAgg=true)(hl:Nat.beq es.length bH.info.size=true)(h:J P f n R G S all rest k ((d,.agg es.toArray)::L) H):J P f n R G S all (.cons false true ⟨some d,.load t x,ty,pos,af,gd⟩ rest) k L H :=
 vt (U:=U) hd hx ht hg hl (fun w hw j v hj=>by
  obtain⟨h,hh,hA⟩:=hw.jG hi
  have:=hv.cell (mT j v hj) h hA
  rw[iq,show o+idx+j=o+(idx+j) by omega]
  exact fA hh this) h
theorem Gh:∀(l vs acc:List Value) (off:Nat),off+vs.length≤l.length→k6 acc off l vs = .mk (acc.reverse++(l.take off++vs++l.drop (off+vs.length))):=by
 intro l
 induction l with
 | nil =>
  intro vs acc off h
  simp only[List.length_nil]at h
  grind [k6,sV]
 | cons y l ih =>
  intro vs acc off h
  cases vs with
  | nil=>cases off <;> simp[k6,sV]
  | cons v vs =>
   cases off with
   | zero =>
    grind [k6]
   | succ off =>
    grind [k6]
def j9{t:TypeId}{x y:Operand}{b off:Nat}{bH:Ty}{l l':List Value}{e:TypeId}{v:Value}(i:Nat)(hS:∀w,Sat G w H'→Sx rest S w)(hx:ev L x=some (.pointer (some ⟨b,off,none⟩)))(hy:ev L y=some v)(ht:U.get t=some bH)(iF:Nat.beq (aX v).length bH.info.size=true)(fy:Nat.beq (aX v).length 0=false)(fT:gr (aX v)=true)(hi:bS H i=some (ag b (cl l e)))(Bd:off+(aX v).length≤l.length)(hl:l'=l.take off++aX v++l.drop (off+(aX v).length))(hp:jk i (ag b (cl l' e)) H [] = .mk H')(h:J P f n R G S all rest k L H'):J P f n R G S all (.cons false true ⟨none,.store t x y,ty,pos,af,gd⟩ rest) k L H :=
 dv (U:=U) i hS hx hy ht iF fy fT hi (by rw[Gh _ _ _ _ Bd,hl];rfl) hp h
theorem pq{e:TypeId}{sz nn:Nat}{v:Value}{cs:List Value}{H:List HP}(h0:∀a,v = .slice a 0 0→nn=0→cs=[]→K P f n R G k L H)(h1:∀b o c pre bL,v = .slice (some ⟨b,o,none⟩) nn c→pre.length=o→nn≤c→c*sz≤cs.length+bL.length→cs.length=nn*sz→K P f n R G k L (ag b (cl (pre++cs++bL) e)::H)) :
  K P f n R G k L (aI e sz v nn cs::H):=by
 intro a w ha hw
 obtain⟨t,o,u,hp,zU,hA,hB,⟨hl,gB⟩,Hd,hd,he⟩:=hw
 rcases gB with⟨a0,hv,hn,uE⟩|⟨b,oo,cap,pre,bL,hv,jq,hn,hc,uA⟩
 ·refine h0 a0 hv hn (List.eq_nil_of_length_eq_zero (by rw[hl,hn];simp)) a w ha ⟨t,o,u,hB,fun x y GL=>?_,Hd⟩
  grind
 ·exact h1 b oo cap pre bL hv jq hn hc hl a w ha ⟨t,o,u,hp,zU,hA,hB,uA,Hd,hd,he⟩
end
theorem ck{α:Type}{g:α→List Value}{s:Nat}(hs:∀x,(g x).length=s){l:List α}{i:Nat}{x:α}(h:l[i]?=some x)(j:Nat)(hj:j<s):(l.flatMap g)[i*s+j]?=(g x)[j]? := by
 induction l generalizing i with
 | nil=>simp at h
 | cons y l ih =>
  have hy:=hs y
  rw[List.flatMap_cons]
  cases i with
  | zero=>simp at h;subst h;rw[List.getElem?_append_left ai];simp
  | succ i =>
   grind
def bI{α:Type}{g:α→List Value}{s:Nat}(hs:∀x,(g x).length=s)(l:List α):(l.flatMap g).length=l.length*s:=by
 induction l with
 | nil=>simp
 | cons y l ih=>rw[List.flatMap_cons,List.length_append,ih,hs,List.length_cons,Nat.add_mul,Nat.one_mul];omega
theorem xV{α:Type}{g:α→List Value}{s:Nat}(hs:∀x,(g x).length=s){l:List α}{i:Nat}(hi:i<l.length)(x:α):(l.set i x).flatMap g=(l.flatMap g).take (i*s)++g x++(l.flatMap g).drop (i*s+s):=by
 induction l generalizing i with
 | nil=>simp at hi
 | cons y l ih =>
  have hy:=hs y
  cases i with
  | zero =>
   grind
  | succ i =>
   have e:(i+1)*s=s+i*s:=by rw[Nat.add_mul,Nat.one_mul];omega
   rw[List.set_cons_succ,List.flatMap_cons,List.flatMap_cons,ih (by simpa using hi),e,← hy,List.take_length_add_append,show(g y).length+i*(g y).length+(g y).length=(g y).length+(i*(g y).length+(g y).length) by omega,List.drop_length_add_append]
   simp
def gN{e:TypeId}{sz b o c nn:Nat}{cs pre bL:List Value}(hp:pre.length=o)(hn:nn≤c)(hc:c*sz≤cs.length+bL.length)(hl:cs.length=nn*sz)(H:List HP) :
  ao (ag b (cl (pre++cs++bL) e)::H) (aI e sz (.slice (some ⟨b,o,none⟩) nn c) nn cs::H) :=
 ao.fold (B:=[_]) fun h hs=>⟨h,sub.refl h,hl,.inr ⟨b,o,c,pre,bL,rfl,hp,hn,hc,cW hs⟩⟩
theorem ph{α:Type}{p:α→Bool}{l:List α}(h:¬gQ p l = -1):∃(i:Nat) (x:α),gQ p l=i∧l[i]?=Option.some x∧p x=true∧∀y∈l.take i,p y=false:=by
 have hex:∃(i:Nat) (x:α),l[i]?=Option.some x∧p x=true∧∀y∈l.take i,p y=false:=by
  have mO:l.any p=true:=by
   cases ha:l.any p with
   | true=>rfl
   | false =>
    have h1:=jW.2 ha
    have h2:=E8 p l
    omega
  clear h
  induction l with
  | nil=>simp at mO
  | cons y l ih =>
   cases hy:p y with
   | true=>exact⟨0,y,by simp,hy,by simp⟩
   | false =>
    simp only[List.any_cons,hy,Bool.false_or]at mO
    obtain⟨i,x,h1,h2,h3⟩:=ih mO
    refine⟨i+1,x,by simpa using h1,h2,fun z hz=>?_⟩
    grind
 grind [gb]
theorem oX(pre W bL vs:List Value)(q:Nat)(h:q+vs.length≤W.length):(pre++W++bL).take (pre.length+q)++vs++(pre++W++bL).drop (pre.length+q+vs.length)=pre++(W.take q++vs++W.drop (q+vs.length))++bL:=by
 rw[List.append_assoc pre W bL,List.take_length_add_append,Nat.add_assoc,List.drop_length_add_append,List.take_append_of_le_length ai,List.drop_append_of_le_length ai]
 grind
theorem po{α:Type}{g:α→List Value}{s:Nat}(hs:∀x,(g x).length=s)(l:List α)(i:Nat)(hi:i≤l.length):(l.take i).flatMap g=(l.flatMap g).take (i*s):=by
 have h1:l.flatMap g=(l.take i).flatMap g++(l.drop i).flatMap g:=by rw[← List.flatMap_append,List.take_append_drop]
 have h2:((l.take i).flatMap g).length=i*s:=by rw[bI hs,List.length_take,Nat.min_eq_left hi]
 grind
theorem iu(n:Nat)(x:List Value):(List.replicate n x).flatten.length=n*x.length:=by
 simp_all
end Go.SL
namespace Go.SL
def ofInt64(x:Int):(BitVec.ofInt IntKind.i64.bits x).toNat=(x%18446744073709551616).toNat:=by
 rw[BitVec.toNat_ofInt];rfl
def ke:Nat→Nat→Pt→Pt
 | _,0,p=>p
 | i,n+1,p => .st i (ke (i+1) n p)
def me(n:Nat):Value.int .u8 (IntKind.u8.wrap (n:Int))=u8 (UInt8.ofNat n):=by
 have h:IntKind.u8.wrap (n:Int)=(n:Int)%256:=by simp[IntKind.wrap,IntKind.bits,IntKind.signed]
 rw[h]
 simp only[u8,UInt8.toNat_ofNat']
 congr 1
theorem yO{a c k:Nat}(ha:a<2 ^ k):a ||| c*2 ^ k=a+c*2 ^ k:=by
 have:=Nat.shiftLeft_add_eq_or_of_lt ha c
 rw[Nat.shiftLeft_eq]at this
 grind
theorem yS{a:Nat}(h:a<18446744073709551616):(BitVec.ofInt IntKind.i64.bits (a:Int)).toNat=a:=by
 rw[ofInt64];omega
def pW{a:Nat}(h:a<18446744073709551616):(BitVec.ofInt IntKind.u64.bits (a:Int)).toNat=a:=by
 rw[BitVec.toNat_ofInt]
 show((a:Int)%18446744073709551616).toNat=a
 omega
theorem sO{a:Nat}(h:a<256):(BitVec.ofInt IntKind.u8.bits (a:Int)).toNat=a:=by
 rw[BitVec.toNat_ofInt]
 show((a:Int)%256).toNat=a
 omega
theorem C5{a c k:Nat}(ha:a<2 ^ k)(h:a+c*2 ^ k<9223372036854775808) :
  IntKind.i64.wrap ((BitVec.ofInt IntKind.i64.bits (a:Int) ||| BitVec.ofInt IntKind.i64.bits ((c*2 ^ k:Nat):Int)).toNat:Int)=((a+c*2 ^ k:Nat):Int):=by
 rw[BitVec.toNat_or,yS ai,yS ai,yO ha]
 grind [cT,gm]
theorem Vb{a c k:Nat}(ha:a<2 ^ k)(h:a+c*2 ^ k<18446744073709551616) :
  IntKind.u64.wrap ((BitVec.ofInt IntKind.u64.bits (a:Int) ||| BitVec.ofInt IntKind.u64.bits ((c*2 ^ k:Nat):Int)).toNat:Int)=((a+c*2 ^ k:Nat):Int):=by
 rw[BitVec.toNat_or,pW ai,pW ai,yO ha]
 grind [cT,gm]
set_option maxRecDepth 10000 in
theorem JF(x:Nat)(hx:x<256):IntKind.u8.wrap ((BitVec.ofInt IntKind.u8.bits (x:Int) ||| BitVec.ofInt IntKind.u8.bits 128).toNat:Int)=((x%128+128:Nat):Int):=by
 have e2:(BitVec.ofInt IntKind.u8.bits (128:Int)).toNat=128:=by decide
 have h:∀y,y<256→y ||| 128=y%128+128:=by decide
 grind [sO,cT,gm]
theorem zp(x:Nat)(hx:x<256):IntKind.u8.wrap ((BitVec.ofInt IntKind.u8.bits (x:Int) &&& ~~~ BitVec.ofInt IntKind.u8.bits 128).toNat:Int)=((x%128:Nat):Int):=by
 have e2:(~~~ BitVec.ofInt IntKind.u8.bits (128:Int)).toNat=2 ^ 7-1:=by decide
 rw[BitVec.toNat_and,sO hx,e2,Nat.and_two_pow_sub_one_eq_mod]
 grind [cT,gm]
theorem qg(x n:Nat)(hx:x<18446744073709551616)(hn:n<64):IntKind.u64.wrap ((BitVec.ofInt IntKind.u64.bits (x:Int) &&& BitVec.ofInt IntKind.u64.bits ((2 ^ n-1:Nat):Int)).toNat:Int)=((x%2 ^ n:Nat):Int):=by
 have hp:2 ^ n<2 ^ 64:=Nat.pow_lt_pow_right ai hn
 have sD:0<2 ^ n:=Nat.pow_pos ai
 rw[BitVec.toNat_and,pW hx,pW ai,Nat.and_two_pow_sub_one_eq_mod]
 have cq:x%2 ^ n<18446744073709551616:=Nat.lt_of_le_of_lt (Nat.mod_le _ _) hx
 grind [cT,gm]
def AS(n:Nat):List UInt8:=[UInt8.ofNat n,UInt8.ofNat (n/256),UInt8.ofNat (n/65536),UInt8.ofNat (n/16777216)]
def ow(b:List UInt8):Nat:=(b.getD 0 0).toNat+(b.getD 1 0).toNat*256+(b.getD 2 0).toNat*65536+(b.getD 3 0).toNat*16777216
def yV(n:Nat):(AS n).length=4:=rfl
theorem J1(b:List UInt8):ow b<4294967296:=by
 unfold ow
 have h:∀x:UInt8,x.toNat<256:=fun x=>x.toNat_lt
 grind
end Go.SL
namespace Go.SL
open Go
def ao.jQ{H H' rest:List HP}{A:HP}(i:Nat)(h:JL i H [] = .mk A rest)(hr:ao rest H'):ao H (A::H') :=
 (ao.perm (by simpa using xk i H [] A rest h)).trans (ao.cons A hr)
def ao.NR(H:List HP):ao H []:=fun h hs=>⟨fun _=>none,⟨fun b o e=>(by cases e),fun _=>rfl⟩⟩
def ah{H H':List HP}(h:ao H H':=by(repeat'(first|exact ao.refl _|exact ao.NR _|refine ao.jQ 0 rfl ?_|refine ao.jQ 1 rfl ?_|refine ao.jQ 2 rfl ?_|refine ao.jQ 3 rfl ?_|refine ao.jQ 4 rfl ?_|refine ao.jQ 5 rfl ?_|refine ao.jQ 6 rfl ?_|refine ao.jQ 7 rfl ?_|refine ao.jQ 8 rfl ?_|refine ao.jQ 9 rfl ?_|refine ao.jQ 10 rfl ?_|refine ao.jQ 11 rfl ?_|refine ao.jQ 12 rfl ?_|refine ao.jQ 13 rfl ?_|refine ao.jQ 14 rfl ?_|refine(ao.drop _ _).trans ?_))):ao H H':=h
section
variable{P:Program}{f:FuncId}{n:Nat}{R:Ending→World→Prop}{G:bY}{k:List Item}{L:dS}{H:List HP}{S:World→Prop}{all:Array Oper}{rest:Pl}{d:Tmp}{ty:TypeId}{pos:String}{af:Array Edge}{gd:Option (Nat × Bool)}
def cP{fo:Operand}{args:Array Operand}{tu:Array TypeId}{g:FuncId}{cap:Array Value}{vs:List Value}{Pre Fr:List HP}{Post:Value→List HP→Prop}(hd:Nat.blt d n=true)(hf:ev L fo=some (.func (.func g) #[] cap))(e9:Cr L args.toList [] = .mk vs){zo:List Value}(has:zo=vs++cap.toList)(c:aq P g zo Pre Post)(he:ao H (Pre++Fr))(h:∀v H',Post v H'→J P f n R G S all rest k ((d,v)::L) (H'++Fr))(hS:∀v H' w,Post v H'→Sat G w (H'++Fr)→Sx rest S w) :
  J P f n R G S all (.cons false true ⟨some d,.call { callee := .value fo,args:=args,argTypes:=tu },ty,pos,af,gd⟩ rest) k L H:=by
 intro a w ha hw _
 refine .inl ⟨.inl rfl,.inr ⟨rfl,?_⟩⟩
 have hr:(execOp a.eval ⟨some d,.call { callee := .value fo,args:=args,argTypes:=tu },ty,pos,af,gd⟩).run P w = .ok (.enter g zo.toArray) w:=by
  simp only[execOp,resolve,Sem.run_bind,ha.ev hf,Deferred.ofValue,Sem.run_pure,Result.andThen_ok,invoke]
  rw[jD c.1,kJ ha.1 _ _ e9,has]
  congr 2
  simp
 refine qG (fun c hc=>by cases hc) hr (Calls.mono (c.2 G w Fr (hw.cn he)) ?_)
 rintro e w'⟨v,H',rfl,dE,kF⟩
 exact⟨v,rfl,hS v H' w' dE kF,h v H' dE _ w' (ha.put hd v) kF (hS v H' w' dE kF)⟩
def tqg{p:Prop}(h:p:=by(intro _ _ w hp hw;(first|(obtain rfl:=hp;exact hw.cn ah)|(obtain⟨rfl,rfl⟩:=hp;exact hw.cn ah)|(obtain⟨_,rfl⟩:=hp;exact hw.cn ah)|(obtain⟨_,_,rfl,_⟩:=hp;exact hw.cn ah)|(obtain⟨_,_,rfl⟩:=hp;exact hw.cn ah)|(obtain⟨_,_,rfl,rfl⟩:=hp;exact hw.cn ah)|(obtain⟨_,rfl,rfl⟩:=hp;exact hw.cn ah)|(obtain⟨_,_,_,rfl,_,rfl⟩:=hp;exact hw.cn ah)|(obtain⟨_,_,_,rfl,rfl⟩:=hp;exact hw.cn ah)|(obtain⟨_,_,_,_,_,rfl,rfl⟩:=hp;exact hw.cn ah)))):p:=h
def dx{fo:Operand}{args:Array Operand}{tu:Array TypeId}{g:FuncId}{cap:Array Value}{vs:List Value}{Pre Fr:List HP}{Post:Value→List HP→Prop}{zo:List Value}(c:aq P g zo Pre Post)(h:∀v H',Post v H'→J P f n R G S all rest k ((d,v)::L) (H'++Fr))(hd:Nat.blt d n=true:=by exact rfl)(hf:ev L fo=some (.func (.func g) #[] cap):=by exact rfl)(e9:Cr L args.toList [] = .mk vs:=by exact rfl)(has:zo=vs++cap.toList:=by exact rfl)(he:ao H (Pre++Fr):=by exact ah)(hS:∀v H' w,Post v H'→Sat G w (H'++Fr)→Sx rest S w:=by exact tqg) :
    J P f n R G S all (.cons false true ⟨some d,.call { callee := .value fo,args:=args,argTypes:=tu },ty,pos,af,gd⟩ rest) k L H:=cP hd hf e9 has c he h hS
def ab8{p:Prop}[Decidable p](t:Nat)(h:J P f n R G S all rest k ((t,.bool true)::L) H)(hb:cR L t=some (.bool (decide p)):=by exact rfl)(hp:p:=by omega):J P f n R G S all rest k L H:=aD t _ hb (congrArg Value.bool (decide_eq_true hp)) h
def ab9{p:Prop}[Decidable p](t:Nat)(h:J P f n R G S all rest k ((t,.bool false)::L) H)(hb:cR L t=some (.bool (decide p)):=by exact rfl)(hp:¬p:=by omega):J P f n R G S all rest k L H:=aD t _ hb (congrArg Value.bool (decide_eq_false hp)) h
def ab6{p:Prop}[Decidable p](t:Nat)(h:K P f n R G k ((t,.bool true)::L) H)(hb:cR L t=some (.bool (decide p)):=by exact rfl)(hp:p:=by omega):K P f n R G k L H:=aV t _ hb (congrArg Value.bool (decide_eq_true hp)) h
def ab7{p:Prop}[Decidable p](t:Nat)(h:K P f n R G k ((t,.bool false)::L) H)(hb:cR L t=some (.bool (decide p)):=by exact rfl)(hp:¬p:=by omega):K P f n R G k L H:=aV t _ hb (congrArg Value.bool (decide_eq_false hp)) h
def aav{k0:List Item}{id:Nat}{ops:Array Oper}(Hs:List HP)(cZ:Pt)(h:J P f n R G (fun w=>Sat G w Hs) ops (db ops cZ) k L H)(hk:fz 1000 k0 = .mk (.code (.region id ops true)::k):=by exact rfl)(hm:P.follows .mixedOrders=true:=by exact ae)(LX:Region.noSelect ops=true:=by exact ae)(hp:(xo ops && (Nat.ble cZ.depth ops.size && da ops true cZ (Array.replicate ops.size false)))=true:=by exact ae)(hS:∀w,Sat G w H→Sat G w Hs:=by(intro w hw;exact hw.cn ah)):K P f n R G k0 L H:=aJ _ cZ hk hm LX hp hS h
def aF{fo:Operand}{args:Array Operand}{tu:Array TypeId}{g:FuncId}{cap:Array Value}{vs:List Value}{Pre Fr:List HP}{Post:Value→List HP→Prop}{zo:List Value}(c:aq P g zo Pre Post)(h:∀v H',Post v H'→J P f n R G S all rest k ((d,v)::L) (H'++Fr))(hd:Nat.blt d n=true:=by exact rfl)(hf:ev L fo=some (.func (.func g) #[] cap):=by exact rfl)(e9:Cr L args.toList [] = .mk vs:=by exact rfl)(has:zo=vs++cap.toList:=by exact rfl)(he:ao H (Pre++Fr):=by exact ah)(hS:∀v H' w,Post v H'→Sat G w (H'++Fr)→Sx rest S w:=by exact fun _ _ _ _ _=>trivial) :
    J P f n R G S all (.cons false true ⟨some d,.call { callee := .value fo,args:=args,argTypes:=tu },ty,pos,af,gd⟩ rest) k L H:=cP hd hf e9 has c he h hS
def aw{fo:Operand}{args:Array Operand}{tu:Array TypeId}{g:FuncId}{cap:Array Value}{vs:List Value}{Pre Fr Hx:List HP}{Post:Value→List HP→Prop}{v:Value}{zo:List Value}(c:aq P g zo Pre Post)(h:J P f n R G S all rest k ((d,v)::L) (Hx++Fr))(hd:Nat.blt d n=true:=by exact rfl)(hf:ev L fo=some (.func (.func g) #[] cap):=by exact rfl)(e9:Cr L args.toList [] = .mk vs:=by exact rfl)(has:zo=vs++cap.toList:=by exact rfl)(he:ao H (Pre++Fr):=by exact ah)(hq:∀r H,Post r H→r=v∧H=Hx:=by(intro _ _ q;obtain⟨rfl,rfl⟩:=q;exact⟨rfl,rfl⟩))(hS:∀v' H' w,Post v' H'→Sat G w (H'++Fr)→Sx rest S w:=by exact fun _ _ _ _ _=>trivial) :
    J P f n R G S all (.cons false true ⟨some d,.call { callee := .value fo,args:=args,argTypes:=tu },ty,pos,af,gd⟩ rest) k L H:=cP hd hf e9 has c he (fun _ _ q=>by obtain⟨rfl,rfl⟩:=hq _ _ q;exact h) hS
def bP{fo:Operand}{args:Array Operand}{tu:Array TypeId}{g:FuncId}{cap:Array Value}{vs:List Value}{Pre Fr Hx:List HP}{Post:Value→List HP→Prop}{v:Value}{zo:List Value}(c:aq P g zo Pre Post)(h:J P f n R G S all rest k ((d,v)::L) (Hx++Fr))(hd:Nat.blt d n=true:=by exact rfl)(hf:ev L fo=some (.func (.func g) #[] cap):=by exact rfl)(e9:Cr L args.toList [] = .mk vs:=by exact rfl)(has:zo=vs++cap.toList:=by exact rfl)(he:ao H (Pre++Fr):=by exact ah)(hq:∀r H,Post r H→r=v∧H=Hx:=by(intro _ _ q;obtain⟨rfl,rfl⟩:=q;exact⟨rfl,rfl⟩))(hS:∀w,Sat G w (Hx++Fr)→Sx rest S w:=by(intro w hw;exact hw.cn ah)) :
    J P f n R G S all (.cons false true ⟨some d,.call { callee := .value fo,args:=args,argTypes:=tu },ty,pos,af,gd⟩ rest) k L H:=cP hd hf e9 has c he (fun _ _ q=>by obtain⟨rfl,rfl⟩:=hq _ _ q;exact h) (fun _ _ w q hw=>by obtain⟨rfl,rfl⟩:=hq _ _ q;exact hS w hw)
def ad{k k0:List Item}{fn:Func}{F:List HP}{Post:Value→List HP→Prop}(hR:Ends R G F Post)(hf:P.funcs[f]?=some fn)(hk:fz 1000 k0 = .mk (.code .ret::k)){vs:List Value}(hr:vP L fn.results.toList [] = .mk vs){Hq:List HP}(hp:Post (dz vs) Hq)(he:ao H (Hq++F):=by exact ah):K P f n R G k0 L H:=aG hR hf hk vs hr hp he
def aq.aj{fn:Func}{c:Code}{args:List Value}{Pre:List HP}{Post:Value→List HP→Prop}(hf:P.funcs[f]?=some fn)(hn:fn.ntmps=n)(h:∀G F R,Ends R G F Post→K P f n R G [.code c] L (Pre++F))(hc:ix fn=true:=by exact ae)(hb:fn.body=some c:=by exact rfl)(hp:JE 0 args [] = .mk L:=by exact rfl)(hlen:Nat.ble args.length n=true:=by exact rfl):aq P f args Pre Post:=aq.enter hf hc hb hn hp hlen h
def yk{k0 k':List Item}{α:Type}(m:Nat)(I:α→Prop)(Lf:α→dS)(Hf:α→List HP)(hk:fz 1000 (k0.drop m) = .mk k')(tail:∀y,I y→K P f n R G k' (Lf y) (Hf y))(h:(∀y,I y→K P f n R G k' (Lf y) (Hf y))→K P f n R G k0 L H):K P f n R G k0 L H:=h tail
def ml{k0 k':List Item}{α:Type}{I:α→Prop}{Lf:α→dS}{Hf:α→List HP}(ih:∀y,I y→K P f n R G k' (Lf y) (Hf y))(y:α)(hk:fz 1000 k0 = .mk k')(hI:I y)(hL:∀t v,cR (Lf y) t=some v→cR L t=some v)(hH:ao H (Hf y)):K P f n R G k0 L H:=eF 1000 hk (FL hL (ak hH (ih y hI)))
def gT{k0 k':List Item}(hk:fz 1000 k0 = .mk k')(h:K P f n R G k' L H):K P f n R G k0 L H:=eF 1000 hk h
end
def cY{p:Prop}(h:p:=by(intro w hw;exact hw.cn ah)):p:=h
def tqh{p:Prop}(h:p:=by(intro _ _ w hp hw;obtain⟨rfl,rfl⟩:=hp;exact hw.cn ah)):p:=h
end Go.SL
namespace Go.SL
open Go
section
variable{P:Program}{U:Tr}[hU:er P U]{f:FuncId}{n:Nat}{R:Ending→World→Prop}{G:bY}{k:List Item}{L:dS}{H:List HP}{S:World→Prop}{all:Array Oper}{rest:Pl}{d:Tmp}{ty:TypeId}{pos:String}{af:Array Edge}{gd:Option (Nat × Bool)}{m:Bool}
theorem iC{fo:Operand}{args:Array Operand}{tu:Array TypeId}{g:FuncId}{fi cap:Array Value}{vs:List Value}{Pre Fr:List HP}{Post:Value→List HP→Prop}(hd:Nat.blt d n=true)(hf:ev L fo=some (.func (.func g) fi cap))(e9:Cr L args.toList [] = .mk vs){zo:List Value}(has:zo=fi.toList++vs++cap.toList)(c:aq P g zo Pre Post)(he:ao H (Pre++Fr))(h:∀v H',Post v H'→J P f n R G S all rest k ((d,v)::L) (H'++Fr))(hS:∀v H' w,Post v H'→Sat G w (H'++Fr)→Sx rest S w) :
  J P f n R G S all (.cons false true ⟨some d,.call { callee := .value fo,args:=args,argTypes:=tu },ty,pos,af,gd⟩ rest) k L H:=by
 intro a w ha hw _
 refine .inl ⟨.inl rfl,.inr ⟨rfl,?_⟩⟩
 have hr:(execOp a.eval ⟨some d,.call { callee := .value fo,args:=args,argTypes:=tu },ty,pos,af,gd⟩).run P w = .ok (.enter g zo.toArray) w:=by
  simp only[execOp,resolve,Sem.run_bind,ha.ev hf,Deferred.ofValue,Sem.run_pure,Result.andThen_ok,invoke]
  rw[jD c.1,kJ ha.1 _ _ e9,has]
  congr 2
  grind
 refine qG (fun c hc=>by cases hc) hr (Calls.mono (c.2 G w Fr (hw.cn he)) ?_)
 rintro e w'⟨v,H',rfl,dE,kF⟩
 exact⟨v,rfl,hS v H' w' dE kF,h v H' dE _ w' (ha.put hd v) kF (hS v H' w' dE kF)⟩
def vo{t yt:TypeId}{x y:Operand}{p q:ByteArray}(hd:Nat.blt d n=true)(hx:ev L x=some (.string p))(hy:ev L y=some (.string q))(hr:p.size+q.size≤9223372036854775807)(h:J P f n R G S all rest k ((d,.string (p++q))::L) H):J P f n R G S all (.cons m true ⟨some d,.binOp .add t x y yt,ty,pos,af,gd⟩ rest) k L H :=
  cJ hd (fun a ha w=>by
    have h0 : ¬ (((p.size + q.size : Nat) : Int) > IntKind.i64.max) := by have : IntKind.i64.max = 9223372036854775807 := by decide
                                                                          omega
    simp only[execOp,ha.ev hx,ha.ev hy,eqGuard,Sem.run_bind,Sem.run_pure,Result.andThen_ok,binOp_string_add,Op.stringOp]
    rw[if_neg h0]
    rfl) h
theorem zK{g:FuncId}{fn:Func}{args:Array Operand}{tu:Array TypeId}{t elem:TypeId}{bH:Ty}{q:Nat}(hd:Nat.blt d n=true)(hf:P.funcs[g]?=some fn)(hb:fn.body=none)(hn:(fn.name == "runtime.NumGoroutine")=false)(DH:(Extern.findNext fn).isNone=true)(he:Extern.find fn=some (Extern.BytealgMakeNoZero.makeNoZero fn.params #[t]))(ht:U.get t=some bH)(hu:bH.eH = .slice elem)(e9:Cr L args.toList [] = .mk [.int .i64 (q:Int)])(hq:q≤281474976710656)(hS:∀b l w,Sat G w (ag b (cl l elem)::H)→Sx rest S w)(h:∀b c l,q≤c→List.length l=c→J P f n R G S all rest k ((d,.slice (some ⟨b,0,none⟩) q c)::L) (ag b (cl l elem)::H)) :
  J P f n R G S all (.cons false true ⟨some d,.call { callee := .value (.func g),args:=args,argTypes:=tu },ty,pos,af,gd⟩ rest) k L H:=by
 refine lN hd (fun u H1=>∃b c l,(q≤c∧List.length l=c)∧u = .slice (some ⟨b,0,none⟩) q c∧H1=ag b (cl l elem)::H) (fun a w ha hw=>?_) ?_ ?_
 ·have hav:=kJ ha _ _ e9
  obtain⟨cs,hr,h1,_⟩:=Lib.run_makeNoZero (P:=P) w fn.params t elem (by rw[← hu];exact ib ht) q hq
  have NZ:Sat G w.drew.drew H:=(hw.draw _).draw _
  refine⟨_,w.drew.drew.alloc (.cells cs elem),_,?_,⟨w.heap.size,cs.size,cs.toList,⟨h1,by simp⟩,rfl,rfl⟩,?_⟩
  ·simp only[execOp,resolve,Sem.run_bind,Act.eval,Deferred.ofValue,Sem.run_pure,Result.andThen_ok,invoke]
   rw[show Array.map (fun x=>a.eval x) args = #[.int .i64 (q:Int)]from hav]
   simp only[Array.empty_append,Array.append_empty]
   rw[tQ hf hb hn DH he,hr]
   rfl
  ·have:=NZ.alloc (cl cs.toList elem)
   have e:cl cs.toList elem = .cells cs elem:=by simp[cl]
   rw[e]at this ⊢
   exact this
 ·grind
 grind
theorem HY{t elem:TypeId}{bH te:Ty}{x hi mx:Operand}{a0:Option Addr}{len cap:Nat}{q r:Int}{j2 j3:IntKind}(hd:Nat.blt d n=true)(ht:U.get t=some bH)(hu:bH.eH = .slice elem)(he:U.get elem=some te)(hx:ev L x=some (.slice a0 len cap))(Fj:ev L hi=some (.int j2 q))(hmx:ev L mx=some (.int j3 r))(h0:0≤q)(hqr:q≤r)(N6:r≤(cap:Int))(h:J P f n R G S all rest k ((d,.slice (sliceAt a0 r.toNat 0 te.info.size) q.toNat r.toNat)::L) H) :
  J P f n R G S all (.cons m true ⟨some d,.slice t x none (some hi) (some mx),ty,pos,af,gd⟩ rest) k L H:=by
 refine cJ hd (fun a ha w=>?_) h
 have hb:(Instr.sliceBounds true len cap none (some (a.eval hi)) (some (a.eval mx))).run P w = .ok (0,q.toNat,r.toNat) w:=by
  unfold Instr.sliceBounds
  have e1:0≤r∧r≤(cap:Int):=⟨ai,N6⟩
  have e2:0≤q∧q≤((r.toNat:Nat):Int):=⟨ai,ai⟩
  have e4:q≤max r 0:=by omega
  simp[ha.ev Fj,ha.ev hmx,Instr.sliceBound,asIntOf,e1,e2,e4,h0]
 simp only[execOp,ha.ev hx,Instr.sliceAt,Sem.run_bind,run_underlying ht,Result.andThen_ok,hu,Instr.slice,Option.map_some,Option.map_none,hb,run_sizeOf he,Sem.run_pure,sliceAt]
 grind
end
end Go.SL
