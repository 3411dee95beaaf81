import Derived.Test.YtnkfkabokmcgoaaGreatDoorQNQ2
import Derived.RangeFuncRecord
import Derived.RangeFuncIn
import GoSem.Extern.SlicesOverlaps
import Derived.Test.YtnkfkabokmcgoaaGreatDoorProg
set_option linter.defProp false
set_option linter.unusedSimpArgs false
set_option linter.unusedVariables false
set_option linter.defProp false
namespace Go.SL
open Go
def aZ(l:Nat)(st:LoopState)(pd:Option Code)(f:FuncId)(n:Nat)(L:dS)(ps:Array Tmp)(assign body:Code)(r:Nat):HP:=fun h =>
 ∃tmps:Array Value,(tmps.size=n∧∀t v,cR L t=some v→tmps[t]?=some v)∧ag l (.loop { state:=st,pending:=pd,fn:=f,tmps:=tmps,params:=ps,assign:=assign,body:=body,defers:=r }) h
def bN(P:Program)(l:Nat)(args:List Value)(Pre:List HP)(Post:Value→List HP→Prop):Prop :=
 ∀G w F,Sat G w (Pre++F)→∃fn tmps assign body,(Instr.yield l args.toArray).run P w = .ok (.round l fn tmps assign body) w ∧
  ∀ro,RoundIn (fw ro) 0 P l fn tmps assign body w fun e w'=>∃v H,e = .returned v∧Post v H∧Sat G w' (H++F)
def Jp:List Nat→List Value→dS→dS
 | p::ps,v::vs,L=>Jp ps vs ((p,v)::L)
 | _,_,L=>L
def inB(n:Nat):List Nat→Bool
 | []=>true
 | p::ps=>Nat.blt p n && inB n ps
def Fp{n:Nat}:∀(ps:List Nat) (vs:List Value) (L:dS) (tmps:Array Value),inB n ps=true→tmps.size=n→(∀t v,cR L t=some v→tmps[t]?=some v) →
  Has n (Jp ps vs L) { tmps:=(ps.zip vs).foldl (fun tmps (x:Nat × Value)=>tmps.setIfInBounds x.1 x.2) tmps,defers:=[] }
 | [],vs,L,tmps,_,hs,hg=>⟨hs,trivial,hg⟩
 | p::ps,[],L,tmps,_,hs,hg=>⟨by simpa using hs,trivial,by simpa[Jp]using hg⟩
 | p::ps,v::vs,L,tmps,hb,hs,hg=>by
  simp only[inB,Bool.and_eq_true]at hb
  have h1:Has n L { tmps:=tmps,defers:=[] }:=⟨hs,trivial,hg⟩
  have h2:=h1.put hb.1 v
  exact Fp ps vs _ _ hb.2 h2.1 h2.2.2
def FU(R:Ending→World→Prop)(G:bY)(l:Nat)(F:List HP)(Post:Value→List HP→Prop):Prop :=
 (G.ro=some l∧G.ds=[])∧∀v H w,Post v H→Sat G w (H++F)→R (.returned v) w
section
variable{P:Program}{f:FuncId}{n:Nat}{R:Ending→World→Prop}{G:bY}{k:List Item}{L:dS}{H:List HP}{l r:Nat}{st:LoopState}{pd:Option Code}{n0:Nat}{f0:FuncId}{L0:dS}{ps:Array Tmp}{assign body:Code}
def ou{w:World}(hs:Sat G w (aZ l st pd f0 n0 L0 ps assign body r::H)):∃tmps:Array Value,(tmps.size=n0∧∀t v,cR L0 t=some v→tmps[t]?=some v)∧Sat G w (ag l (.loop { state:=st,pending:=pd,fn:=f0,tmps:=tmps,params:=ps,assign:=assign,body:=body,defers:=r })::H):=by
 obtain⟨t,o,u,hp,zU,h1,h2,⟨tmps,ht,hA⟩,hH,hd,he⟩:=hs
 exact⟨tmps,ht,t,o,u,hp,zU,h1,h2,hA,hH,hd,he⟩
def ot{tmps:Array Value}(ht:tmps.size=n0∧∀t v,cR L0 t=some v→tmps[t]?=some v):ao (ag l (.loop { state:=st,pending:=pd,fn:=f0,tmps:=tmps,params:=ps,assign:=assign,body:=body,defers:=r })::H) (aZ l st pd f0 n0 L0 ps assign body r::H) :=
 fun h hs=>⟨h,sub.refl h,ei (fun h hp=>⟨tmps,ht,hp⟩) (fun _ h=>h) hs⟩
def bN.C'{args:List Value}{Pre:List HP}{Post:Value→List HP→Prop}(hps:Nat.beq ps.toList.length args.length=true)(rZ:inB n0 ps.toList=true)(h:∀G F R,FU R G l F Post→K P f0 n0 R G [.code assign,.beginRound,.code body] (Jp ps.toList args L0) (aZ l .ready none f0 n0 L0 ps assign body r::(Pre++F))) :
  bN P l args (aZ l .ready none f0 n0 L0 ps assign body r::Pre) Post:=by
 intro G w F hw
 obtain⟨tmps,ht,ux⟩:=ou (H:=Pre++F) hw
 have hg:=ux.get (i:=0) rfl
 have iF:args.toArray.size=ps.size:=by have:=Nat.eq_of_beq_eq_true hps;simpa using this.symm
 refine⟨_,_,_,_,run_yield hg iF,fun ro=>⟨trivial,fun c cs _=>?_⟩⟩
 have hk:=h { G with ro:=some l,ds:=[] } F (fun e w'=>∃v H,e = .returned v∧Post v H∧Sat G w' (H++F)) ⟨⟨rfl,rfl⟩,fun v H w' hp hs=>⟨v,H,rfl,hp,hs⟩⟩
 have hz:(ps.zip args.toArray).foldl (fun(tmps:Array Value) (x:Tmp × Value)=>tmps.setIfInBounds x.1 x.2) tmps=(ps.toList.zip args).foldl (fun tmps (x:Nat × Value)=>tmps.setIfInBounds x.1 x.2) tmps:=by
  rw[← Array.foldl_toList,Array.toList_zip]
 have ha:pz { G with ro:=some l,ds:=[] } n0 (Jp ps.toList args L0) { tmps:=(ps.zip args.toArray).foldl (fun(tmps:Array Value) (x:Tmp × Value)=>tmps.setIfInBounds x.1 x.2) tmps,defers:=[] }:=⟨by rw[hz];exact Fp ps.toList args L0 tmps rZ ht.1 ht.2,rfl⟩
 obtain⟨v,w',⟨v',H',he,hp,hs⟩,dD⟩:=hk _ w ha (ux.cn (ot ht)) (c::cs) c cs rfl
 cases he
 exact⟨.returned v,w',⟨v,H',rfl,hp,hs⟩,(StepsIn.of_steps dD).mono fun m _=>q8 P ro m⟩
def fm{k0:List Item}(hk:fz 1000 k0 = .mk (.beginRound::k)){F:List HP}{Post:Value→List HP→Prop}(hR:FU R G l F Post)(h:K P f n R G k L (aZ l .busy pd f0 n0 L0 ps assign body r::H)):K P f n R G k0 L (aZ l .ready pd f0 n0 L0 ps assign body r::H):=by
 refine eF 1000 hk ?_
 intro a w ha hw cs
 obtain⟨tmps,ht,ux⟩:=ou hw
 have hg:=ux.get (i:=0) rfl
 have hb:=run_beginRound (P:=P) hg rfl
 have NZ:=(ux.yA (o' := .loop { state := .busy,pending:=pd,fn:=f0,tmps:=tmps,params:=ps,assign:=assign,body:=body,defers:=r })).cn (ot ht)
 exact(h a _ ha NZ cs).of_steps (.one (stepR_beginRound (b:=({ (default:Frame)with fn:=f,kind := .normal,roundOf:=G.ro }:Frame)) hR.1.1 hb))
def w6{a:Act}{w w':World}{k1:List Item}{cs:List Frame}{v:Value}(GP:G.ro=some l)(hR:R (.returned v) w')(hs:∀c vM,step P (lone (bf G.ro f a k1) (c::vM) w) = .next (lone (c.finish v) vM w')):HO P f R cs (lone (bf G.ro f a k1) cs w) G.ro:=by
 rw[GP]at hs ⊢
 intro c vM jA
 subst jA
 exact⟨v,w',hR,.one (hs c vM)⟩
def qf{w:World}(jump:Option Code)(hw:Sat G w (aZ l st pd f0 n0 L0 ps assign body r::H)):∃w',(Instr.endRound l jump).run P w = .ok (.bool jump.isNone) w'∧Sat G w' (aZ l (if jump.isNone then .ready else .done) jump f0 n0 L0 ps assign body r::H):=by
 obtain⟨tmps,ht,ux⟩:=ou hw
 have hg:=ux.get (i:=0) rfl
 exact⟨_,run_endRound (P:=P) jump hg,(ux.yA (o' := .loop { state:=if jump.isNone then .ready else .done,pending:=jump,fn:=f0,tmps:=tmps,params:=ps,assign:=assign,body:=body,defers:=r })).cn (ot ht)⟩
def eE{k0:List Item}{F Hq:List HP}{Post:Value→List HP→Prop}(hR:FU R G l F Post)(hk:fz 1000 k0 = .mk [])(he:ao H (aZ l st pd f0 n0 L0 ps assign body r::(Hq++F)))(hp:Post (.bool true) (aZ l .ready none f0 n0 L0 ps assign body r::Hq)):K P f n R G k0 L H:=by
 refine eF 1000 hk ?_
 intro a w ha hw cs
 obtain⟨w',h1,h2⟩:=qf (P:=P) none (hw.cn he)
 exact w6 hR.1.1 (hR.2 _ _ w' hp h2) fun c vM=>stepR_round_end (b:=({ (default:Frame)with fn:=f,kind := .normal,roundOf:=G.ro }:Frame)) hR.1.1 rfl h1
def vk{k0:List Item}{F Hq:List HP}{Post:Value→List HP→Prop}(hR:FU R G l F Post)(hk:fz 1000 k0 = .mk (.code .ret::k))(he:ao H (aZ l st pd f0 n0 L0 ps assign body r::(Hq++F)))(hp:Post (.bool false) (aZ l .done (some .ret) f0 n0 L0 ps assign body r::Hq)):K P f n R G k0 L H:=by
 refine eF 1000 hk ?_
 intro a w ha hw cs
 obtain⟨w',h1,h2⟩:=qf (P:=P) (some .ret) (hw.cn he)
 exact w6 hR.1.1 (hR.2 _ _ w' hp h2) fun c vM=>stepR_round_ret (b:=({ (default:Frame)with fn:=f,kind := .normal,roundOf:=G.ro }:Frame)) hR.1.1 rfl h1
theorem qp{k0:List Item}{g:Operand}{gid:FuncId}{cap:Array Value}{Pre:Nat→Nat→List HP}{Fr:List HP}{Post:Nat→Nat→Value→List HP→Prop}(hk:fz 1000 k0 = .mk (.code (.rangeFunc g ps assign body)::k))(GP:G.ro=none)(hg:ev L g=some (.func (.func gid) #[] cap))(c:∀l r,aq P gid (.func (.yield l) #[] #[]::cap.toList) (aZ l .ready none f n L ps assign body r::Pre l r) (Post l r))(he:∀l r,ao H (Pre l r++Fr))(gR:∀l r v H',Post l r v H'→∃st pd WD,H'=aZ l st pd f n L ps assign body r::WD∧st ≠ .busy ∧
   K P f n R { G with ds:=r::G.ds } ((pd.map Item.code).toList++k) L (WD++(ag r (.deferred (some []))::Fr))):K P f n R G k0 L H:=by
 refine eF 1000 hk ?_
 intro a w ha hw cs
 let b:Frame:={ (default:Frame)with fn:=f,kind := .normal,roundOf:=G.ro }
 have Oe:=run_enterLoop_outer (P:=P) (w:=w) f a.tmps ps assign body
 rw[← GP]at Oe
 have ux:Sat G ((w.alloc (.deferred (some []))).alloc (.loop { state := .ready,pending:=none,fn:=f,tmps:=a.tmps,params:=ps,assign,body,defers:=w.heap.size }))
   (aZ (w.heap.size+1) .ready none f n L ps assign body w.heap.size::(Pre (w.heap.size+1) w.heap.size++(ag w.heap.size (.deferred (some []))::Fr))):=by
  have h1:=hw.alloc (.deferred (some []))
  have h2:=h1.alloc (.loop { state := .ready,pending:=none,fn:=f,tmps:=a.tmps,params:=ps,assign:=assign,body:=body,defers:=w.heap.size })
  have iF:({ w with heap:=w.heap.push (.deferred (some [])) }:World).heap.size=w.heap.size+1:=by simp
  rw[iF]at h2
  refine Sat.cn h2 ?_
  refine(ot ⟨ha.1.1,ha.1.2.2⟩).trans (ao.cons _ ?_)
  refine(ao.cons _ (he (w.heap.size+1) w.heap.size)).trans ?_
  exact ao.perm (List.perm_middle.symm)
 have kj:(resolve a.eval (rangeCall g (w.heap.size+1)) 0).run P ((w.alloc (.deferred (some []))).alloc (.loop { state := .ready,pending:=none,fn:=f,tmps:=a.tmps,params:=ps,assign,body,defers:=w.heap.size })) = .ok { target := .fn (.func gid) cap,args := #[.func (.yield (w.heap.size+1)) #[] #[]] } ((w.alloc (.deferred (some []))).alloc (.loop { state := .ready,pending:=none,fn:=f,tmps:=a.tmps,params:=ps,assign,body,defers:=w.heap.size })):=by
  simp only[resolve,rangeCall,Sem.run_bind,ha.ev hg,Deferred.ofValue,Sem.run_pure,Result.andThen_ok]
  simp[Act.eval]
 have hinv:(invoke (.fn (.func gid) cap) #[.func (.yield (w.heap.size+1)) #[] #[]]).run P ((w.alloc (.deferred (some []))).alloc (.loop { state := .ready,pending:=none,fn:=f,tmps:=a.tmps,params:=ps,assign,body,defers:=w.heap.size })) = .ok (.enter gid (Value.func (.yield (w.heap.size+1)) #[] #[]::cap.toList).toArray) ((w.alloc (.deferred (some []))).alloc (.loop { state := .ready,pending:=none,fn:=f,tmps:=a.tmps,params:=ps,assign,body,defers:=w.heap.size })):=by
  simp only[invoke]
  rw[jD (c (w.heap.size+1) w.heap.size).1]
  congr 2
  grind
 have DM:=stepR_rangeFunc (P:=P) (b:=b) (a:=a) (k:=k) (cs:=cs) (w:=w) (ps:=ps) (assign:=assign) (body:=body) (g:=g) Oe kj hinv
 obtain⟨e,w3,fr,⟨v,H',rfl,dE,xz⟩,V4,hfn,VK⟩:=(c (w.heap.size+1) w.heap.size).2 G _ (ag w.heap.size (.deferred (some []))::Fr) ux (b.atR { a with defers:=[{ target := .collected w.heap.size,args := #[] }]++a.defers } (.inRangeFunc (w.heap.size+1)::k)::cs)
 obtain⟨st,pd,WD,rfl,dD,hK⟩:=gR _ _ _ _ dE
 obtain⟨tmps,ht,Y1⟩:=ou (H:=WD++(ag w.heap.size (.deferred (some []))::Fr)) xz
 have hg4:=Y1.get (i:=0) rfl
 have ZE:=run_endLoop (P:=P) hg4 dD
 have hs5:=(Y1.yA (o' := .loop { state := .exhausted,pending:=pd,fn:=f,tmps:=tmps,params:=ps,assign:=assign,body:=body,defers:=w.heap.size })).cn (ao.drop _ _)
 have lF:step P (lone fr (b.atR { a with defers:=[{ target := .collected w.heap.size,args := #[] }]++a.defers } (.inRangeFunc (w.heap.size+1)::k)::cs) w3) = .next (lone (b.atR { a with defers:=[{ target := .collected w.heap.size,args := #[] }]++a.defers } (.endRangeFunc (w.heap.size+1)::k)) cs w3):=by
  rw[← finish_atR_inRangeFunc (w.heap.size+1) v];exact step_leave_returned VK
 have kG:=stepR_endRangeFunc (P:=P) (b:=b) (a:={ a with defers:=[{ target := .collected w.heap.size,args := #[] }]++a.defers }) (k:=k) (cs:=cs) ZE
 have hJ:=hK { a with defers:=[{ target := .collected w.heap.size,args := #[] }]++a.defers } _ ⟨⟨ha.1.1,trivial,ha.1.2.2⟩,by rw[show({ G with ds:=w.heap.size::G.ds }:bY).ds=w.heap.size::G.ds from rfl,List.map_cons,ha.2];rfl⟩ hs5 cs
 exact HO.of_steps (Steps.trans (.one DM) (Steps.trans V4 (Steps.trans (.one lF) (.one kG)))) hJ
variable{S:World→Prop}{all:Array Oper}{rest:Pl}{d:Tmp}{ty:TypeId}{pos:String}{af:Array Edge}{gd:Option (Nat × Bool)}
theorem iW{fo:Operand}{args:Array Operand}{tu:Array TypeId}{vs:List Value}{Pre Fr:List HP}{Post:Value→List HP→Prop}(hd:Nat.blt d n=true)(hf:ev L fo=some (.func (.yield l) #[] #[]))(e9:Cr L args.toList [] = .mk vs)(c:bN P l vs Pre Post)(he:ao H (Pre++Fr))(h:∀v H',Post v H'→J P f n R G S all rest k ((d,v)::L) (H'++Fr))(hS:∀v H' w,Post v H'→Sat G w (H'++Fr)→Sx rest S w) :
  J P f n R G S all (.cons false true ⟨some d,.call { callee := .value fo,args:=args,argTypes:=tu },ty,pos,af,gd⟩ rest) k L H:=by
 intro a w ha hw _
 refine .inl ⟨.inl rfl,.inr ⟨rfl,?_⟩⟩
 obtain⟨fn,tmps,asg,bdy,hy,hr⟩:=c G w Fr (hw.cn he)
 have y3:(execOp a.eval ⟨some d,.call { callee := .value fo,args:=args,argTypes:=tu },ty,pos,af,gd⟩).run P w = .ok (.round l fn tmps asg bdy) w:=by
  simp only[execOp,resolve,Sem.run_bind,ha.ev hf,Deferred.ofValue,Sem.run_pure,Result.andThen_ok,invoke]
  rw[kJ ha.1 _ _ e9]
  grind
 refine jP (fun c hc=>by cases hc) y3 ⟨fun h=>by simp[fw]at h,RoundIn.mono (hr G.ro) ?_⟩
 rintro e w'⟨v,H',rfl,dE,kF⟩
 exact⟨hS v H' w' dE kF,h v H' dE _ w' (ha.put hd v) kF (hS v H' w' dE kF)⟩
end
end Go.SL
namespace Go.SL
def ao.cX(l H:List HP):ao (Sep l::H) (l++H):=fun h hs=>⟨h,sub.refl h,gZ hs⟩
def ao.cd(l H:List HP):ao (l++H) (Sep l::H):=fun h hs=>⟨h,sub.refl h,j7 hs⟩
abbrev eV:=List (Nat × List Value)
def a6(e:TypeId)(M:eV):HP:=Sep (M.map fun x=>ag x.1 (cl x.2 e))
def kV(M:eV)(v:Value)(bs:List UInt8):Prop :=
 ∃a cap,v = .slice a bs.length cap∧bs.length≤cap∧(bs=[]∨∃b o cs,a=Option.some ⟨b,o,none⟩∧(b,cs)∈M∧(cs.drop o).take bs.length=bV bs)
def kV.mono{M M':eV}{v:Value}{bs:List UInt8}(h:kV M v bs)(hs:∀x∈M,x∈M'):kV M' v bs:=by
 obtain⟨a,cap,hv,hc,h0|⟨b,o,cs,ha,hm,ht⟩⟩:=h
 ·exact⟨a,cap,hv,hc,.inl h0⟩
 ·exact⟨a,cap,hv,hc,.inr ⟨b,o,cs,ha,hs _ hm,ht⟩⟩
theorem kV.nil(M:eV)(a:Option Addr)(cap:Nat):kV M (.slice a 0 cap) []:=⟨a,cap,rfl,Nat.zero_le _,.inl rfl⟩
def zv{l:List HP}{A:HP}{h:Hp}(hA:A∈l)(hs:Sep l h):∃h',sub h' h∧A h':=by
 obtain⟨i,hi⟩:=List.getElem?_of_mem hA
 exact iM (qk (ct hi) h hs)
theorem kV.view{M:eV}{v:Value}{bs:List UInt8}(h:kV M v bs)(e:TypeId):Vw (a6 e M) v bs.length (bV bs):=by
 obtain⟨a,cap,rfl,_,h0|⟨b,o,cs,ha,hm,ht⟩⟩:=h
 ·subst h0;exact⟨a,cap,rfl,.inl rfl⟩
 ·have h1:Vw (ag b (cl cs e)) (.slice a bs.length cap) bs.length (bV bs):=by
   grind [Vw.ag,bJ]
  refine h1.mono fun h hs=>?_
  exact zv (List.mem_map.2 ⟨(b,cs),hm,rfl⟩) hs
def kV.shape{M:eV}{v:Value}{bs:List UInt8}(h:kV M v bs):∃a cap,v = .slice a bs.length cap∧bs.length≤cap:=by
 obtain⟨a,cap,hv,hc,_⟩:=h;exact⟨a,cap,hv,hc⟩
def KZ(e:TypeId)(b:Nat)(cs:List Value)(M:eV)(H:List HP):ao (ag b (cl cs e)::a6 e M::H) (a6 e ((b,cs)::M)::H) :=
 ao.fold (B:=[_,_]) fun h hs=>⟨h,sub.refl h,ei (fun _ h=>h) (fun _ h=>cW h) hs⟩
def kV.row{M:eV}{b cap:Nat}{bs:List UInt8}(hc:bs.length≤cap):kV ((b,bV bs)::M) (.slice (Option.some ⟨b,0,none⟩) bs.length cap) bs :=
 ⟨_,cap,rfl,hc,.inr ⟨b,0,bV bs,rfl,by simp,by rw[← bJ];simp⟩⟩
theorem KY(e:TypeId)(v:Value)(bs:List UInt8)(M:eV):∀h,star (aI e 1 v bs.length (bV bs)) (a6 e M) h→∃M',kV M' v bs∧(∀x∈M,x∈M')∧a6 e M' h:=by
 rintro h⟨h1,h2,⟨hl,⟨a,rfl,hn,he⟩|⟨b,o,cap,pre,bL,rfl,hp,hn,hc,uA⟩⟩,hM,hd,hj⟩
 ·have hb:bs=[]:=List.eq_nil_of_length_eq_zero hn
  subst hb
  exact⟨M,kV.nil M a 0,fun _ h=>h,uP ⟨h1,h2,he,hM,hd,hj⟩⟩
 ·refine⟨(b,pre++bV bs++bL)::M,⟨_,cap,rfl,hn,.inr ⟨b,o,pre++bV bs++bL,rfl,by simp,?_⟩⟩,fun x hx=>by simp[hx],⟨h1,h2,uA,hM,hd,hj⟩⟩
  grind
theorem kV.tail{M:eV}{b o n cap:Nat}{x:UInt8}{bs:List UInt8}(h:kV M (.slice (Option.some ⟨b,o,none⟩) n cap) (x::bs))(o' eX:Nat)(h1:bs≠[]→o'=o+1)(hc':bs.length≤eX):kV M (.slice (Option.some ⟨b,o',none⟩) bs.length eX) bs:=by
 by_cases h0:bs=[]
 ·grind [kV.nil]
 ·have:=h1 h0
  subst this
  obtain⟨a,zh,hv,_,h2|⟨b',o2,cs,ha,hm,ht⟩⟩:=h
  ·cases h2
  ·simp only[Value.slice.injEq]at hv
   obtain⟨rfl,_,rfl⟩:=hv
   simp only[Option.some.injEq,Addr.mk.injEq,and_true]at ha
   obtain⟨rfl,rfl⟩:=ha
   refine⟨_,eX,rfl,hc',.inr ⟨b,o+1,cs,rfl,hm,?_⟩⟩
   rw[List.length_cons]at ht
   rw[show o+1=1+o by omega,← List.drop_drop]
   have h3:=congrArg (List.drop 1) ht
   rw[List.drop_take]at h3
   simpa[bV,Nat.add_comm]using h3
theorem kV.piece{M:eV}{b o n cap:Nat}{bs:List UInt8}(h:kV M (.slice (Option.some ⟨b,o,none⟩) n cap) bs)(o' eX p k:Nat)(ML:p+k≤bs.length)(h1:k≠0→o'=o+p)(hc':k≤eX):kV M (.slice (Option.some ⟨b,o',none⟩) k eX) ((bs.drop p).take k):=by
 have hl:((bs.drop p).take k).length=k:=by rw[List.length_take,List.length_drop];omega
 by_cases h0:k=0
 ·grind [kV.nil]
 ·have:=h1 h0
  subst this
  obtain⟨a,zh,hv,_,h2|⟨b',o2,cs,ha,hm,ht⟩⟩:=h
  ·grind
  ·simp only[Value.slice.injEq]at hv
   obtain⟨rfl,_,rfl⟩:=hv
   simp only[Option.some.injEq,Addr.mk.injEq,and_true]at ha
   obtain⟨rfl,rfl⟩:=ha
   refine⟨_,eX,by rw[hl],by rw[hl];exact hc',.inr ⟨b,o+p,cs,rfl,hm,?_⟩⟩
   rw[hl,← List.drop_drop]
   have h3:=congrArg (fun l=>(l.drop p).take k) ht
   simp only[List.drop_take,List.take_take]at h3
   rw[show min k (bs.length-p)=k by omega]at h3
   rw[h3]
   simp only[bV,List.map_drop,List.map_take]
theorem kV.cut{M:eV}{a:Option Addr}{n cap:Nat}{bs:List UInt8}(h:kV M (.slice a n cap) bs)(p k:Nat)(ML:p+k≤bs.length):kV M (.slice (sliceAt a cap p 1) k (cap-p)) ((bs.drop p).take k):=by
 obtain⟨a',eX,hv,hc,h0⟩:=h
 simp only[Value.slice.injEq]at hv
 obtain⟨rfl,hn,rfl⟩:=hv
 by_cases hk:k=0
 ·grind [kV.nil]
 ·rcases h0 with h0|⟨b,o,cs,rfl,hm,ht⟩
  ·grind
  ·have e:sliceAt (Option.some ⟨b,o,none⟩) cap p 1=Option.some ⟨b,o+p,none⟩:=by
    grind [sliceAt,Addr.add_eq]
   rw[e]
   exact kV.piece (o:=o) (n:=bs.length) (cap:=cap) ⟨_,_,rfl,hc,.inr ⟨b,o,cs,rfl,hm,ht⟩⟩ _ _ p k ML (fun _=>rfl) ai
def aP{α:Type}(g:α→HP)(l:List α):HP:=Sep (l.map g)
def jI{α:Type}(g:α→HP){l:List α}{i:Nat}{x:α}(hi:l[i]?=Option.some x)(H:List HP):ao (aP g l::H) (g x::aP g (l.eraseIdx i)::H):=fun h hs=>by
 refine⟨h,sub.refl h,iZ (ei (fun h hs=>?_) (fun _ h=>h) hs)⟩
 have h1:(l.map g)[i]?=Option.some (g x):=by simp[hi]
 have h2:=qk (ct h1) h hs
 rw[← k9]at h2
 exact h2
def pL{α:Type}(g:α→HP){l:List α}{i:Nat}{x:α}(hi:l[i]?=Option.some x)(H:List HP):ao (g x::aP g (l.eraseIdx i)::H) (aP g l::H):=fun h hs=>by
 refine⟨h,sub.refl h,ei (fun h hs=>?_) (fun _ h=>h) (iN hs)⟩
 have h1:(l.map g)[i]?=Option.some (g x):=by simp[hi]
 refine qk (ct h1).symm h ?_
 rw[← k9]
 exact hs
theorem wM{α:Type}(g:α→HP){l:List α}{i:Nat}{x y:α}(hi:l[i]?=Option.some x)(H:List HP):ao (g y::aP g (l.eraseIdx i)::H) (aP g (l.set i y)::H):=by
 have cq:i<l.length:=by
  grind
 have h1:(l.set i y)[i]?=Option.some y:=by simp[cq]
 have h2:=pL g h1 H
 have h3:(l.set i y).eraseIdx i=l.eraseIdx i:=by
  grind
 rw[h3]at h2
 exact h2
def oh{α:Type}(g:α→HP)(x:α)(l:List α)(H:List HP):ao (g x::aP g l::H) (aP g (x::l)::H):=fun h hs=>⟨h,sub.refl h,iN hs⟩
def wO{α:Type}{g:α→HP}{l:List α}{x:α}(hx:x∈l){h:Hp}(hs:aP g l h):∃h',sub h' h∧g x h':=zv (List.mem_map.2 ⟨x,hx,rfl⟩) hs
def u9(e:TypeId)(H:List HP):ao H (a6 e []::H):=ao.jw H
def wN{α:Type}(g:α→HP)(H:List HP):ao H (aP g []::H):=ao.jw H
structure Ab where
 room:Nat
 fs:List (Nat × List UInt8 × List UInt8)
 names:List (ByteArray × Nat)
 aR:List (List (ByteArray × Nat))
 writes:List (Nat × Nat × List UInt8)
 cZ:List UInt8
 off:Bool
namespace Ab
def meet(A:Ab)(may:Bool):Nat × Ab :=
 if may=false then(1,A)else if A.off=true then(7,A)else match A.cZ with
 | []=>(0,A)
 | x::p=>if x=1 then(6,{ A with cZ:=p })else if x=2 then(7,{ A with cZ:=p,off:=true })else(0,{ A with cZ:=p })
def cQ(l:List (ByteArray × Nat))(name:ByteArray):Option Nat:=(l.find? fun x=>decide (x.1=name)).map (·.2)
def look(A:Ab)(name:ByteArray):Option Nat:=cQ A.names name
def file(A:Ab)(f:Nat):List UInt8 × List UInt8:=((A.fs.find? fun x=>decide (x.1=f)).map (·.2)).getD ([],[])
def now(A:Ab)(f:Nat):List UInt8:=(A.file f).1
def sure(A:Ab)(f:Nat):List UInt8:=(A.file f).2
def find(A:Ab)(name:ByteArray)(may:Bool):Nat × Option Nat × Ab :=
 if(A.meet may).1=0 then match (A.meet may).2.look name with
  | none=>(4,none,(A.meet may).2)
  | some f=>(0,some f,(A.meet may).2)
 else((A.meet may).1,none,(A.meet may).2)
def used(A:Ab):Nat:=(A.names.map fun x=>(A.now x.2).length).sum
def new(room:Nat):Ab:=⟨room,[],[],[[]],[],[],false⟩
def jj(l:List (ByteArray × Nat))(k:ByteArray)(f:Nat):List (ByteArray × Nat):=if(cQ l k).isSome then l.map (fun x=>if x.1=k then(k,f)else x)else l++[(k,f)]
def dI(l:List (ByteArray × Nat))(k:ByteArray):List (ByteArray × Nat):=l.filter fun x => !decide (x.1=k)
def oD(A:Ab)(nm:List (ByteArray × Nat)):Ab:={ A with names:=nm,aR:=A.aR++[nm] }
def create(A:Ab)(ok:Bool)(name:ByteArray)(f:Nat):Nat × Ab :=
 if(A.meet ok).1=0 then
  if((A.meet ok).2.look name).isSome then(5,(A.meet ok).2)
  else if 200≤(A.meet ok).2.names.length then(3,(A.meet ok).2)
  else(0,{ (A.meet ok).2.oD ((A.meet ok).2.names++[(name,f)])with fs:=(f,[],[])::(A.meet ok).2.fs })
 else((A.meet ok).1,(A.meet ok).2)
def remove(A:Ab)(ok:Bool)(name:ByteArray):Nat × Ab:=match A.find name ok with
 | (0,some _,A1)=>(0,A1.oD (dI A1.names name))
 | (e,_,A1)=>(e,A1)
def rename(A:Ab)(ok:Bool)(old name:ByteArray):Nat × Ab:=match A.find old ok with
 | (0,some f,A1)=>(0,A1.oD (jj (dI A1.names old) name f))
 | (e,_,A1)=>(e,A1)
def Ck(fs:List (Nat × List UInt8 × List UInt8))(f:Nat)(n:List UInt8):List (Nat × List UInt8 × List UInt8):=fs.map fun x=>if x.1=f then(x.1,n,x.2.2)else x
def write(A:Ab)(ok:Bool)(name:ByteArray)(at_:Nat)(b:List UInt8):Nat × Ab :=
 if(A.find name ok).1=0 then match (A.find name ok).2.1 with
  | some f=>if(A.find name ok).2.2.room<(A.find name ok).2.2.used+(at_+b.length-((A.find name ok).2.2.now f).length)then(3,(A.find name ok).2.2)
   else(0,{ (A.find name ok).2.2 with fs:=Ck (A.find name ok).2.2.fs f (ea ((A.find name ok).2.2.now f) at_ b),writes:=(A.find name ok).2.2.writes++[(f,at_,b)] })
  | none=>(0,(A.find name ok).2.2)
 else((A.find name ok).1,(A.find name ok).2.2)
def size(A:Ab)(name:ByteArray):Nat × Nat:=match A.look name with
 | none=>(0,4)
 | some f=>((A.now f).length,0)
def read(A:Ab)(name:ByteArray)(at_ n:Int):List UInt8 × Nat :=
 if A.off=true then([],7)else match A.look name with
  | none=>([],4)
  | some f=>if at_<0∨n<0∨((A.now f).length:Int)<at_∨((A.now f).length:Int)-at_<n then([],1)else(((A.now f).drop at_.toNat).take n.toNat,0)
def cj(A:Ab):Nat × Ab:=if(A.meet true).1=0 then(0,{ (A.meet true).2 with aR:=[(A.meet true).2.names] })else((A.meet true).1,(A.meet true).2)
def nc(fs:List (Nat × List UInt8 × List UInt8))(f:Nat):List (Nat × List UInt8 × List UInt8):=fs.map fun x=>if x.1=f then(x.1,x.2.1,x.2.1)else x
def sync(A:Ab)(ok:Bool)(name:ByteArray):Nat × Ab :=
 if(A.find name ok).1=0 then match (A.find name ok).2.1 with
  | some f=>(0,{ (A.find name ok).2.2 with fs:=nc (A.find name ok).2.2.fs f,writes:=(A.find name ok).2.2.writes.filter fun x => !decide (x.1=f) })
  | none=>(0,(A.find name ok).2.2)
 else((A.find name ok).1,(A.find name ok).2.2)
def kept(stay:List UInt8)(aaw cut:Int)(i:Nat)(b:List UInt8):Option (List UInt8) :=
 if(i:Int)=aaw then(let c:=b.take (max 0 (min cut b.length)).toNat;if c=[]then none else some c)
 else if(i/8<stay.length∧((stay.getD (i/8) 0).toNat/2 ^ (i%8))%2=1)then some b else none
end Ab
section
variable{P:Program}{U:Tr}[hU:er P U]{f:FuncId}{n:Nat}{R:Ending→World→Prop}{G:bY}{k:List Item}{L:dS}{H H':List HP}{S:World→Prop}{all:Array Oper}{rest:Pl}{ty:TypeId}{pos:String}{af:Array Edge}{gd:Option (Nat × Bool)}{m:Bool}{d:Tmp}
theorem tl(z:Value)(q:Nat):(Builtin.zeroCells z.cells q).toList=(List.replicate q (aX z)).flatten:=by
 have jA:z.cells.size=(aX z).length:=by rw[cN];simp
 unfold Builtin.zeroCells
 simp only[Array.toList_map,Array.toList_range,jA]
 rw[cN]
 induction q with
 | zero=>simp
 | succ q ih =>
  rw[List.replicate_succ',List.flatten_append,← ih,Nat.succ_mul,List.range_add,List.map_append]
  congr 1
  simp only[List.map_map,List.flatten_cons,List.flatten_nil,List.append_nil]
  apply List.ext_getElem?
  intro j
  by_cases hj:j<(aX z).length
  ·simp only[List.getElem?_map,List.getElem?_range hj,Option.map_some,Function.comp]
   rw[Nat.mul_comm,Nat.mul_add_mod,Nat.mod_eq_of_lt hj]
   simp[hj]
  grind
theorem Aq{t t2 elem rty:TypeId}{bH Cl te:Ty}{z:Value}{a0:Option Addr}{kk cap mm:Nat}{q:IntKind}{cs:List Value}{A:HP}{w:World}(i:Nat)(ht:U.get t=some bH)(hu:bH.eH = .slice elem)(h2:U.get t2=some Cl)(Nh:Cl.eH = .int q)(he:U.get elem=some te)(hz:te.info.zero=some z)(Il:(aX z).length=te.info.size)(iF:0<te.info.size)(hw:Sat G w H)(hi:bS H i=some A)(hv:Vw A (.slice a0 kk cap) kk cs)(hl:cs.length=kk*te.info.size)(L2:cap<kk+mm)(A7:0<mm)(GW:kk+mm≤9223372036854775807)(WS:mm*te.info.bytes≤140737488355328)(nF:(kk+mm)*te.info.bytes≤140737488355328) :
  (Builtin.append_ #[t,t2] rty #[.slice a0 kk cap,.int .i64 (mm:Int)]).run P w = .ok (.slice (some ⟨w.heap.size,0,none⟩) (kk+mm) (grownCap w (kk+mm) cap elem))
   (w.drew.alloc (cl (cs++(List.replicate mm (aX z)).flatten++(Builtin.zeroCells z.cells (grownCap w (kk+mm) cap elem-(kk+mm))).toList) elem)):=by
 have qW:∀ {w:World},(underlying t2).run P w = .ok Cl.eH w:=fun {w}=>run_underlying h2 w
 have WR:(Cl.eH matches .int _)=true:=by rw[Nh]
 have VT:¬kk+mm≤cap:=by omega
 have hgs:=growslice_fits (need:=kk+mm) (old:=cap) (bytes:=te.info.bytes) ai nF
 have y5:=lr (P:=P) (G:=G) (w:=w.drew) hv (hw.draw _) hi hl
 have DJ:¬((9223372036854775807:Int)<(kk:Int)+(mm:Int)):=by omega
 have VU:¬281474976710656<Builtin.nextslicecap (kk+mm) cap*te.info.bytes:=by omega
 have Ip:IntKind.i64.wrap (mm:Int)=mm:=cT (by simp only[gm];omega)
 have abh:¬((mm:Int)<0):=by omega
 have mN:¬((281474976710656:Int)<(mm:Int)*(te.info.bytes:Int)):=by
  grind
 have fy:¬(mm*te.info.size=0):=Nat.ne_of_gt (Nat.mul_pos A7 iF)
 have hzc:=tl z mm
 simp[Builtin.append_,run_underlying ht,hu,run_sizeOf he,qW,WR,asInt,asIntOf,Ip,abh,mN,VT,DJ,VU,Question.forced,run_typeInfo he,cS he hz,newRow,y5,grownCap,cl,fy,Nh]
 congr 2
 apply Array.ext'
 simp[hzc]
theorem H7{x y:Operand}{t t2 elem:TypeId}{bH Cl te:Ty}{z:Value}{a0:Option Addr}{kk cap mm:Nat}{q:IntKind}{cs:List Value}{A:HP}(i:Nat)(hd:Nat.blt d n=true)(hx:ev L x=some (.slice a0 kk cap))(hy:ev L y=some (.int .i64 (mm:Int)))(ht:U.get t=some bH)(hu:bH.eH = .slice elem)(h2:U.get t2=some Cl)(Nh:Cl.eH = .int q)(he:U.get elem=some te)(hz:te.info.zero=some z)(Il:Nat.beq (aX z).length te.info.size=true)(iF:Nat.blt 0 te.info.size=true)(hi:bS H i=some A)(hv:Vw A (.slice a0 kk cap) kk cs)(hl:cs.length=kk*te.info.size)(L2:cap<kk+mm)(A7:0<mm)(GW:kk+mm≤9223372036854775807)(WS:mm*te.info.bytes≤140737488355328)(nF:(kk+mm)*te.info.bytes≤140737488355328)(hS:∀v' w,Sat G w (aI elem te.info.size v' (kk+mm) (cs++(List.replicate mm (aX z)).flatten)::H)→Sx rest S w)(h:∀v',J P f n R G S all rest k ((d,v')::L) (aI elem te.info.size v' (kk+mm) (cs++(List.replicate mm (aX z)).flatten)::H)) :
  J P f n R G S all (.cons false true ⟨some d,.call { callee := .builtin .append,args := #[x,y],argTypes := #[t,t2] },ty,pos,af,gd⟩ rest) k L H:=by
 refine lN hd (fun u H1=>H1=aI elem te.info.size u (kk+mm) (cs++(List.replicate mm (aX z)).flatten)::H) (fun a w ha hw=>?_) ?_ ?_
 ·have hr:=Aq (P:=P) (rty:=ty) i ht hu h2 Nh he hz (Nat.eq_of_beq_eq_true Il) (by simpa[Nat.blt_eq]using iF) hw hi hv hl L2 A7 GW WS nF
  refine⟨.slice (some ⟨w.heap.size,0,none⟩) (kk+mm) (grownCap w (kk+mm) cap elem),w.drew.alloc (cl (cs++(List.replicate mm (aX z)).flatten++(Builtin.zeroCells z.cells (grownCap w (kk+mm) cap elem-(kk+mm))).toList) elem),_,?_,rfl,?_⟩
  ·simp[execOp,resolve,invoke,builtin,ha.ev hx,ha.ev hy,hr]
  ·have h5:=Sat.alloc (w:=w.drew) (hw.draw _) (cl (cs++(List.replicate mm (aX z)).flatten++(Builtin.zeroCells z.cells (grownCap w (kk+mm) cap elem-(kk+mm))).toList) elem)
   refine h5.cn (ao.fold (B:=[_]) fun h hs=>⟨h,sub.refl h,?_⟩)
   have ek:=grownCap_ge w (kk+mm) cap elem
   have WJ:(List.replicate mm (aX z)).flatten.length=mm*te.info.size:=by rw[iu,Nat.eq_of_beq_eq_true Il]
   refine⟨by simp only[List.length_append,hl,WJ,Nat.add_mul],.inr ⟨w.heap.size,0,_,[],_,rfl,rfl,ek,?_,by simpa using cW hs⟩⟩
   have h7:(Builtin.zeroCells z.cells (grownCap w (kk+mm) cap elem-(kk+mm))).size=(grownCap w (kk+mm) cap elem-(kk+mm))*te.info.size:=by rw[size_zeroCells,cN];simp[Nat.eq_of_beq_eq_true Il]
   rw[List.length_append,hl,WJ,Array.length_toList,h7,← Nat.add_mul,← Nat.add_mul]
   grind
 ·grind
 grind
def Oy{x:Operand}{t:TypeId}{bH:Ty}{e:TypeId}{a0:Option Addr}{len cap:Nat}(hd:Nat.blt d n=true)(hx:ev L x=some (.slice a0 len cap))(ht:U.get t=some bH)(hu:bH.eH = .slice e)(h:J P f n R G S all rest k ((d,.int .i64 (cap:Int))::L) H):J P f n R G S all (.cons m true ⟨some d,.call { callee := .builtin .cap,args := #[x],argTypes := #[t] },ty,pos,af,gd⟩ rest) k L H:=by
 refine cJ hd (fun a ha w=>?_) h
 simp[execOp,resolve,invoke,builtin,ha.ev hx,Builtin.cap_,run_underlying ht,hu,goInt]
end
end Go.SL
namespace Go.SL
theorem Vw.front{A:HP}{b o n cap:Nat}{cs:List Value}(h:Vw A (.slice (Option.some ⟨b,o,none⟩) n cap) n cs)(i eX q:Nat):Vw A (.slice (Option.some ⟨b,o,none⟩) i eX) i (cs.take q):=by
 obtain⟨a,zh,hv,h0|⟨b',o',ha,hc⟩⟩:=h
 ·subst h0;exact⟨_,eX,rfl,.inl (by simp)⟩
 ·simp only[Value.slice.injEq,true_and]at hv
  obtain⟨rfl,_⟩:=hv
  simp only[Option.some.injEq,Addr.mk.injEq,and_true]at ha
  obtain⟨rfl,rfl⟩:=ha
  refine⟨_,eX,rfl,.inr ⟨b,o,rfl,fun h hA j c hj=>?_⟩⟩
  grind
theorem Vw.back{A:HP}{b o n cap:Nat}{cs:List Value}(h:Vw A (.slice (Option.some ⟨b,o,none⟩) n cap) n cs)(i eX q:Nat):Vw A (.slice (Option.some ⟨b,o+q,none⟩) i eX) i (cs.drop q):=by
 obtain⟨a,zh,hv,h0|⟨b',o',ha,hc⟩⟩:=h
 ·subst h0;exact⟨_,eX,rfl,.inl (by simp)⟩
 ·simp only[Value.slice.injEq,true_and]at hv
  obtain⟨rfl,_⟩:=hv
  simp only[Option.some.injEq,Addr.mk.injEq,and_true]at ha
  obtain⟨rfl,rfl⟩:=ha
  refine⟨_,eX,rfl,.inr ⟨b,o+q,rfl,fun h hA j c hj=>?_⟩⟩
  grind
theorem pP(b o cap p sz:Nat)(h:p≠cap):sliceAt (some ⟨b,o,none⟩) cap p sz=some ⟨b,o+p*sz,none⟩:=by
 grind [sliceAt,Addr.add_eq]
section
variable{P:Program}{U:Tr}[hU:er P U]{f:FuncId}{n:Nat}{R:Ending→World→Prop}{G:bY}{k:List Item}{L:dS}{H H':List HP}{S:World→Prop}{all:Array Oper}{rest:Pl}{ty:TypeId}{pos:String}{af:Array Edge}{gd:Option (Nat × Bool)}{m:Bool}{d:Tmp}
def rA{e:TypeId}{sz nn:Nat}{v:Value}{cs:List Value}(i:Nat)(hi:bS H i=some (aI e sz v nn cs))(h0:0<nn)(h:∀b o c,v = .slice (some ⟨b,o,none⟩) nn c→nn≤c→cs.length=nn*sz→Vw (aI e sz v nn cs) v nn cs→K P f n R G k L H):K P f n R G k L H :=
 nY fun⟨w,hw⟩=>by
  obtain⟨h1,_,hA⟩:=hw.jG hi
  have hv:=Vw.lZ e sz v nn cs ⟨h1,hA⟩
  obtain⟨hl,⟨a,rfl,rfl,_⟩|⟨b,o,cap,pre,bL,rfl,_,hc,_⟩⟩:=hA
  ·omega
  ·exact h _ _ _ rfl hc hl hv
def F'{e:TypeId}{b o c nn sz:Nat}{cs:List Value}(h0:0<nn):∀h,aI e sz (.slice (some ⟨b,o,none⟩) nn c) nn cs h→∃x:List Value × List Value,(x.1.length=o∧nn≤c∧c*sz≤cs.length+x.2.length∧cs.length=nn*sz)∧Sep [ag b (cl (x.1++cs++x.2) e)] h:=by
 rintro h⟨hl,⟨a,hv,rfl,he⟩|⟨b',o',cap,pre,bL,hv,hp,hn,hc,uA⟩⟩
 ·omega
 ·simp only[Value.slice.injEq,Option.some.injEq,Addr.mk.injEq,and_true,true_and]at hv
  obtain⟨⟨rfl,rfl⟩,rfl⟩:=hv
  exact⟨(pre,bL),⟨hp,hn,hc,hl⟩,cV uA⟩
theorem jB(b o cap sz:Nat):sliceAt (some ⟨b,o,none⟩) cap 0 sz=some ⟨b,o,none⟩:=by
 grind [sliceAt,Addr.add_eq]
theorem FP{x y:Operand}{t t2 elem:TypeId}{bH te:Ty}{v2:Value}{b o dl dc mm:Nat}{l src l':List Value}{e:TypeId}{A:HP}(i j:Nat)(hd:Nat.blt d n=true)(hx:ev L x=some (.slice (some ⟨b,o,none⟩) dl dc))(hy:ev L y=some v2)(ht:U.get t=some bH)(hu:bH.eH = .slice elem)(he:U.get elem=some te)(hi:bS H i=some (ag b (cl l e)))(hj:bS H j=some A)(p5:Vw A v2 mm src)(qY:src.length=mm*te.info.size)(fT:∀u∈src.take (min mm dl*te.info.size),u.oneCell'=true)(Bd:o+(min mm dl)*te.info.size≤l.length)(Iw:l'=l.take o++src.take (min mm dl*te.info.size)++l.drop (o+min mm dl*te.info.size))(hp:jk i (ag b (cl l' e)) H [] = .mk H')(hS:∀w,Sat G w H'→Sx rest S w)(h:J P f n R G S all rest k ((d,.int .i64 (min mm dl:Nat))::L) H') :
  J P f n R G S all (.cons false true ⟨some d,.call { callee := .builtin .copy,args := #[x,y],argTypes := #[t,t2] },ty,pos,af,gd⟩ rest) k L H:=by
 refine lN hd (fun u H1=>u = .int .i64 (min mm dl:Nat)∧H1=H') (fun a w ha hw=>?_) ?_ ?_
 ·have hf:=tP (P:=P) (q:=min mm dl) p5 hw hj qY (Nat.min_le_left _ _)
  obtain⟨a2,c2,YQ,_⟩:=p5
  subst YQ
  have h3:(src.take (min mm dl*te.info.size)).length=min mm dl*te.info.size:=by rw[List.length_take,qY];exact Nat.min_eq_left (Nat.mul_le_mul_right _ (Nat.min_le_left _ _))
  have dD:=eO (P:=P) (src.take (min mm dl*te.info.size)) 0 o l w (hw.qa hi) (by rw[h3];simpa using Bd) fT
  simp only[Nat.add_zero,h3,← Iw]at dD
  refine⟨_,_,H',?_,⟨rfl,rfl⟩,hw.put hi hp⟩
  simp only[execOp,resolve,invoke,builtin,Sem.run_bind,Sem.run_pure,Result.andThen_ok,List.map_toArray,List.map_cons,List.map_nil,ha.ev hx,ha.ev hy,Builtin.copy_,List.getElem?_toArray,List.getElem?_cons_zero,List.getElem?_cons_succ,
   run_underlying ht,hu,Builtin.lenOf,run_sizeOf he]
  rw[show Nat.min mm dl=min mm dl from rfl]
  simp only[hf,Result.andThen_ok,dD,goInt]
 ·grind
 grind
end
end Go.SL
namespace Go.SL
def NI{P:Program}{f:FuncId}{n:Nat}{R:Ending→World→Prop}{G:bY}{k:List Item}{L:dS}{H:List HP}{e:TypeId}{sz nn c:Nat}{a:Option Addr}{cs:List Value}(i:Nat)(hi:bS H i=some (aI e sz (.slice a nn c) nn cs))(h:nn≤c→cs.length=nn*sz→Vw (aI e sz (.slice a nn c) nn cs) (.slice a nn c) nn cs→K P f n R G k L H):K P f n R G k L H :=
 nY fun⟨w,hw⟩=>by
  obtain⟨h1,_,hA⟩:=hw.jG hi
  have hv:=Vw.lZ e sz _ nn cs ⟨h1,hA⟩
  obtain⟨hl,⟨a,lB,rfl,_⟩|⟨b,o,cap,pre,bL,lB,_,hc,_⟩⟩:=hA
  ·simp only[Value.slice.injEq]at lB;exact h ai hl hv
  ·simp only[Value.slice.injEq]at lB;exact h ai hl hv
def Vw.aaa{A:HP}{a:Option Addr}{n cap s:Nat}{cs:List Value}(h:Vw A (.slice a n cap) n cs)(k:Nat):Vw A (.slice (sliceAt a cap 0 s) k cap) k (cs.take (k*s)):=by
 have h':=h
 obtain⟨a',zh,hv,h0|⟨b',o',ha,hc⟩⟩:=h
 ·subst h0;exact⟨_,cap,rfl,.inl (by simp)⟩
 ·simp only[Value.slice.injEq,true_and]at hv
  obtain⟨rfl,_⟩:=hv
  subst ha
  rw[jB]
  exact h'.front k cap (k*s)
def Vw.Hr{A:HP}{a:Option Addr}{n cap s:Nat}{cs:List Value}(h:Vw A (.slice a n cap) n cs)(hl:cs.length=n*s)(hn:n≤cap)(k:Nat)(hk:k≤n):Vw A (.slice (sliceAt a cap k s) (n-k) (cap-k)) (n-k) (cs.drop (k*s)):=by
 have h':=h
 obtain⟨a',zh,hv,h0|⟨b',o',ha,hc⟩⟩:=h
 ·subst h0;exact⟨_,_,rfl,.inl (by simp)⟩
 ·simp only[Value.slice.injEq,true_and]at hv
  obtain⟨rfl,_⟩:=hv
  subst ha
  by_cases Kr:k=cap
  ·have:cs.drop (k*s)=[]:=List.eq_nil_of_length_eq_zero (by rw[List.length_drop,hl,Kr,show n=cap from by omega];omega)
   rw[this];exact⟨_,_,rfl,.inl rfl⟩
  ·rw[pP _ _ _ _ _ Kr]
   exact h'.back (n-k) (cap-k) (k*s)
section
variable{P:Program}{U:Tr}[hU:er P U]{f:FuncId}{n:Nat}{R:Ending→World→Prop}{G:bY}{k:List Item}{L:dS}{H H':List HP}{S:World→Prop}{all:Array Oper}{rest:Pl}{ty:TypeId}{pos:String}{af:Array Edge}{gd:Option (Nat × Bool)}{m:Bool}{d:Tmp}
theorem BW{t:TypeId}{x y:Operand}{b o q off c nn sz:Nat}{bH:Ty}{u:Value}{e:TypeId}{cs:List Value}(i:Nat)(hS:∀w,Sat G w H'→Sx rest S w)(hx:ev L x=some (.pointer (some ⟨b,off,none⟩)))(iq:off=o+q)(hy:ev L y=some u)(ht:U.get t=some bH)(iF:Nat.beq bH.info.size 1=true)(hc:aX u=[u])(fT:gr [u]=true)(hi:bS H i=some (aI e sz (.slice (some ⟨b,o,none⟩) nn c) nn cs))(h0:0<nn)(hq:q<nn*sz)(hp:jk i (aI e sz (.slice (some ⟨b,o,none⟩) nn c) nn (cs.set q u)) H [] = .mk H')(h:J P f n R G S all rest k L H'):J P f n R G S all (.cons false true ⟨none,.store t x y,ty,pos,af,gd⟩ rest) k L H:=by
 subst iq
 refine aS (ao.perm (ct (by rw[← cK];exact hi))) ?_
 refine Ew (B:=fun x:List Value × List Value=>[ag b (cl (x.1++cs++x.2) e)]) (fun h hs=>F' h0 h hs) ?_
 rintro⟨pre,bL⟩⟨h1,h2,h3,h4⟩
 simp only at h1 h2 h3 h4
 have jX:(pre++cs++bL).set (o+q) u=pre++cs.set q u++bL:=by
  grind
 have hE:ao (ag b (cl (pre++cs.set q u++bL) e)::H.eraseIdx i) H':=by
  have h5:=lX i _ _ H [] H' hp hi
  exact(gN h1 h2 (by rw[List.length_set];exact h3) (by rw[List.length_set];exact h4) _).trans (ao.perm (by simpa using h5.symm))
 refine dv (U:=U) (l':=pre++cs.set q u++bL) 0 (fun w hw=>hS w (hw.cn hE)) hx hy ht (by rw[hc,Nat.eq_of_beq_eq_true iF];rfl) (by rw[hc];rfl) (by rw[hc];exact fT) rfl ?_ rfl (aS hE h)
 grind [EU]
end
end Go.SL
namespace Go.Proofs.YtnkfkabokmcgoaaGreatDoor
open Go.SL
def TP(i:TypeId)(a b:TypeInfo):Prop:=Tryz.prog.underlying i=some a.desc∧Tryz.prog.info? i=some b
def aaG:TP 1 Tryz.t1 Tryz.t1:=⟨ae,ae⟩
def aaF:TP 2 Tryz.t2 Tryz.t2:=⟨ae,ae⟩
def aaE:TP 3 Tryz.t3 Tryz.t3:=⟨ae,ae⟩
def aaD:TP 4 Tryz.t4 Tryz.t4:=⟨ae,ae⟩
def aaC:TP 5 Tryz.t5 Tryz.t5:=⟨ae,ae⟩
def aaB:TP 6 Tryz.t5 Tryz.t6:=⟨ae,ae⟩
def aaA:TP 7 Tryz.t7 Tryz.t7:=⟨ae,ae⟩
def aaz:TP 8 Tryz.t7 Tryz.t8:=⟨ae,ae⟩
def aay:TP 9 Tryz.t9 Tryz.t9:=⟨ae,ae⟩
def Yu:TP 10 Tryz.t9 Tryz.t10:=⟨ae,ae⟩
def Yt:TP 11 Tryz.t9 Tryz.t11:=⟨ae,ae⟩
def Ys:TP 12 Tryz.t12 Tryz.t12:=⟨ae,ae⟩
def Yr:TP 13 Tryz.t13 Tryz.t13:=⟨ae,ae⟩
def Yq:TP 14 Tryz.t13 Tryz.t14:=⟨ae,ae⟩
def Yp:TP 15 Tryz.t15 Tryz.t15:=⟨ae,ae⟩
def Yo:TP 16 Tryz.t16 Tryz.t16:=⟨ae,ae⟩
def Yn:TP 17 Tryz.t17 Tryz.t17:=⟨ae,ae⟩
def Ym:TP 18 Tryz.t18 Tryz.t18:=⟨ae,ae⟩
def Yl:TP 19 Tryz.t18 Tryz.t19:=⟨ae,ae⟩
def Yk:TP 20 Tryz.t20 Tryz.t20:=⟨ae,ae⟩
def Yj:TP 21 Tryz.t21 Tryz.t21:=⟨ae,ae⟩
def Yi:TP 22 Tryz.t22 Tryz.t22:=⟨ae,ae⟩
def Yh:TP 23 Tryz.t23 Tryz.t23:=⟨ae,ae⟩
def Yg:TP 24 Tryz.t24 Tryz.t24:=⟨ae,ae⟩
def Yf:TP 25 Tryz.t25 Tryz.t25:=⟨ae,ae⟩
def Ye:TP 26 Tryz.t3 Tryz.t26:=⟨ae,ae⟩
def Yd:TP 28 Tryz.t28 Tryz.t28:=⟨ae,ae⟩
def Yc:TP 29 Tryz.t29 Tryz.t29:=⟨ae,ae⟩
def Yb:TP 31 Tryz.t31 Tryz.t31:=⟨ae,ae⟩
def Ya:TP 32 Tryz.t32 Tryz.t32:=⟨ae,ae⟩
def X':TP 33 Tryz.t32 Tryz.t33:=⟨ae,ae⟩
def X9:TP 34 Tryz.t34 Tryz.t34:=⟨ae,ae⟩
def X8:TP 35 Tryz.t35 Tryz.t35:=⟨ae,ae⟩
def X7:TP 36 Tryz.t35 Tryz.t36:=⟨ae,ae⟩
def X6:TP 37 Tryz.t37 Tryz.t37:=⟨ae,ae⟩
def X5:TP 38 Tryz.t38 Tryz.t38:=⟨ae,ae⟩
def X4:TP 39 Tryz.t39 Tryz.t39:=⟨ae,ae⟩
def X3:TP 40 Tryz.t40 Tryz.t40:=⟨ae,ae⟩
def X2:TP 41 Tryz.t41 Tryz.t41:=⟨ae,ae⟩
def X1:TP 42 Tryz.t41 Tryz.t42:=⟨ae,ae⟩
def X0:TP 43 Tryz.t43 Tryz.t43:=⟨ae,ae⟩
def XZ:TP 44 Tryz.t44 Tryz.t44:=⟨ae,ae⟩
def XY:TP 45 Tryz.t44 Tryz.t45:=⟨ae,ae⟩
def XX:TP 46 Tryz.t46 Tryz.t46:=⟨ae,ae⟩
def XW:TP 48 Tryz.t48 Tryz.t48:=⟨ae,ae⟩
def XV:TP 49 Tryz.t49 Tryz.t49:=⟨ae,ae⟩
def XU:TP 50 Tryz.t50 Tryz.t50:=⟨ae,ae⟩
def XT:TP 51 Tryz.t51 Tryz.t51:=⟨ae,ae⟩
def XS:TP 52 Tryz.t52 Tryz.t52:=⟨ae,ae⟩
def XR:TP 53 Tryz.t53 Tryz.t53:=⟨ae,ae⟩
def XQ:TP 54 Tryz.t54 Tryz.t54:=⟨ae,ae⟩
def XP:TP 55 Tryz.t55 Tryz.t55:=⟨ae,ae⟩
def XO:TP 56 Tryz.t55 Tryz.t56:=⟨ae,ae⟩
def XN:TP 57 Tryz.t57 Tryz.t57:=⟨ae,ae⟩
def XM:TP 58 Tryz.t57 Tryz.t58:=⟨ae,ae⟩
def XL:TP 59 Tryz.t59 Tryz.t59:=⟨ae,ae⟩
def XK:TP 60 Tryz.t60 Tryz.t60:=⟨ae,ae⟩
def XJ:TP 61 Tryz.t61 Tryz.t61:=⟨ae,ae⟩
def XI:TP 62 Tryz.t61 Tryz.t62:=⟨ae,ae⟩
def XH:TP 63 Tryz.t63 Tryz.t63:=⟨ae,ae⟩
def XG:TP 64 Tryz.t64 Tryz.t64:=⟨ae,ae⟩
def XF:TP 65 Tryz.t65 Tryz.t65:=⟨ae,ae⟩
def XE:TP 66 Tryz.t66 Tryz.t66:=⟨ae,ae⟩
def XD:TP 67 Tryz.t67 Tryz.t67:=⟨ae,ae⟩
def XC:TP 68 Tryz.t68 Tryz.t68:=⟨ae,ae⟩
def XB:TP 69 Tryz.t69 Tryz.t69:=⟨ae,ae⟩
def XA:TP 70 Tryz.t70 Tryz.t70:=⟨ae,ae⟩
def Xz:TP 71 Tryz.t71 Tryz.t71:=⟨ae,ae⟩
def Xy:TP 72 Tryz.t72 Tryz.t72:=⟨ae,ae⟩
def Xx:TP 73 Tryz.t72 Tryz.t73:=⟨ae,ae⟩
def Xw:TP 75 Tryz.t75 Tryz.t75:=⟨ae,ae⟩
def Xv:TP 76 Tryz.t76 Tryz.t76:=⟨ae,ae⟩
def Xu:TP 78 Tryz.t78 Tryz.t78:=⟨ae,ae⟩
def Xt:TP 80 Tryz.t80 Tryz.t80:=⟨ae,ae⟩
def Xr:TP 82 Tryz.t82 Tryz.t82:=⟨ae,ae⟩
def Xq:TP 84 Tryz.t84 Tryz.t84:=⟨ae,ae⟩
def Xp:TP 85 Tryz.t85 Tryz.t85:=⟨ae,ae⟩
def Xo:TP 87 Tryz.t87 Tryz.t87:=⟨ae,ae⟩
def Xn:TP 88 Tryz.t88 Tryz.t88:=⟨ae,ae⟩
def Xm:TP 90 Tryz.t90 Tryz.t90:=⟨ae,ae⟩
def Xl:TP 91 Tryz.t91 Tryz.t91:=⟨ae,ae⟩
def Xk:TP 92 Tryz.t92 Tryz.t92:=⟨ae,ae⟩
def Xj:TP 93 Tryz.t93 Tryz.t93:=⟨ae,ae⟩
def Xi:TP 95 Tryz.t95 Tryz.t95:=⟨ae,ae⟩
def Xh:TP 96 Tryz.t96 Tryz.t96:=⟨ae,ae⟩
def Xg:TP 98 Tryz.t98 Tryz.t98:=⟨ae,ae⟩
def Xf:TP 99 Tryz.t99 Tryz.t99:=⟨ae,ae⟩
def U0:TP 100 Tryz.t100 Tryz.t100:=⟨ae,ae⟩
def UZ:TP 101 Tryz.t100 Tryz.t101:=⟨ae,ae⟩
def UY:TP 102 Tryz.t102 Tryz.t102:=⟨ae,ae⟩
def UX:TP 103 Tryz.t103 Tryz.t103:=⟨ae,ae⟩
def UW:TP 104 Tryz.t104 Tryz.t104:=⟨ae,ae⟩
def UU:TP 106 Tryz.t106 Tryz.t106:=⟨ae,ae⟩
def UT:TP 107 Tryz.t106 Tryz.t107:=⟨ae,ae⟩
def US:TP 108 Tryz.t108 Tryz.t108:=⟨ae,ae⟩
def UR:TP 109 Tryz.t108 Tryz.t109:=⟨ae,ae⟩
def UQ:TP 110 Tryz.t110 Tryz.t110:=⟨ae,ae⟩
def UP:TP 111 Tryz.t111 Tryz.t111:=⟨ae,ae⟩
def UO:TP 112 Tryz.t112 Tryz.t112:=⟨ae,ae⟩
def UN:TP 113 Tryz.t113 Tryz.t113:=⟨ae,ae⟩
def UM:TP 114 Tryz.t114 Tryz.t114:=⟨ae,ae⟩
def UL:TP 115 Tryz.t115 Tryz.t115:=⟨ae,ae⟩
def UK:TP 116 Tryz.t115 Tryz.t116:=⟨ae,ae⟩
def UJ:TP 117 Tryz.t117 Tryz.t117:=⟨ae,ae⟩
def UI:TP 118 Tryz.t118 Tryz.t118:=⟨ae,ae⟩
def UH:TP 119 Tryz.t119 Tryz.t119:=⟨ae,ae⟩
def UG:TP 120 Tryz.t119 Tryz.t120:=⟨ae,ae⟩
def UF:TP 121 Tryz.t121 Tryz.t121:=⟨ae,ae⟩
def UE:TP 122 Tryz.t122 Tryz.t122:=⟨ae,ae⟩
def UD:TP 123 Tryz.t123 Tryz.t123:=⟨ae,ae⟩
def UC:TP 124 Tryz.t124 Tryz.t124:=⟨ae,ae⟩
def UB:TP 125 Tryz.t125 Tryz.t125:=⟨ae,ae⟩
def UA:TP 126 Tryz.t126 Tryz.t126:=⟨ae,ae⟩
def Uz:TP 128 Tryz.t128 Tryz.t128:=⟨ae,ae⟩
def Uy:TP 129 Tryz.t129 Tryz.t129:=⟨ae,ae⟩
def Ux:TP 130 Tryz.t130 Tryz.t130:=⟨ae,ae⟩
def Uw:TP 131 Tryz.t130 Tryz.t131:=⟨ae,ae⟩
def Uv:TP 132 Tryz.t132 Tryz.t132:=⟨ae,ae⟩
def Uu:TP 133 Tryz.t133 Tryz.t133:=⟨ae,ae⟩
def Ut:TP 134 Tryz.t134 Tryz.t134:=⟨ae,ae⟩
def Us:TP 135 Tryz.t135 Tryz.t135:=⟨ae,ae⟩
def Ur:TP 136 Tryz.t136 Tryz.t136:=⟨ae,ae⟩
def Uq:TP 137 Tryz.t137 Tryz.t137:=⟨ae,ae⟩
def Up:TP 138 Tryz.t137 Tryz.t138:=⟨ae,ae⟩
def Uo:TP 139 Tryz.t139 Tryz.t139:=⟨ae,ae⟩
def Un:TP 140 Tryz.t140 Tryz.t140:=⟨ae,ae⟩
def Um:TP 141 Tryz.t141 Tryz.t141:=⟨ae,ae⟩
def Ul:TP 142 Tryz.t142 Tryz.t142:=⟨ae,ae⟩
def Uk:TP 143 Tryz.t142 Tryz.t143:=⟨ae,ae⟩
def Uj:TP 144 Tryz.t144 Tryz.t144:=⟨ae,ae⟩
def Ui:TP 145 Tryz.t145 Tryz.t145:=⟨ae,ae⟩
def Uh:TP 146 Tryz.t145 Tryz.t146:=⟨ae,ae⟩
def Ug:TP 147 Tryz.t147 Tryz.t147:=⟨ae,ae⟩
def Uf:TP 148 Tryz.t148 Tryz.t148:=⟨ae,ae⟩
def Ue:TP 149 Tryz.t148 Tryz.t149:=⟨ae,ae⟩
def Ud:TP 150 Tryz.t150 Tryz.t150:=⟨ae,ae⟩
def Uc:TP 151 Tryz.t151 Tryz.t151:=⟨ae,ae⟩
def Ub:TP 152 Tryz.t152 Tryz.t152:=⟨ae,ae⟩
def Ua:TP 153 Tryz.t152 Tryz.t153:=⟨ae,ae⟩
def T':TP 154 Tryz.t154 Tryz.t154:=⟨ae,ae⟩
def T9:TP 155 Tryz.t155 Tryz.t155:=⟨ae,ae⟩
def T8:TP 156 Tryz.t156 Tryz.t156:=⟨ae,ae⟩
def T7:TP 157 Tryz.t157 Tryz.t157:=⟨ae,ae⟩
def T6:TP 158 Tryz.t157 Tryz.t158:=⟨ae,ae⟩
def T5:TP 159 Tryz.t159 Tryz.t159:=⟨ae,ae⟩
def T4:TP 160 Tryz.t160 Tryz.t160:=⟨ae,ae⟩
def T3:TP 161 Tryz.t160 Tryz.t161:=⟨ae,ae⟩
def T2:TP 162 Tryz.t162 Tryz.t162:=⟨ae,ae⟩
def T1:TP 163 Tryz.t162 Tryz.t163:=⟨ae,ae⟩
def TZ:TP 164 Tryz.t164 Tryz.t164:=⟨ae,ae⟩
def TY:TP 165 Tryz.t165 Tryz.t165:=⟨ae,ae⟩
def TX:TP 166 Tryz.t166 Tryz.t166:=⟨ae,ae⟩
def TW:TP 167 Tryz.t166 Tryz.t167:=⟨ae,ae⟩
def TV:TP 168 Tryz.t168 Tryz.t168:=⟨ae,ae⟩
def TU:TP 169 Tryz.t169 Tryz.t169:=⟨ae,ae⟩
def TT:TP 170 Tryz.t170 Tryz.t170:=⟨ae,ae⟩
def TS:TP 171 Tryz.t171 Tryz.t171:=⟨ae,ae⟩
def TR:TP 172 Tryz.t172 Tryz.t172:=⟨ae,ae⟩
def TQ:TP 173 Tryz.t173 Tryz.t173:=⟨ae,ae⟩
def TO:TP 174 Tryz.t174 Tryz.t174:=⟨ae,ae⟩
def TN:TP 175 Tryz.t175 Tryz.t175:=⟨ae,ae⟩
def TM:TP 176 Tryz.t176 Tryz.t176:=⟨ae,ae⟩
def TL:TP 177 Tryz.t177 Tryz.t177:=⟨ae,ae⟩
def TK:TP 178 Tryz.t178 Tryz.t178:=⟨ae,ae⟩
def TJ:TP 179 Tryz.t179 Tryz.t179:=⟨ae,ae⟩
def TI:TP 180 Tryz.t180 Tryz.t180:=⟨ae,ae⟩
def TH:TP 181 Tryz.t181 Tryz.t181:=⟨ae,ae⟩
def TG:TP 182 Tryz.t182 Tryz.t182:=⟨ae,ae⟩
def TF:TP 183 Tryz.t183 Tryz.t183:=⟨ae,ae⟩
def TE:TP 184 Tryz.t184 Tryz.t184:=⟨ae,ae⟩
def TD:TP 185 Tryz.t185 Tryz.t185:=⟨ae,ae⟩
def TB:TP 186 Tryz.t186 Tryz.t186:=⟨ae,ae⟩
def TA:TP 187 Tryz.t186 Tryz.t187:=⟨ae,ae⟩
def Tz:TP 189 Tryz.t189 Tryz.t189:=⟨ae,ae⟩
def Tx:TP 190 Tryz.t190 Tryz.t190:=⟨ae,ae⟩
def Tw:TP 191 Tryz.t191 Tryz.t191:=⟨ae,ae⟩
def Tv:TP 192 Tryz.t191 Tryz.t192:=⟨ae,ae⟩
def Tu:TP 193 Tryz.t193 Tryz.t193:=⟨ae,ae⟩
def Tt:TP 195 Tryz.t195 Tryz.t195:=⟨ae,ae⟩
def Ts:TP 197 Tryz.t197 Tryz.t197:=⟨ae,ae⟩
def Tq:TP 199 Tryz.t199 Tryz.t199:=⟨ae,ae⟩
def Tp:TP 201 Tryz.t201 Tryz.t201:=⟨ae,ae⟩
def To:TP 203 Tryz.t203 Tryz.t203:=⟨ae,ae⟩
def Tn:TP 204 Tryz.t204 Tryz.t204:=⟨ae,ae⟩
def Tm:TP 205 Tryz.t205 Tryz.t205:=⟨ae,ae⟩
def Tl:TP 206 Tryz.t206 Tryz.t206:=⟨ae,ae⟩
def Tj:TP 208 Tryz.t208 Tryz.t208:=⟨ae,ae⟩
def Ti:TP 209 Tryz.t209 Tryz.t209:=⟨ae,ae⟩
def Th:TP 210 Tryz.t210 Tryz.t210:=⟨ae,ae⟩
def Tg:TP 212 Tryz.t212 Tryz.t212:=⟨ae,ae⟩
def Tf:TP 213 Tryz.t213 Tryz.t213:=⟨ae,ae⟩
def Te:TP 214 Tryz.t214 Tryz.t214:=⟨ae,ae⟩
def Td:TP 216 Tryz.t216 Tryz.t216:=⟨ae,ae⟩
def Tc:TP 217 Tryz.t217 Tryz.t217:=⟨ae,ae⟩
def Tb:TP 218 Tryz.t218 Tryz.t218:=⟨ae,ae⟩
def Ta:TP 219 Tryz.t218 Tryz.t219:=⟨ae,ae⟩
def S':TP 220 Tryz.t220 Tryz.t220:=⟨ae,ae⟩
def S9:TP 221 Tryz.t221 Tryz.t221:=⟨ae,ae⟩
def S8:TP 222 Tryz.t222 Tryz.t222:=⟨ae,ae⟩
def S7:TP 223 Tryz.t223 Tryz.t223:=⟨ae,ae⟩
def S6:TP 225 Tryz.t225 Tryz.t225:=⟨ae,ae⟩
def S5:TP 226 Tryz.t226 Tryz.t226:=⟨ae,ae⟩
def S4:TP 227 Tryz.t227 Tryz.t227:=⟨ae,ae⟩
def S3:TP 228 Tryz.t228 Tryz.t228:=⟨ae,ae⟩
def S0:TP 229 Tryz.t229 Tryz.t229:=⟨ae,ae⟩
def SZ:TP 231 Tryz.t231 Tryz.t231:=⟨ae,ae⟩
def SY:TP 233 Tryz.t233 Tryz.t233:=⟨ae,ae⟩
def SX:TP 234 Tryz.t234 Tryz.t234:=⟨ae,ae⟩
def SV:TP 235 Tryz.t234 Tryz.t235:=⟨ae,ae⟩
def SU:TP 236 Tryz.t236 Tryz.t236:=⟨ae,ae⟩
def SS:TP 237 Tryz.t237 Tryz.t237:=⟨ae,ae⟩
def SR:TP 238 Tryz.t238 Tryz.t238:=⟨ae,ae⟩
def SQ:TP 239 Tryz.t238 Tryz.t239:=⟨ae,ae⟩
def SP:TP 241 Tryz.t241 Tryz.t241:=⟨ae,ae⟩
def SO:TP 242 Tryz.t242 Tryz.t242:=⟨ae,ae⟩
def SN:TP 243 Tryz.t243 Tryz.t243:=⟨ae,ae⟩
def SM:TP 244 Tryz.t244 Tryz.t244:=⟨ae,ae⟩
def SK:TP 245 Tryz.t245 Tryz.t245:=⟨ae,ae⟩
def SH:TP 246 Tryz.t246 Tryz.t246:=⟨ae,ae⟩
def SG:TP 248 Tryz.t248 Tryz.t248:=⟨ae,ae⟩
def SF:TP 249 Tryz.t249 Tryz.t249:=⟨ae,ae⟩
def SE:TP 250 Tryz.t250 Tryz.t250:=⟨ae,ae⟩
def SD:TP 251 Tryz.t251 Tryz.t251:=⟨ae,ae⟩
def SC:TP 252 Tryz.t252 Tryz.t252:=⟨ae,ae⟩
def SB:TP 253 Tryz.t253 Tryz.t253:=⟨ae,ae⟩
def SA:TP 254 Tryz.t254 Tryz.t254:=⟨ae,ae⟩
def Sz:TP 256 Tryz.t256 Tryz.t256:=⟨ae,ae⟩
def Sy:TP 258 Tryz.t258 Tryz.t258:=⟨ae,ae⟩
def Sw:TP 259 Tryz.t259 Tryz.t259:=⟨ae,ae⟩
def Sv:TP 260 Tryz.t260 Tryz.t260:=⟨ae,ae⟩
def Su:TP 262 Tryz.t262 Tryz.t262:=⟨ae,ae⟩
def Ss:TP 263 Tryz.t263 Tryz.t263:=⟨ae,ae⟩
def Sr:TP 264 Tryz.t264 Tryz.t264:=⟨ae,ae⟩
def Sq:TP 266 Tryz.t266 Tryz.t266:=⟨ae,ae⟩
def Sp:TP 267 Tryz.t267 Tryz.t267:=⟨ae,ae⟩
def Sn:TP 268 Tryz.t268 Tryz.t268:=⟨ae,ae⟩
def Sm:TP 269 Tryz.t269 Tryz.t269:=⟨ae,ae⟩
def Sl:TP 270 Tryz.t270 Tryz.t270:=⟨ae,ae⟩
def Sk:TP 271 Tryz.t271 Tryz.t271:=⟨ae,ae⟩
def Sj:TP 272 Tryz.t272 Tryz.t272:=⟨ae,ae⟩
def Si:TP 273 Tryz.t273 Tryz.t273:=⟨ae,ae⟩
def Sh:TP 274 Tryz.t274 Tryz.t274:=⟨ae,ae⟩
def Sg:TP 275 Tryz.t274 Tryz.t275:=⟨ae,ae⟩
def Sf:TP 277 Tryz.t277 Tryz.t277:=⟨ae,ae⟩
def Se:TP 278 Tryz.t278 Tryz.t278:=⟨ae,ae⟩
def Sd:TP 279 Tryz.t279 Tryz.t279:=⟨ae,ae⟩
def Sc:TP 280 Tryz.t280 Tryz.t280:=⟨ae,ae⟩
def Sb:TP 281 Tryz.t281 Tryz.t281:=⟨ae,ae⟩
def Sa:TP 282 Tryz.t282 Tryz.t282:=⟨ae,ae⟩
def R':TP 283 Tryz.t283 Tryz.t283:=⟨ae,ae⟩
def R9:TP 284 Tryz.t284 Tryz.t284:=⟨ae,ae⟩
def R8:TP 285 Tryz.t285 Tryz.t285:=⟨ae,ae⟩
def R7:TP 286 Tryz.t286 Tryz.t286:=⟨ae,ae⟩
def R6:TP 287 Tryz.t287 Tryz.t287:=⟨ae,ae⟩
def R5:TP 288 Tryz.t288 Tryz.t288:=⟨ae,ae⟩
def R4:TP 290 Tryz.t290 Tryz.t290:=⟨ae,ae⟩
def R3:TP 291 Tryz.t291 Tryz.t291:=⟨ae,ae⟩
def R1:TP 292 Tryz.t291 Tryz.t292:=⟨ae,ae⟩
def R0:TP 293 Tryz.t293 Tryz.t293:=⟨ae,ae⟩
def RZ:TP 295 Tryz.t295 Tryz.t295:=⟨ae,ae⟩
def RY:TP 296 Tryz.t296 Tryz.t296:=⟨ae,ae⟩
def RX:TP 297 Tryz.t296 Tryz.t297:=⟨ae,ae⟩
def RW:TP 298 Tryz.t298 Tryz.t298:=⟨ae,ae⟩
def RV:TP 299 Tryz.t299 Tryz.t299:=⟨ae,ae⟩
def RU:TP 301 Tryz.t301 Tryz.t301:=⟨ae,ae⟩
def RT:TP 302 Tryz.t302 Tryz.t302:=⟨ae,ae⟩
def RS:TP 303 Tryz.t303 Tryz.t303:=⟨ae,ae⟩
def RR:TP 304 Tryz.t304 Tryz.t304:=⟨ae,ae⟩
def RQ:TP 305 Tryz.t305 Tryz.t305:=⟨ae,ae⟩
def RP:TP 306 Tryz.t306 Tryz.t306:=⟨ae,ae⟩
def RO:TP 307 Tryz.t306 Tryz.t307:=⟨ae,ae⟩
def RN:TP 309 Tryz.t309 Tryz.t309:=⟨ae,ae⟩
def RM:TP 310 Tryz.t310 Tryz.t310:=⟨ae,ae⟩
def RL:TP 311 Tryz.t311 Tryz.t311:=⟨ae,ae⟩
def RK:TP 312 Tryz.t312 Tryz.t312:=⟨ae,ae⟩
def RJ:TP 314 Tryz.t314 Tryz.t314:=⟨ae,ae⟩
def RI:TP 315 Tryz.t315 Tryz.t315:=⟨ae,ae⟩
def RH:TP 316 Tryz.t316 Tryz.t316:=⟨ae,ae⟩
def RG:TP 317 Tryz.t317 Tryz.t317:=⟨ae,ae⟩
def RF:TP 318 Tryz.t318 Tryz.t318:=⟨ae,ae⟩
def RE:TP 319 Tryz.t319 Tryz.t319:=⟨ae,ae⟩
def RD:TP 320 Tryz.t320 Tryz.t320:=⟨ae,ae⟩
def RC:TP 321 Tryz.t320 Tryz.t321:=⟨ae,ae⟩
def RB:TP 322 Tryz.t322 Tryz.t322:=⟨ae,ae⟩
def RA:TP 323 Tryz.t323 Tryz.t323:=⟨ae,ae⟩
def Rz:TP 325 Tryz.t325 Tryz.t325:=⟨ae,ae⟩
def Ry:TP 326 Tryz.t325 Tryz.t326:=⟨ae,ae⟩
def Rx:TP 327 Tryz.t327 Tryz.t327:=⟨ae,ae⟩
def Rw:TP 329 Tryz.t329 Tryz.t329:=⟨ae,ae⟩
def Rv:TP 330 Tryz.t330 Tryz.t330:=⟨ae,ae⟩
def Ru:TP 331 Tryz.t331 Tryz.t331:=⟨ae,ae⟩
def Rs:TP 332 Tryz.t332 Tryz.t332:=⟨ae,ae⟩
def Rr:TP 333 Tryz.t333 Tryz.t333:=⟨ae,ae⟩
def Rq:TP 334 Tryz.t334 Tryz.t334:=⟨ae,ae⟩
def Rp:TP 335 Tryz.t335 Tryz.t335:=⟨ae,ae⟩
def Ro:TP 336 Tryz.t336 Tryz.t336:=⟨ae,ae⟩
def Rn:TP 338 Tryz.t338 Tryz.t338:=⟨ae,ae⟩
def Rm:TP 339 Tryz.t339 Tryz.t339:=⟨ae,ae⟩
def Rl:TP 340 Tryz.t340 Tryz.t340:=⟨ae,ae⟩
def Rk:TP 342 Tryz.t342 Tryz.t342:=⟨ae,ae⟩
def Rj:TP 343 Tryz.t343 Tryz.t343:=⟨ae,ae⟩
def Ri:TP 344 Tryz.t344 Tryz.t344:=⟨ae,ae⟩
def Rh:TP 345 Tryz.t345 Tryz.t345:=⟨ae,ae⟩
def Rg:TP 346 Tryz.t346 Tryz.t346:=⟨ae,ae⟩
def Rf:TP 347 Tryz.t346 Tryz.t347:=⟨ae,ae⟩
def Re:TP 348 Tryz.t348 Tryz.t348:=⟨ae,ae⟩
def Rc:TP 349 Tryz.t349 Tryz.t349:=⟨ae,ae⟩
def Rb:TP 350 Tryz.t350 Tryz.t350:=⟨ae,ae⟩
def Ra:TP 351 Tryz.t351 Tryz.t351:=⟨ae,ae⟩
def Q':TP 352 Tryz.t352 Tryz.t352:=⟨ae,ae⟩
def Q9:TP 353 Tryz.t353 Tryz.t353:=⟨ae,ae⟩
def Q8:TP 354 Tryz.t354 Tryz.t354:=⟨ae,ae⟩
def Q7:TP 355 Tryz.t355 Tryz.t355:=⟨ae,ae⟩
def Q6:TP 356 Tryz.t356 Tryz.t356:=⟨ae,ae⟩
def Q5:TP 357 Tryz.t357 Tryz.t357:=⟨ae,ae⟩
def Q4:TP 358 Tryz.t358 Tryz.t358:=⟨ae,ae⟩
def Q3:TP 359 Tryz.t359 Tryz.t359:=⟨ae,ae⟩
def Q2:TP 360 Tryz.t360 Tryz.t360:=⟨ae,ae⟩
def Q1:TP 361 Tryz.t361 Tryz.t361:=⟨ae,ae⟩
def Q0:TP 362 Tryz.t362 Tryz.t362:=⟨ae,ae⟩
def QZ:TP 363 Tryz.t363 Tryz.t363:=⟨ae,ae⟩
def QY:TP 364 Tryz.t364 Tryz.t364:=⟨ae,ae⟩
def QX:TP 365 Tryz.t365 Tryz.t365:=⟨ae,ae⟩
def QW:TP 366 Tryz.t366 Tryz.t366:=⟨ae,ae⟩
def QV:TP 367 Tryz.t367 Tryz.t367:=⟨ae,ae⟩
def QU:TP 368 Tryz.t368 Tryz.t368:=⟨ae,ae⟩
def QT:TP 369 Tryz.t369 Tryz.t369:=⟨ae,ae⟩
def QS:TP 370 Tryz.t369 Tryz.t370:=⟨ae,ae⟩
def QR:TP 371 Tryz.t371 Tryz.t371:=⟨ae,ae⟩
def QQ:TP 372 Tryz.t372 Tryz.t372:=⟨ae,ae⟩
def QP:TP 373 Tryz.t373 Tryz.t373:=⟨ae,ae⟩
def QO:TP 374 Tryz.t374 Tryz.t374:=⟨ae,ae⟩
def QN:TP 375 Tryz.t375 Tryz.t375:=⟨ae,ae⟩
def QM:TP 376 Tryz.t376 Tryz.t376:=⟨ae,ae⟩
def QL:TP 377 Tryz.t377 Tryz.t377:=⟨ae,ae⟩
def QK:TP 378 Tryz.t377 Tryz.t378:=⟨ae,ae⟩
def QJ:TP 379 Tryz.t379 Tryz.t379:=⟨ae,ae⟩
def QI:TP 380 Tryz.t380 Tryz.t380:=⟨ae,ae⟩
def QH:TP 381 Tryz.t381 Tryz.t381:=⟨ae,ae⟩
def QG:TP 382 Tryz.t381 Tryz.t382:=⟨ae,ae⟩
def QF:TP 383 Tryz.t383 Tryz.t383:=⟨ae,ae⟩
def QE:TP 384 Tryz.t384 Tryz.t384:=⟨ae,ae⟩
def QC:TP 385 Tryz.t385 Tryz.t385:=⟨ae,ae⟩
def QB:TP 386 Tryz.t386 Tryz.t386:=⟨ae,ae⟩
def QA:TP 388 Tryz.t388 Tryz.t388:=⟨ae,ae⟩
def Qz:TP 389 Tryz.t389 Tryz.t389:=⟨ae,ae⟩
def Qy:TP 391 Tryz.t391 Tryz.t391:=⟨ae,ae⟩
def Qx:TP 392 Tryz.t392 Tryz.t392:=⟨ae,ae⟩
def Qw:TP 393 Tryz.t393 Tryz.t393:=⟨ae,ae⟩
def Qv:TP 394 Tryz.t394 Tryz.t394:=⟨ae,ae⟩
def Qu:TP 396 Tryz.t396 Tryz.t396:=⟨ae,ae⟩
def Qt:TP 397 Tryz.t397 Tryz.t397:=⟨ae,ae⟩
def Qs:TP 398 Tryz.t398 Tryz.t398:=⟨ae,ae⟩
def Qr:TP 399 Tryz.t399 Tryz.t399:=⟨ae,ae⟩
def Qq:TP 400 Tryz.t400 Tryz.t400:=⟨ae,ae⟩
def Qp:TP 401 Tryz.t401 Tryz.t401:=⟨ae,ae⟩
def Qo:TP 402 Tryz.t402 Tryz.t402:=⟨ae,ae⟩
def Qn:TP 403 Tryz.t403 Tryz.t403:=⟨ae,ae⟩
def Qm:TP 404 Tryz.t404 Tryz.t404:=⟨ae,ae⟩
def Ql:TP 405 Tryz.t405 Tryz.t405:=⟨ae,ae⟩
def Qj:TP 406 Tryz.t406 Tryz.t406:=⟨ae,ae⟩
def Qi:TP 407 Tryz.t407 Tryz.t407:=⟨ae,ae⟩
def Qh:TP 408 Tryz.t408 Tryz.t408:=⟨ae,ae⟩
def Qg:TP 409 Tryz.t409 Tryz.t409:=⟨ae,ae⟩
def Qf:TP 411 Tryz.t411 Tryz.t411:=⟨ae,ae⟩
def Qe:TP 412 Tryz.t412 Tryz.t412:=⟨ae,ae⟩
def Qd:TP 413 Tryz.t412 Tryz.t413:=⟨ae,ae⟩
def Qc:TP 414 Tryz.t414 Tryz.t414:=⟨ae,ae⟩
def Qb:TP 415 Tryz.t415 Tryz.t415:=⟨ae,ae⟩
def Qa:TP 416 Tryz.t416 Tryz.t416:=⟨ae,ae⟩
def P':TP 417 Tryz.t417 Tryz.t417:=⟨ae,ae⟩
def P9:TP 418 Tryz.t3 Tryz.t418:=⟨ae,ae⟩
def P8:TP 420 Tryz.t420 Tryz.t420:=⟨ae,ae⟩
def P7:TP 421 Tryz.t421 Tryz.t421:=⟨ae,ae⟩
def P6:TP 422 Tryz.t422 Tryz.t422:=⟨ae,ae⟩
def P5:TP 423 Tryz.t423 Tryz.t423:=⟨ae,ae⟩
def P4:TP 424 Tryz.t424 Tryz.t424:=⟨ae,ae⟩
def P3:TP 425 Tryz.t425 Tryz.t425:=⟨ae,ae⟩
def P2:TP 426 Tryz.t426 Tryz.t426:=⟨ae,ae⟩
def P1:TP 427 Tryz.t427 Tryz.t427:=⟨ae,ae⟩
def P0:TP 428 Tryz.t428 Tryz.t428:=⟨ae,ae⟩
def PZ:TP 429 Tryz.t429 Tryz.t429:=⟨ae,ae⟩
def PY:TP 430 Tryz.t430 Tryz.t430:=⟨ae,ae⟩
def PX:TP 431 Tryz.t431 Tryz.t431:=⟨ae,ae⟩
def PW:TP 432 Tryz.t432 Tryz.t432:=⟨ae,ae⟩
def PV:TP 433 Tryz.t433 Tryz.t433:=⟨ae,ae⟩
def PU:TP 434 Tryz.t434 Tryz.t434:=⟨ae,ae⟩
def PT:TP 435 Tryz.t435 Tryz.t435:=⟨ae,ae⟩
def PR:TP 436 Tryz.t436 Tryz.t436:=⟨ae,ae⟩
def PO:TP 437 Tryz.t437 Tryz.t437:=⟨ae,ae⟩
def PN:TP 438 Tryz.t438 Tryz.t438:=⟨ae,ae⟩
def PM:TP 439 Tryz.t439 Tryz.t439:=⟨ae,ae⟩
def PL:TP 440 Tryz.t439 Tryz.t440:=⟨ae,ae⟩
def PK:TP 441 Tryz.t441 Tryz.t441:=⟨ae,ae⟩
def PJ:TP 442 Tryz.t442 Tryz.t442:=⟨ae,ae⟩
def PH:TP 443 Tryz.t443 Tryz.t443:=⟨ae,ae⟩
def PG:TP 444 Tryz.t444 Tryz.t444:=⟨ae,ae⟩
def PF:TP 445 Tryz.t445 Tryz.t445:=⟨ae,ae⟩
def PE:TP 446 Tryz.t446 Tryz.t446:=⟨ae,ae⟩
def PD:TP 447 Tryz.t447 Tryz.t447:=⟨ae,ae⟩
def PC:TP 448 Tryz.t448 Tryz.t448:=⟨ae,ae⟩
def PB:TP 449 Tryz.t449 Tryz.t449:=⟨ae,ae⟩
def PA:TP 450 Tryz.t449 Tryz.t450:=⟨ae,ae⟩
def Pz:TP 451 Tryz.t451 Tryz.t451:=⟨ae,ae⟩
def Py:TP 452 Tryz.t452 Tryz.t452:=⟨ae,ae⟩
def Px:TP 453 Tryz.t452 Tryz.t453:=⟨ae,ae⟩
def Pw:TP 454 Tryz.t454 Tryz.t454:=⟨ae,ae⟩
def Pv:TP 455 Tryz.t455 Tryz.t455:=⟨ae,ae⟩
def Pu:TP 456 Tryz.t456 Tryz.t456:=⟨ae,ae⟩
def Ps:TP 457 Tryz.t457 Tryz.t457:=⟨ae,ae⟩
def Pr:TP 458 Tryz.t458 Tryz.t458:=⟨ae,ae⟩
def Pq:TP 459 Tryz.t459 Tryz.t459:=⟨ae,ae⟩
def Pp:TP 460 Tryz.t460 Tryz.t460:=⟨ae,ae⟩
def Pn:TP 461 Tryz.t461 Tryz.t461:=⟨ae,ae⟩
def Pm:TP 462 Tryz.t462 Tryz.t462:=⟨ae,ae⟩
def Pk:TP 464 Tryz.t464 Tryz.t464:=⟨ae,ae⟩
def Pj:TP 465 Tryz.t465 Tryz.t465:=⟨ae,ae⟩
def Ph:TP 466 Tryz.t43 Tryz.t466:=⟨ae,ae⟩
def Pg:TP 467 Tryz.t467 Tryz.t467:=⟨ae,ae⟩
def Pf:TP 468 Tryz.t468 Tryz.t468:=⟨ae,ae⟩
def Pe:TP 469 Tryz.t469 Tryz.t469:=⟨ae,ae⟩
def Pd:TP 470 Tryz.t470 Tryz.t470:=⟨ae,ae⟩
def Pc:TP 471 Tryz.t471 Tryz.t471:=⟨ae,ae⟩
def Pb:TP 472 Tryz.t472 Tryz.t472:=⟨ae,ae⟩
def Pa:TP 473 Tryz.t473 Tryz.t473:=⟨ae,ae⟩
def O':TP 474 Tryz.t474 Tryz.t474:=⟨ae,ae⟩
def O9:TP 475 Tryz.t475 Tryz.t475:=⟨ae,ae⟩
def O8:TP 476 Tryz.t476 Tryz.t476:=⟨ae,ae⟩
def O7:TP 478 Tryz.t478 Tryz.t478:=⟨ae,ae⟩
def O6:TP 479 Tryz.t479 Tryz.t479:=⟨ae,ae⟩
def O5:TP 480 Tryz.t480 Tryz.t480:=⟨ae,ae⟩
def O4:TP 481 Tryz.t481 Tryz.t481:=⟨ae,ae⟩
def O3:TP 482 Tryz.t482 Tryz.t482:=⟨ae,ae⟩
def O2:TP 483 Tryz.t483 Tryz.t483:=⟨ae,ae⟩
def O1:TP 484 Tryz.t484 Tryz.t484:=⟨ae,ae⟩
def O0:TP 485 Tryz.t485 Tryz.t485:=⟨ae,ae⟩
def OZ:TP 486 Tryz.t486 Tryz.t486:=⟨ae,ae⟩
def OY:TP 488 Tryz.t488 Tryz.t488:=⟨ae,ae⟩
def OX:TP 489 Tryz.t489 Tryz.t489:=⟨ae,ae⟩
def OW:TP 491 Tryz.t491 Tryz.t491:=⟨ae,ae⟩
def OV:TP 492 Tryz.t492 Tryz.t492:=⟨ae,ae⟩
def OU:TP 493 Tryz.t493 Tryz.t493:=⟨ae,ae⟩
def OT:TP 494 Tryz.t494 Tryz.t494:=⟨ae,ae⟩
def OS:TP 495 Tryz.t495 Tryz.t495:=⟨ae,ae⟩
def OR:TP 496 Tryz.t496 Tryz.t496:=⟨ae,ae⟩
def OQ:TP 497 Tryz.t497 Tryz.t497:=⟨ae,ae⟩
def OP:TP 498 Tryz.t498 Tryz.t498:=⟨ae,ae⟩
def OO:TP 499 Tryz.t499 Tryz.t499:=⟨ae,ae⟩
def ON:TP 500 Tryz.t499 Tryz.t500:=⟨ae,ae⟩
def OM:TP 501 Tryz.t501 Tryz.t501:=⟨ae,ae⟩
def OL:TP 502 Tryz.t502 Tryz.t502:=⟨ae,ae⟩
def OK:TP 503 Tryz.t502 Tryz.t503:=⟨ae,ae⟩
def OJ:TP 504 Tryz.t5 Tryz.t504:=⟨ae,ae⟩
def OI:TP 505 Tryz.t5 Tryz.t505:=⟨ae,ae⟩
def OH:TP 506 Tryz.t506 Tryz.t506:=⟨ae,ae⟩
def OG:TP 507 Tryz.t507 Tryz.t507:=⟨ae,ae⟩
def OF:TP 508 Tryz.t21 Tryz.t508:=⟨ae,ae⟩
def OE:TP 509 Tryz.t21 Tryz.t509:=⟨ae,ae⟩
def OD:TP 510 Tryz.t510 Tryz.t510:=⟨ae,ae⟩
def OC:TP 511 Tryz.t510 Tryz.t511:=⟨ae,ae⟩
def OB:TP 512 Tryz.t512 Tryz.t512:=⟨ae,ae⟩
noncomputable def aU:Tr:=(.node 262 ⟨Tryz.t262.desc,Tryz.t262⟩ (.node 130 ⟨Tryz.t130.desc,Tryz.t130⟩ (.node 61 ⟨Tryz.t61.desc,Tryz.t61⟩ (.node 31 ⟨Tryz.t31.desc,Tryz.t31⟩ (.node 15 ⟨Tryz.t15.desc,Tryz.t15⟩ (.node 8 ⟨Tryz.t7.desc,Tryz.t8⟩ (.node 4 ⟨Tryz.t4.desc,Tryz.t4⟩ (.node 2 ⟨Tryz.t2.desc,Tryz.t2⟩ (.node 1 ⟨Tryz.t1.desc,Tryz.t1⟩ .leaf .leaf) (.node 3 ⟨Tryz.t3.desc,Tryz.t3⟩ .leaf .leaf)) (.node 6 ⟨Tryz.t5.desc,Tryz.t6⟩ (.node 5 ⟨Tryz.t5.desc,Tryz.t5⟩ .leaf .leaf) (.node 7 ⟨Tryz.t7.desc,Tryz.t7⟩ .leaf .leaf))) (.node 12 ⟨Tryz.t12.desc,Tryz.t12⟩ (.node 10 ⟨Tryz.t9.desc,Tryz.t10⟩ (.node 9 ⟨Tryz.t9.desc,Tryz.t9⟩ .leaf .leaf) (.node 11 ⟨Tryz.t9.desc,Tryz.t11⟩ .leaf .leaf)) (.node 14 ⟨Tryz.t13.desc,Tryz.t14⟩ (.node 13 ⟨Tryz.t13.desc,Tryz.t13⟩ .leaf .leaf) .leaf))) (.node 22 ⟨Tryz.t22.desc,Tryz.t22⟩ (.node 19 ⟨Tryz.t18.desc,Tryz.t19⟩ (.node 17 ⟨Tryz.t17.desc,Tryz.t17⟩ (.node 16 ⟨Tryz.t16.desc,Tryz.t16⟩ .leaf .leaf) (.node 18 ⟨Tryz.t18.desc,Tryz.t18⟩ .leaf .leaf)) (.node 21 ⟨Tryz.t21.desc,Tryz.t21⟩ (.node 20 ⟨Tryz.t20.desc,Tryz.t20⟩ .leaf .leaf) .leaf)) (.node 26 ⟨Tryz.t3.desc,Tryz.t26⟩ (.node 24 ⟨Tryz.t24.desc,Tryz.t24⟩ (.node 23 ⟨Tryz.t23.desc,Tryz.t23⟩ .leaf .leaf) (.node 25 ⟨Tryz.t25.desc,Tryz.t25⟩ .leaf .leaf)) (.node 29 ⟨Tryz.t29.desc,Tryz.t29⟩ (.node 28 ⟨Tryz.t28.desc,Tryz.t28⟩ .leaf .leaf) .leaf)))) (.node 46 ⟨Tryz.t46.desc,Tryz.t46⟩ (.node 39 ⟨Tryz.t39.desc,Tryz.t39⟩ (.node 35 ⟨Tryz.t35.desc,Tryz.t35⟩ (.node 33 ⟨Tryz.t32.desc,Tryz.t33⟩ (.node 32 ⟨Tryz.t32.desc,Tryz.t32⟩ .leaf .leaf) (.node 34 ⟨Tryz.t34.desc,Tryz.t34⟩ .leaf .leaf)) (.node 37 ⟨Tryz.t37.desc,Tryz.t37⟩ (.node 36 ⟨Tryz.t35.desc,Tryz.t36⟩ .leaf .leaf) (.node 38 ⟨Tryz.t38.desc,Tryz.t38⟩ .leaf .leaf))) (.node 43 ⟨Tryz.t43.desc,Tryz.t43⟩ (.node 41 ⟨Tryz.t41.desc,Tryz.t41⟩ (.node 40 ⟨Tryz.t40.desc,Tryz.t40⟩ .leaf .leaf) (.node 42 ⟨Tryz.t41.desc,Tryz.t42⟩ .leaf .leaf)) (.node 45 ⟨Tryz.t44.desc,Tryz.t45⟩ (.node 44 ⟨Tryz.t44.desc,Tryz.t44⟩ .leaf .leaf) .leaf))) (.node 54 ⟨Tryz.t54.desc,Tryz.t54⟩ (.node 51 ⟨Tryz.t51.desc,Tryz.t51⟩ (.node 49 ⟨Tryz.t49.desc,Tryz.t49⟩ (.node 48 ⟨Tryz.t48.desc,Tryz.t48⟩ .leaf .leaf) (.node 50 ⟨Tryz.t50.desc,Tryz.t50⟩ .leaf .leaf)) (.node 53 ⟨Tryz.t53.desc,Tryz.t53⟩ (.node 52 ⟨Tryz.t52.desc,Tryz.t52⟩ .leaf .leaf) .leaf)) (.node 58 ⟨Tryz.t57.desc,Tryz.t58⟩ (.node 56 ⟨Tryz.t55.desc,Tryz.t56⟩ (.node 55 ⟨Tryz.t55.desc,Tryz.t55⟩ .leaf .leaf) (.node 57 ⟨Tryz.t57.desc,Tryz.t57⟩ .leaf .leaf)) (.node 60 ⟨Tryz.t60.desc,Tryz.t60⟩ (.node 59 ⟨Tryz.t59.desc,Tryz.t59⟩ .leaf .leaf) .leaf))))) (.node 99 ⟨Tryz.t99.desc,Tryz.t99⟩ (.node 78 ⟨Tryz.t78.desc,Tryz.t78⟩ (.node 69 ⟨Tryz.t69.desc,Tryz.t69⟩ (.node 65 ⟨Tryz.t65.desc,Tryz.t65⟩ (.node 63 ⟨Tryz.t63.desc,Tryz.t63⟩ (.node 62 ⟨Tryz.t61.desc,Tryz.t62⟩ .leaf .leaf) (.node 64 ⟨Tryz.t64.desc,Tryz.t64⟩ .leaf .leaf)) (.node 67 ⟨Tryz.t67.desc,Tryz.t67⟩ (.node 66 ⟨Tryz.t66.desc,Tryz.t66⟩ .leaf .leaf) (.node 68 ⟨Tryz.t68.desc,Tryz.t68⟩ .leaf .leaf))) (.node 73 ⟨Tryz.t72.desc,Tryz.t73⟩ (.node 71 ⟨Tryz.t71.desc,Tryz.t71⟩ (.node 70 ⟨Tryz.t70.desc,Tryz.t70⟩ .leaf .leaf) (.node 72 ⟨Tryz.t72.desc,Tryz.t72⟩ .leaf .leaf)) (.node 76 ⟨Tryz.t76.desc,Tryz.t76⟩ (.node 75 ⟨Tryz.t75.desc,Tryz.t75⟩ .leaf .leaf) .leaf))) (.node 90 ⟨Tryz.t90.desc,Tryz.t90⟩ (.node 85 ⟨Tryz.t85.desc,Tryz.t85⟩ (.node 82 ⟨Tryz.t82.desc,Tryz.t82⟩ (.node 80 ⟨Tryz.t80.desc,Tryz.t80⟩ .leaf .leaf) (.node 84 ⟨Tryz.t84.desc,Tryz.t84⟩ .leaf .leaf)) (.node 88 ⟨Tryz.t88.desc,Tryz.t88⟩ (.node 87 ⟨Tryz.t87.desc,Tryz.t87⟩ .leaf .leaf) .leaf)) (.node 95 ⟨Tryz.t95.desc,Tryz.t95⟩ (.node 92 ⟨Tryz.t92.desc,Tryz.t92⟩ (.node 91 ⟨Tryz.t91.desc,Tryz.t91⟩ .leaf .leaf) (.node 93 ⟨Tryz.t93.desc,Tryz.t93⟩ .leaf .leaf)) (.node 98 ⟨Tryz.t98.desc,Tryz.t98⟩ (.node 96 ⟨Tryz.t96.desc,Tryz.t96⟩ .leaf .leaf) .leaf)))) (.node 115 ⟨Tryz.t115.desc,Tryz.t115⟩ (.node 108 ⟨Tryz.t108.desc,Tryz.t108⟩ (.node 103 ⟨Tryz.t103.desc,Tryz.t103⟩ (.node 101 ⟨Tryz.t100.desc,Tryz.t101⟩ (.node 100 ⟨Tryz.t100.desc,Tryz.t100⟩ .leaf .leaf) (.node 102 ⟨Tryz.t102.desc,Tryz.t102⟩ .leaf .leaf)) (.node 106 ⟨Tryz.t106.desc,Tryz.t106⟩ (.node 104 ⟨Tryz.t104.desc,Tryz.t104⟩ .leaf .leaf) (.node 107 ⟨Tryz.t106.desc,Tryz.t107⟩ .leaf .leaf))) (.node 112 ⟨Tryz.t112.desc,Tryz.t112⟩ (.node 110 ⟨Tryz.t110.desc,Tryz.t110⟩ (.node 109 ⟨Tryz.t108.desc,Tryz.t109⟩ .leaf .leaf) (.node 111 ⟨Tryz.t111.desc,Tryz.t111⟩ .leaf .leaf)) (.node 114 ⟨Tryz.t114.desc,Tryz.t114⟩ (.node 113 ⟨Tryz.t113.desc,Tryz.t113⟩ .leaf .leaf) .leaf))) (.node 122 ⟨Tryz.t122.desc,Tryz.t122⟩ (.node 119 ⟨Tryz.t119.desc,Tryz.t119⟩ (.node 117 ⟨Tryz.t117.desc,Tryz.t117⟩ (.node 116 ⟨Tryz.t115.desc,Tryz.t116⟩ .leaf .leaf) (.node 118 ⟨Tryz.t118.desc,Tryz.t118⟩ .leaf .leaf)) (.node 121 ⟨Tryz.t121.desc,Tryz.t121⟩ (.node 120 ⟨Tryz.t119.desc,Tryz.t120⟩ .leaf .leaf) .leaf)) (.node 126 ⟨Tryz.t126.desc,Tryz.t126⟩ (.node 124 ⟨Tryz.t124.desc,Tryz.t124⟩ (.node 123 ⟨Tryz.t123.desc,Tryz.t123⟩ .leaf .leaf) (.node 125 ⟨Tryz.t125.desc,Tryz.t125⟩ .leaf .leaf)) (.node 129 ⟨Tryz.t129.desc,Tryz.t129⟩ (.node 128 ⟨Tryz.t128.desc,Tryz.t128⟩ .leaf .leaf) .leaf)))))) (.node 189 ⟨Tryz.t189.desc,Tryz.t189⟩ (.node 159 ⟨Tryz.t159.desc,Tryz.t159⟩ (.node 145 ⟨Tryz.t145.desc,Tryz.t145⟩ (.node 138 ⟨Tryz.t137.desc,Tryz.t138⟩ (.node 134 ⟨Tryz.t134.desc,Tryz.t134⟩ (.node 132 ⟨Tryz.t132.desc,Tryz.t132⟩ (.node 131 ⟨Tryz.t130.desc,Tryz.t131⟩ .leaf .leaf) (.node 133 ⟨Tryz.t133.desc,Tryz.t133⟩ .leaf .leaf)) (.node 136 ⟨Tryz.t136.desc,Tryz.t136⟩ (.node 135 ⟨Tryz.t135.desc,Tryz.t135⟩ .leaf .leaf) (.node 137 ⟨Tryz.t137.desc,Tryz.t137⟩ .leaf .leaf))) (.node 142 ⟨Tryz.t142.desc,Tryz.t142⟩ (.node 140 ⟨Tryz.t140.desc,Tryz.t140⟩ (.node 139 ⟨Tryz.t139.desc,Tryz.t139⟩ .leaf .leaf) (.node 141 ⟨Tryz.t141.desc,Tryz.t141⟩ .leaf .leaf)) (.node 144 ⟨Tryz.t144.desc,Tryz.t144⟩ (.node 143 ⟨Tryz.t142.desc,Tryz.t143⟩ .leaf .leaf) .leaf))) (.node 152 ⟨Tryz.t152.desc,Tryz.t152⟩ (.node 149 ⟨Tryz.t148.desc,Tryz.t149⟩ (.node 147 ⟨Tryz.t147.desc,Tryz.t147⟩ (.node 146 ⟨Tryz.t145.desc,Tryz.t146⟩ .leaf .leaf) (.node 148 ⟨Tryz.t148.desc,Tryz.t148⟩ .leaf .leaf)) (.node 151 ⟨Tryz.t151.desc,Tryz.t151⟩ (.node 150 ⟨Tryz.t150.desc,Tryz.t150⟩ .leaf .leaf) .leaf)) (.node 156 ⟨Tryz.t156.desc,Tryz.t156⟩ (.node 154 ⟨Tryz.t154.desc,Tryz.t154⟩ (.node 153 ⟨Tryz.t152.desc,Tryz.t153⟩ .leaf .leaf) (.node 155 ⟨Tryz.t155.desc,Tryz.t155⟩ .leaf .leaf)) (.node 158 ⟨Tryz.t157.desc,Tryz.t158⟩ (.node 157 ⟨Tryz.t157.desc,Tryz.t157⟩ .leaf .leaf) .leaf)))) (.node 174 ⟨Tryz.t174.desc,Tryz.t174⟩ (.node 167 ⟨Tryz.t166.desc,Tryz.t167⟩ (.node 163 ⟨Tryz.t162.desc,Tryz.t163⟩ (.node 161 ⟨Tryz.t160.desc,Tryz.t161⟩ (.node 160 ⟨Tryz.t160.desc,Tryz.t160⟩ .leaf .leaf) (.node 162 ⟨Tryz.t162.desc,Tryz.t162⟩ .leaf .leaf)) (.node 165 ⟨Tryz.t165.desc,Tryz.t165⟩ (.node 164 ⟨Tryz.t164.desc,Tryz.t164⟩ .leaf .leaf) (.node 166 ⟨Tryz.t166.desc,Tryz.t166⟩ .leaf .leaf))) (.node 171 ⟨Tryz.t171.desc,Tryz.t171⟩ (.node 169 ⟨Tryz.t169.desc,Tryz.t169⟩ (.node 168 ⟨Tryz.t168.desc,Tryz.t168⟩ .leaf .leaf) (.node 170 ⟨Tryz.t170.desc,Tryz.t170⟩ .leaf .leaf)) (.node 173 ⟨Tryz.t173.desc,Tryz.t173⟩ (.node 172 ⟨Tryz.t172.desc,Tryz.t172⟩ .leaf .leaf) .leaf))) (.node 181 ⟨Tryz.t181.desc,Tryz.t181⟩ (.node 178 ⟨Tryz.t178.desc,Tryz.t178⟩ (.node 176 ⟨Tryz.t176.desc,Tryz.t176⟩ (.node 175 ⟨Tryz.t175.desc,Tryz.t175⟩ .leaf .leaf) (.node 177 ⟨Tryz.t177.desc,Tryz.t177⟩ .leaf .leaf)) (.node 180 ⟨Tryz.t180.desc,Tryz.t180⟩ (.node 179 ⟨Tryz.t179.desc,Tryz.t179⟩ .leaf .leaf) .leaf)) (.node 185 ⟨Tryz.t185.desc,Tryz.t185⟩ (.node 183 ⟨Tryz.t183.desc,Tryz.t183⟩ (.node 182 ⟨Tryz.t182.desc,Tryz.t182⟩ .leaf .leaf) (.node 184 ⟨Tryz.t184.desc,Tryz.t184⟩ .leaf .leaf)) (.node 187 ⟨Tryz.t186.desc,Tryz.t187⟩ (.node 186 ⟨Tryz.t186.desc,Tryz.t186⟩ .leaf .leaf) .leaf))))) (.node 227 ⟨Tryz.t227.desc,Tryz.t227⟩ (.node 210 ⟨Tryz.t210.desc,Tryz.t210⟩ (.node 201 ⟨Tryz.t201.desc,Tryz.t201⟩ (.node 193 ⟨Tryz.t193.desc,Tryz.t193⟩ (.node 191 ⟨Tryz.t191.desc,Tryz.t191⟩ (.node 190 ⟨Tryz.t190.desc,Tryz.t190⟩ .leaf .leaf) (.node 192 ⟨Tryz.t191.desc,Tryz.t192⟩ .leaf .leaf)) (.node 197 ⟨Tryz.t197.desc,Tryz.t197⟩ (.node 195 ⟨Tryz.t195.desc,Tryz.t195⟩ .leaf .leaf) (.node 199 ⟨Tryz.t199.desc,Tryz.t199⟩ .leaf .leaf))) (.node 206 ⟨Tryz.t206.desc,Tryz.t206⟩ (.node 204 ⟨Tryz.t204.desc,Tryz.t204⟩ (.node 203 ⟨Tryz.t203.desc,Tryz.t203⟩ .leaf .leaf) (.node 205 ⟨Tryz.t205.desc,Tryz.t205⟩ .leaf .leaf)) (.node 209 ⟨Tryz.t209.desc,Tryz.t209⟩ (.node 208 ⟨Tryz.t208.desc,Tryz.t208⟩ .leaf .leaf) .leaf))) (.node 219 ⟨Tryz.t218.desc,Tryz.t219⟩ (.node 216 ⟨Tryz.t216.desc,Tryz.t216⟩ (.node 213 ⟨Tryz.t213.desc,Tryz.t213⟩ (.node 212 ⟨Tryz.t212.desc,Tryz.t212⟩ .leaf .leaf) (.node 214 ⟨Tryz.t214.desc,Tryz.t214⟩ .leaf .leaf)) (.node 218 ⟨Tryz.t218.desc,Tryz.t218⟩ (.node 217 ⟨Tryz.t217.desc,Tryz.t217⟩ .leaf .leaf) .leaf)) (.node 223 ⟨Tryz.t223.desc,Tryz.t223⟩ (.node 221 ⟨Tryz.t221.desc,Tryz.t221⟩ (.node 220 ⟨Tryz.t220.desc,Tryz.t220⟩ .leaf .leaf) (.node 222 ⟨Tryz.t222.desc,Tryz.t222⟩ .leaf .leaf)) (.node 226 ⟨Tryz.t226.desc,Tryz.t226⟩ (.node 225 ⟨Tryz.t225.desc,Tryz.t225⟩ .leaf .leaf) .leaf)))) (.node 244 ⟨Tryz.t244.desc,Tryz.t244⟩ (.node 236 ⟨Tryz.t236.desc,Tryz.t236⟩ (.node 233 ⟨Tryz.t233.desc,Tryz.t233⟩ (.node 229 ⟨Tryz.t229.desc,Tryz.t229⟩ (.node 228 ⟨Tryz.t228.desc,Tryz.t228⟩ .leaf .leaf) (.node 231 ⟨Tryz.t231.desc,Tryz.t231⟩ .leaf .leaf)) (.node 235 ⟨Tryz.t234.desc,Tryz.t235⟩ (.node 234 ⟨Tryz.t234.desc,Tryz.t234⟩ .leaf .leaf) .leaf)) (.node 241 ⟨Tryz.t241.desc,Tryz.t241⟩ (.node 238 ⟨Tryz.t238.desc,Tryz.t238⟩ (.node 237 ⟨Tryz.t237.desc,Tryz.t237⟩ .leaf .leaf) (.node 239 ⟨Tryz.t238.desc,Tryz.t239⟩ .leaf .leaf)) (.node 243 ⟨Tryz.t243.desc,Tryz.t243⟩ (.node 242 ⟨Tryz.t242.desc,Tryz.t242⟩ .leaf .leaf) .leaf))) (.node 252 ⟨Tryz.t252.desc,Tryz.t252⟩ (.node 249 ⟨Tryz.t249.desc,Tryz.t249⟩ (.node 246 ⟨Tryz.t246.desc,Tryz.t246⟩ (.node 245 ⟨Tryz.t245.desc,Tryz.t245⟩ .leaf .leaf) (.node 248 ⟨Tryz.t248.desc,Tryz.t248⟩ .leaf .leaf)) (.node 251 ⟨Tryz.t251.desc,Tryz.t251⟩ (.node 250 ⟨Tryz.t250.desc,Tryz.t250⟩ .leaf .leaf) .leaf)) (.node 258 ⟨Tryz.t258.desc,Tryz.t258⟩ (.node 254 ⟨Tryz.t254.desc,Tryz.t254⟩ (.node 253 ⟨Tryz.t253.desc,Tryz.t253⟩ .leaf .leaf) (.node 256 ⟨Tryz.t256.desc,Tryz.t256⟩ .leaf .leaf)) (.node 260 ⟨Tryz.t260.desc,Tryz.t260⟩ (.node 259 ⟨Tryz.t259.desc,Tryz.t259⟩ .leaf .leaf) .leaf))))))) (.node 391 ⟨Tryz.t391.desc,Tryz.t391⟩ (.node 329 ⟨Tryz.t329.desc,Tryz.t329⟩ (.node 295 ⟨Tryz.t295.desc,Tryz.t295⟩ (.node 279 ⟨Tryz.t279.desc,Tryz.t279⟩ (.node 271 ⟨Tryz.t271.desc,Tryz.t271⟩ (.node 267 ⟨Tryz.t267.desc,Tryz.t267⟩ (.node 264 ⟨Tryz.t264.desc,Tryz.t264⟩ (.node 263 ⟨Tryz.t263.desc,Tryz.t263⟩ .leaf .leaf) (.node 266 ⟨Tryz.t266.desc,Tryz.t266⟩ .leaf .leaf)) (.node 269 ⟨Tryz.t269.desc,Tryz.t269⟩ (.node 268 ⟨Tryz.t268.desc,Tryz.t268⟩ .leaf .leaf) (.node 270 ⟨Tryz.t270.desc,Tryz.t270⟩ .leaf .leaf))) (.node 275 ⟨Tryz.t274.desc,Tryz.t275⟩ (.node 273 ⟨Tryz.t273.desc,Tryz.t273⟩ (.node 272 ⟨Tryz.t272.desc,Tryz.t272⟩ .leaf .leaf) (.node 274 ⟨Tryz.t274.desc,Tryz.t274⟩ .leaf .leaf)) (.node 278 ⟨Tryz.t278.desc,Tryz.t278⟩ (.node 277 ⟨Tryz.t277.desc,Tryz.t277⟩ .leaf .leaf) .leaf))) (.node 286 ⟨Tryz.t286.desc,Tryz.t286⟩ (.node 283 ⟨Tryz.t283.desc,Tryz.t283⟩ (.node 281 ⟨Tryz.t281.desc,Tryz.t281⟩ (.node 280 ⟨Tryz.t280.desc,Tryz.t280⟩ .leaf .leaf) (.node 282 ⟨Tryz.t282.desc,Tryz.t282⟩ .leaf .leaf)) (.node 285 ⟨Tryz.t285.desc,Tryz.t285⟩ (.node 284 ⟨Tryz.t284.desc,Tryz.t284⟩ .leaf .leaf) .leaf)) (.node 291 ⟨Tryz.t291.desc,Tryz.t291⟩ (.node 288 ⟨Tryz.t288.desc,Tryz.t288⟩ (.node 287 ⟨Tryz.t287.desc,Tryz.t287⟩ .leaf .leaf) (.node 290 ⟨Tryz.t290.desc,Tryz.t290⟩ .leaf .leaf)) (.node 293 ⟨Tryz.t293.desc,Tryz.t293⟩ (.node 292 ⟨Tryz.t291.desc,Tryz.t292⟩ .leaf .leaf) .leaf)))) (.node 312 ⟨Tryz.t312.desc,Tryz.t312⟩ (.node 304 ⟨Tryz.t304.desc,Tryz.t304⟩ (.node 299 ⟨Tryz.t299.desc,Tryz.t299⟩ (.node 297 ⟨Tryz.t296.desc,Tryz.t297⟩ (.node 296 ⟨Tryz.t296.desc,Tryz.t296⟩ .leaf .leaf) (.node 298 ⟨Tryz.t298.desc,Tryz.t298⟩ .leaf .leaf)) (.node 302 ⟨Tryz.t302.desc,Tryz.t302⟩ (.node 301 ⟨Tryz.t301.desc,Tryz.t301⟩ .leaf .leaf) (.node 303 ⟨Tryz.t303.desc,Tryz.t303⟩ .leaf .leaf))) (.node 309 ⟨Tryz.t309.desc,Tryz.t309⟩ (.node 306 ⟨Tryz.t306.desc,Tryz.t306⟩ (.node 305 ⟨Tryz.t305.desc,Tryz.t305⟩ .leaf .leaf) (.node 307 ⟨Tryz.t306.desc,Tryz.t307⟩ .leaf .leaf)) (.node 311 ⟨Tryz.t311.desc,Tryz.t311⟩ (.node 310 ⟨Tryz.t310.desc,Tryz.t310⟩ .leaf .leaf) .leaf))) (.node 320 ⟨Tryz.t320.desc,Tryz.t320⟩ (.node 317 ⟨Tryz.t317.desc,Tryz.t317⟩ (.node 315 ⟨Tryz.t315.desc,Tryz.t315⟩ (.node 314 ⟨Tryz.t314.desc,Tryz.t314⟩ .leaf .leaf) (.node 316 ⟨Tryz.t316.desc,Tryz.t316⟩ .leaf .leaf)) (.node 319 ⟨Tryz.t319.desc,Tryz.t319⟩ (.node 318 ⟨Tryz.t318.desc,Tryz.t318⟩ .leaf .leaf) .leaf)) (.node 325 ⟨Tryz.t325.desc,Tryz.t325⟩ (.node 322 ⟨Tryz.t322.desc,Tryz.t322⟩ (.node 321 ⟨Tryz.t320.desc,Tryz.t321⟩ .leaf .leaf) (.node 323 ⟨Tryz.t323.desc,Tryz.t323⟩ .leaf .leaf)) (.node 327 ⟨Tryz.t327.desc,Tryz.t327⟩ (.node 326 ⟨Tryz.t325.desc,Tryz.t326⟩ .leaf .leaf) .leaf))))) (.node 360 ⟨Tryz.t360.desc,Tryz.t360⟩ (.node 346 ⟨Tryz.t346.desc,Tryz.t346⟩ (.node 338 ⟨Tryz.t338.desc,Tryz.t338⟩ (.node 333 ⟨Tryz.t333.desc,Tryz.t333⟩ (.node 331 ⟨Tryz.t331.desc,Tryz.t331⟩ (.node 330 ⟨Tryz.t330.desc,Tryz.t330⟩ .leaf .leaf) (.node 332 ⟨Tryz.t332.desc,Tryz.t332⟩ .leaf .leaf)) (.node 335 ⟨Tryz.t335.desc,Tryz.t335⟩ (.node 334 ⟨Tryz.t334.desc,Tryz.t334⟩ .leaf .leaf) (.node 336 ⟨Tryz.t336.desc,Tryz.t336⟩ .leaf .leaf))) (.node 343 ⟨Tryz.t343.desc,Tryz.t343⟩ (.node 340 ⟨Tryz.t340.desc,Tryz.t340⟩ (.node 339 ⟨Tryz.t339.desc,Tryz.t339⟩ .leaf .leaf) (.node 342 ⟨Tryz.t342.desc,Tryz.t342⟩ .leaf .leaf)) (.node 345 ⟨Tryz.t345.desc,Tryz.t345⟩ (.node 344 ⟨Tryz.t344.desc,Tryz.t344⟩ .leaf .leaf) .leaf))) (.node 353 ⟨Tryz.t353.desc,Tryz.t353⟩ (.node 350 ⟨Tryz.t350.desc,Tryz.t350⟩ (.node 348 ⟨Tryz.t348.desc,Tryz.t348⟩ (.node 347 ⟨Tryz.t346.desc,Tryz.t347⟩ .leaf .leaf) (.node 349 ⟨Tryz.t349.desc,Tryz.t349⟩ .leaf .leaf)) (.node 352 ⟨Tryz.t352.desc,Tryz.t352⟩ (.node 351 ⟨Tryz.t351.desc,Tryz.t351⟩ .leaf .leaf) .leaf)) (.node 357 ⟨Tryz.t357.desc,Tryz.t357⟩ (.node 355 ⟨Tryz.t355.desc,Tryz.t355⟩ (.node 354 ⟨Tryz.t354.desc,Tryz.t354⟩ .leaf .leaf) (.node 356 ⟨Tryz.t356.desc,Tryz.t356⟩ .leaf .leaf)) (.node 359 ⟨Tryz.t359.desc,Tryz.t359⟩ (.node 358 ⟨Tryz.t358.desc,Tryz.t358⟩ .leaf .leaf) .leaf)))) (.node 375 ⟨Tryz.t375.desc,Tryz.t375⟩ (.node 368 ⟨Tryz.t368.desc,Tryz.t368⟩ (.node 364 ⟨Tryz.t364.desc,Tryz.t364⟩ (.node 362 ⟨Tryz.t362.desc,Tryz.t362⟩ (.node 361 ⟨Tryz.t361.desc,Tryz.t361⟩ .leaf .leaf) (.node 363 ⟨Tryz.t363.desc,Tryz.t363⟩ .leaf .leaf)) (.node 366 ⟨Tryz.t366.desc,Tryz.t366⟩ (.node 365 ⟨Tryz.t365.desc,Tryz.t365⟩ .leaf .leaf) (.node 367 ⟨Tryz.t367.desc,Tryz.t367⟩ .leaf .leaf))) (.node 372 ⟨Tryz.t372.desc,Tryz.t372⟩ (.node 370 ⟨Tryz.t369.desc,Tryz.t370⟩ (.node 369 ⟨Tryz.t369.desc,Tryz.t369⟩ .leaf .leaf) (.node 371 ⟨Tryz.t371.desc,Tryz.t371⟩ .leaf .leaf)) (.node 374 ⟨Tryz.t374.desc,Tryz.t374⟩ (.node 373 ⟨Tryz.t373.desc,Tryz.t373⟩ .leaf .leaf) .leaf))) (.node 382 ⟨Tryz.t381.desc,Tryz.t382⟩ (.node 379 ⟨Tryz.t379.desc,Tryz.t379⟩ (.node 377 ⟨Tryz.t377.desc,Tryz.t377⟩ (.node 376 ⟨Tryz.t376.desc,Tryz.t376⟩ .leaf .leaf) (.node 378 ⟨Tryz.t377.desc,Tryz.t378⟩ .leaf .leaf)) (.node 381 ⟨Tryz.t381.desc,Tryz.t381⟩ (.node 380 ⟨Tryz.t380.desc,Tryz.t380⟩ .leaf .leaf) .leaf)) (.node 386 ⟨Tryz.t386.desc,Tryz.t386⟩ (.node 384 ⟨Tryz.t384.desc,Tryz.t384⟩ (.node 383 ⟨Tryz.t383.desc,Tryz.t383⟩ .leaf .leaf) (.node 385 ⟨Tryz.t385.desc,Tryz.t385⟩ .leaf .leaf)) (.node 389 ⟨Tryz.t389.desc,Tryz.t389⟩ (.node 388 ⟨Tryz.t388.desc,Tryz.t388⟩ .leaf .leaf) .leaf)))))) (.node 452 ⟨Tryz.t452.desc,Tryz.t452⟩ (.node 423 ⟨Tryz.t423.desc,Tryz.t423⟩ (.node 407 ⟨Tryz.t407.desc,Tryz.t407⟩ (.node 400 ⟨Tryz.t400.desc,Tryz.t400⟩ (.node 396 ⟨Tryz.t396.desc,Tryz.t396⟩ (.node 393 ⟨Tryz.t393.desc,Tryz.t393⟩ (.node 392 ⟨Tryz.t392.desc,Tryz.t392⟩ .leaf .leaf) (.node 394 ⟨Tryz.t394.desc,Tryz.t394⟩ .leaf .leaf)) (.node 398 ⟨Tryz.t398.desc,Tryz.t398⟩ (.node 397 ⟨Tryz.t397.desc,Tryz.t397⟩ .leaf .leaf) (.node 399 ⟨Tryz.t399.desc,Tryz.t399⟩ .leaf .leaf))) (.node 404 ⟨Tryz.t404.desc,Tryz.t404⟩ (.node 402 ⟨Tryz.t402.desc,Tryz.t402⟩ (.node 401 ⟨Tryz.t401.desc,Tryz.t401⟩ .leaf .leaf) (.node 403 ⟨Tryz.t403.desc,Tryz.t403⟩ .leaf .leaf)) (.node 406 ⟨Tryz.t406.desc,Tryz.t406⟩ (.node 405 ⟨Tryz.t405.desc,Tryz.t405⟩ .leaf .leaf) .leaf))) (.node 415 ⟨Tryz.t415.desc,Tryz.t415⟩ (.node 412 ⟨Tryz.t412.desc,Tryz.t412⟩ (.node 409 ⟨Tryz.t409.desc,Tryz.t409⟩ (.node 408 ⟨Tryz.t408.desc,Tryz.t408⟩ .leaf .leaf) (.node 411 ⟨Tryz.t411.desc,Tryz.t411⟩ .leaf .leaf)) (.node 414 ⟨Tryz.t414.desc,Tryz.t414⟩ (.node 413 ⟨Tryz.t412.desc,Tryz.t413⟩ .leaf .leaf) .leaf)) (.node 420 ⟨Tryz.t420.desc,Tryz.t420⟩ (.node 417 ⟨Tryz.t417.desc,Tryz.t417⟩ (.node 416 ⟨Tryz.t416.desc,Tryz.t416⟩ .leaf .leaf) (.node 418 ⟨Tryz.t3.desc,Tryz.t418⟩ .leaf .leaf)) (.node 422 ⟨Tryz.t422.desc,Tryz.t422⟩ (.node 421 ⟨Tryz.t421.desc,Tryz.t421⟩ .leaf .leaf) .leaf)))) (.node 438 ⟨Tryz.t438.desc,Tryz.t438⟩ (.node 431 ⟨Tryz.t431.desc,Tryz.t431⟩ (.node 427 ⟨Tryz.t427.desc,Tryz.t427⟩ (.node 425 ⟨Tryz.t425.desc,Tryz.t425⟩ (.node 424 ⟨Tryz.t424.desc,Tryz.t424⟩ .leaf .leaf) (.node 426 ⟨Tryz.t426.desc,Tryz.t426⟩ .leaf .leaf)) (.node 429 ⟨Tryz.t429.desc,Tryz.t429⟩ (.node 428 ⟨Tryz.t428.desc,Tryz.t428⟩ .leaf .leaf) (.node 430 ⟨Tryz.t430.desc,Tryz.t430⟩ .leaf .leaf))) (.node 435 ⟨Tryz.t435.desc,Tryz.t435⟩ (.node 433 ⟨Tryz.t433.desc,Tryz.t433⟩ (.node 432 ⟨Tryz.t432.desc,Tryz.t432⟩ .leaf .leaf) (.node 434 ⟨Tryz.t434.desc,Tryz.t434⟩ .leaf .leaf)) (.node 437 ⟨Tryz.t437.desc,Tryz.t437⟩ (.node 436 ⟨Tryz.t436.desc,Tryz.t436⟩ .leaf .leaf) .leaf))) (.node 445 ⟨Tryz.t445.desc,Tryz.t445⟩ (.node 442 ⟨Tryz.t442.desc,Tryz.t442⟩ (.node 440 ⟨Tryz.t439.desc,Tryz.t440⟩ (.node 439 ⟨Tryz.t439.desc,Tryz.t439⟩ .leaf .leaf) (.node 441 ⟨Tryz.t441.desc,Tryz.t441⟩ .leaf .leaf)) (.node 444 ⟨Tryz.t444.desc,Tryz.t444⟩ (.node 443 ⟨Tryz.t443.desc,Tryz.t443⟩ .leaf .leaf) .leaf)) (.node 449 ⟨Tryz.t449.desc,Tryz.t449⟩ (.node 447 ⟨Tryz.t447.desc,Tryz.t447⟩ (.node 446 ⟨Tryz.t446.desc,Tryz.t446⟩ .leaf .leaf) (.node 448 ⟨Tryz.t448.desc,Tryz.t448⟩ .leaf .leaf)) (.node 451 ⟨Tryz.t451.desc,Tryz.t451⟩ (.node 450 ⟨Tryz.t449.desc,Tryz.t450⟩ .leaf .leaf) .leaf))))) (.node 483 ⟨Tryz.t483.desc,Tryz.t483⟩ (.node 468 ⟨Tryz.t468.desc,Tryz.t468⟩ (.node 460 ⟨Tryz.t460.desc,Tryz.t460⟩ (.node 456 ⟨Tryz.t456.desc,Tryz.t456⟩ (.node 454 ⟨Tryz.t454.desc,Tryz.t454⟩ (.node 453 ⟨Tryz.t452.desc,Tryz.t453⟩ .leaf .leaf) (.node 455 ⟨Tryz.t455.desc,Tryz.t455⟩ .leaf .leaf)) (.node 458 ⟨Tryz.t458.desc,Tryz.t458⟩ (.node 457 ⟨Tryz.t457.desc,Tryz.t457⟩ .leaf .leaf) (.node 459 ⟨Tryz.t459.desc,Tryz.t459⟩ .leaf .leaf))) (.node 465 ⟨Tryz.t465.desc,Tryz.t465⟩ (.node 462 ⟨Tryz.t462.desc,Tryz.t462⟩ (.node 461 ⟨Tryz.t461.desc,Tryz.t461⟩ .leaf .leaf) (.node 464 ⟨Tryz.t464.desc,Tryz.t464⟩ .leaf .leaf)) (.node 467 ⟨Tryz.t467.desc,Tryz.t467⟩ (.node 466 ⟨Tryz.t43.desc,Tryz.t466⟩ .leaf .leaf) .leaf))) (.node 475 ⟨Tryz.t475.desc,Tryz.t475⟩ (.node 472 ⟨Tryz.t472.desc,Tryz.t472⟩ (.node 470 ⟨Tryz.t470.desc,Tryz.t470⟩ (.node 469 ⟨Tryz.t469.desc,Tryz.t469⟩ .leaf .leaf) (.node 471 ⟨Tryz.t471.desc,Tryz.t471⟩ .leaf .leaf)) (.node 474 ⟨Tryz.t474.desc,Tryz.t474⟩ (.node 473 ⟨Tryz.t473.desc,Tryz.t473⟩ .leaf .leaf) .leaf)) (.node 480 ⟨Tryz.t480.desc,Tryz.t480⟩ (.node 478 ⟨Tryz.t478.desc,Tryz.t478⟩ (.node 476 ⟨Tryz.t476.desc,Tryz.t476⟩ .leaf .leaf) (.node 479 ⟨Tryz.t479.desc,Tryz.t479⟩ .leaf .leaf)) (.node 482 ⟨Tryz.t482.desc,Tryz.t482⟩ (.node 481 ⟨Tryz.t481.desc,Tryz.t481⟩ .leaf .leaf) .leaf)))) (.node 499 ⟨Tryz.t499.desc,Tryz.t499⟩ (.node 492 ⟨Tryz.t492.desc,Tryz.t492⟩ (.node 488 ⟨Tryz.t488.desc,Tryz.t488⟩ (.node 485 ⟨Tryz.t485.desc,Tryz.t485⟩ (.node 484 ⟨Tryz.t484.desc,Tryz.t484⟩ .leaf .leaf) (.node 486 ⟨Tryz.t486.desc,Tryz.t486⟩ .leaf .leaf)) (.node 491 ⟨Tryz.t491.desc,Tryz.t491⟩ (.node 489 ⟨Tryz.t489.desc,Tryz.t489⟩ .leaf .leaf) .leaf)) (.node 496 ⟨Tryz.t496.desc,Tryz.t496⟩ (.node 494 ⟨Tryz.t494.desc,Tryz.t494⟩ (.node 493 ⟨Tryz.t493.desc,Tryz.t493⟩ .leaf .leaf) (.node 495 ⟨Tryz.t495.desc,Tryz.t495⟩ .leaf .leaf)) (.node 498 ⟨Tryz.t498.desc,Tryz.t498⟩ (.node 497 ⟨Tryz.t497.desc,Tryz.t497⟩ .leaf .leaf) .leaf))) (.node 506 ⟨Tryz.t506.desc,Tryz.t506⟩ (.node 503 ⟨Tryz.t502.desc,Tryz.t503⟩ (.node 501 ⟨Tryz.t501.desc,Tryz.t501⟩ (.node 500 ⟨Tryz.t499.desc,Tryz.t500⟩ .leaf .leaf) (.node 502 ⟨Tryz.t502.desc,Tryz.t502⟩ .leaf .leaf)) (.node 505 ⟨Tryz.t5.desc,Tryz.t505⟩ (.node 504 ⟨Tryz.t5.desc,Tryz.t504⟩ .leaf .leaf) .leaf)) (.node 510 ⟨Tryz.t510.desc,Tryz.t510⟩ (.node 508 ⟨Tryz.t21.desc,Tryz.t508⟩ (.node 507 ⟨Tryz.t507.desc,Tryz.t507⟩ .leaf .leaf) (.node 509 ⟨Tryz.t21.desc,Tryz.t509⟩ .leaf .leaf)) (.node 512 ⟨Tryz.t512.desc,Tryz.t512⟩ (.node 511 ⟨Tryz.t510.desc,Tryz.t511⟩ .leaf .leaf) .leaf))))))))
instance ie:er Tryz.prog aU:=⟨⟨Su,⟨Ux,⟨XJ,⟨Yb,⟨Yp,⟨aaz,⟨aaD,⟨aaF,⟨aaG,trivial,trivial⟩,⟨aaE,trivial,trivial⟩⟩,⟨aaB,⟨aaC,trivial,trivial⟩,⟨aaA,trivial,trivial⟩⟩⟩,⟨Ys,⟨Yu,⟨aay,trivial,trivial⟩,⟨Yt,trivial,trivial⟩⟩,⟨Yq,⟨Yr,trivial,trivial⟩,trivial⟩⟩⟩,⟨Yi,⟨Yl,⟨Yn,⟨Yo,trivial,trivial⟩,⟨Ym,trivial,trivial⟩⟩,⟨Yj,⟨Yk,trivial,trivial⟩,trivial⟩⟩,⟨Ye,⟨Yg,⟨Yh,trivial,trivial⟩,⟨Yf,trivial,trivial⟩⟩,⟨Yc,⟨Yd,trivial,trivial⟩,trivial⟩⟩⟩⟩,⟨XX,⟨X4,⟨X8,⟨X',⟨Ya,trivial,trivial⟩,⟨X9,trivial,trivial⟩⟩,⟨X6,⟨X7,trivial,trivial⟩,⟨X5,trivial,trivial⟩⟩⟩,⟨X0,⟨X2,⟨X3,trivial,trivial⟩,⟨X1,trivial,trivial⟩⟩,⟨XY,⟨XZ,trivial,trivial⟩,trivial⟩⟩⟩,⟨XQ,⟨XT,⟨XV,⟨XW,trivial,trivial⟩,⟨XU,trivial,trivial⟩⟩,⟨XR,⟨XS,trivial,trivial⟩,trivial⟩⟩,⟨XM,⟨XO,⟨XP,trivial,trivial⟩,⟨XN,trivial,trivial⟩⟩,⟨XK,⟨XL,trivial,trivial⟩,trivial⟩⟩⟩⟩⟩,⟨Xf,⟨Xu,⟨XB,⟨XF,⟨XH,⟨XI,trivial,trivial⟩,⟨XG,trivial,trivial⟩⟩,⟨XD,⟨XE,trivial,trivial⟩,⟨XC,trivial,trivial⟩⟩⟩,⟨Xx,⟨Xz,⟨XA,trivial,trivial⟩,⟨Xy,trivial,trivial⟩⟩,⟨Xv,⟨Xw,trivial,trivial⟩,trivial⟩⟩⟩,⟨Xm,⟨Xp,⟨Xr,⟨Xt,trivial,trivial⟩,⟨Xq,trivial,trivial⟩⟩,⟨Xn,⟨Xo,trivial,trivial⟩,trivial⟩⟩,⟨Xi,⟨Xk,⟨Xl,trivial,trivial⟩,⟨Xj,trivial,trivial⟩⟩,⟨Xg,⟨Xh,trivial,trivial⟩,trivial⟩⟩⟩⟩,⟨UL,⟨US,⟨UX,⟨UZ,⟨U0,trivial,trivial⟩,⟨UY,trivial,trivial⟩⟩,⟨UU,⟨UW,trivial,trivial⟩,⟨UT,trivial,trivial⟩⟩⟩,⟨UO,⟨UQ,⟨UR,trivial,trivial⟩,⟨UP,trivial,trivial⟩⟩,⟨UM,⟨UN,trivial,trivial⟩,trivial⟩⟩⟩,⟨UE,⟨UH,⟨UJ,⟨UK,trivial,trivial⟩,⟨UI,trivial,trivial⟩⟩,⟨UF,⟨UG,trivial,trivial⟩,trivial⟩⟩,⟨UA,⟨UC,⟨UD,trivial,trivial⟩,⟨UB,trivial,trivial⟩⟩,⟨Uy,⟨Uz,trivial,trivial⟩,trivial⟩⟩⟩⟩⟩⟩,⟨Tz,⟨T5,⟨Ui,⟨Up,⟨Ut,⟨Uv,⟨Uw,trivial,trivial⟩,⟨Uu,trivial,trivial⟩⟩,⟨Ur,⟨Us,trivial,trivial⟩,⟨Uq,trivial,trivial⟩⟩⟩,⟨Ul,⟨Un,⟨Uo,trivial,trivial⟩,⟨Um,trivial,trivial⟩⟩,⟨Uj,⟨Uk,trivial,trivial⟩,trivial⟩⟩⟩,⟨Ub,⟨Ue,⟨Ug,⟨Uh,trivial,trivial⟩,⟨Uf,trivial,trivial⟩⟩,⟨Uc,⟨Ud,trivial,trivial⟩,trivial⟩⟩,⟨T8,⟨T',⟨Ua,trivial,trivial⟩,⟨T9,trivial,trivial⟩⟩,⟨T6,⟨T7,trivial,trivial⟩,trivial⟩⟩⟩⟩,⟨TO,⟨TW,⟨T1,⟨T3,⟨T4,trivial,trivial⟩,⟨T2,trivial,trivial⟩⟩,⟨TY,⟨TZ,trivial,trivial⟩,⟨TX,trivial,trivial⟩⟩⟩,⟨TS,⟨TU,⟨TV,trivial,trivial⟩,⟨TT,trivial,trivial⟩⟩,⟨TQ,⟨TR,trivial,trivial⟩,trivial⟩⟩⟩,⟨TH,⟨TK,⟨TM,⟨TN,trivial,trivial⟩,⟨TL,trivial,trivial⟩⟩,⟨TI,⟨TJ,trivial,trivial⟩,trivial⟩⟩,⟨TD,⟨TF,⟨TG,trivial,trivial⟩,⟨TE,trivial,trivial⟩⟩,⟨TA,⟨TB,trivial,trivial⟩,trivial⟩⟩⟩⟩⟩,⟨S4,⟨Th,⟨Tp,⟨Tu,⟨Tw,⟨Tx,trivial,trivial⟩,⟨Tv,trivial,trivial⟩⟩,⟨Ts,⟨Tt,trivial,trivial⟩,⟨Tq,trivial,trivial⟩⟩⟩,⟨Tl,⟨Tn,⟨To,trivial,trivial⟩,⟨Tm,trivial,trivial⟩⟩,⟨Ti,⟨Tj,trivial,trivial⟩,trivial⟩⟩⟩,⟨Ta,⟨Td,⟨Tf,⟨Tg,trivial,trivial⟩,⟨Te,trivial,trivial⟩⟩,⟨Tb,⟨Tc,trivial,trivial⟩,trivial⟩⟩,⟨S7,⟨S9,⟨S',trivial,trivial⟩,⟨S8,trivial,trivial⟩⟩,⟨S5,⟨S6,trivial,trivial⟩,trivial⟩⟩⟩⟩,⟨SM,⟨SU,⟨SY,⟨S0,⟨S3,trivial,trivial⟩,⟨SZ,trivial,trivial⟩⟩,⟨SV,⟨SX,trivial,trivial⟩,trivial⟩⟩,⟨SP,⟨SR,⟨SS,trivial,trivial⟩,⟨SQ,trivial,trivial⟩⟩,⟨SN,⟨SO,trivial,trivial⟩,trivial⟩⟩⟩,⟨SC,⟨SF,⟨SH,⟨SK,trivial,trivial⟩,⟨SG,trivial,trivial⟩⟩,⟨SD,⟨SE,trivial,trivial⟩,trivial⟩⟩,⟨Sy,⟨SA,⟨SB,trivial,trivial⟩,⟨Sz,trivial,trivial⟩⟩,⟨Sv,⟨Sw,trivial,trivial⟩,trivial⟩⟩⟩⟩⟩⟩⟩,⟨Qy,⟨Rw,⟨RZ,⟨Sd,⟨Sk,⟨Sp,⟨Sr,⟨Ss,trivial,trivial⟩,⟨Sq,trivial,trivial⟩⟩,⟨Sm,⟨Sn,trivial,trivial⟩,⟨Sl,trivial,trivial⟩⟩⟩,⟨Sg,⟨Si,⟨Sj,trivial,trivial⟩,⟨Sh,trivial,trivial⟩⟩,⟨Se,⟨Sf,trivial,trivial⟩,trivial⟩⟩⟩,⟨R7,⟨R',⟨Sb,⟨Sc,trivial,trivial⟩,⟨Sa,trivial,trivial⟩⟩,⟨R8,⟨R9,trivial,trivial⟩,trivial⟩⟩,⟨R3,⟨R5,⟨R6,trivial,trivial⟩,⟨R4,trivial,trivial⟩⟩,⟨R0,⟨R1,trivial,trivial⟩,trivial⟩⟩⟩⟩,⟨RK,⟨RR,⟨RV,⟨RX,⟨RY,trivial,trivial⟩,⟨RW,trivial,trivial⟩⟩,⟨RT,⟨RU,trivial,trivial⟩,⟨RS,trivial,trivial⟩⟩⟩,⟨RN,⟨RP,⟨RQ,trivial,trivial⟩,⟨RO,trivial,trivial⟩⟩,⟨RL,⟨RM,trivial,trivial⟩,trivial⟩⟩⟩,⟨RD,⟨RG,⟨RI,⟨RJ,trivial,trivial⟩,⟨RH,trivial,trivial⟩⟩,⟨RE,⟨RF,trivial,trivial⟩,trivial⟩⟩,⟨Rz,⟨RB,⟨RC,trivial,trivial⟩,⟨RA,trivial,trivial⟩⟩,⟨Rx,⟨Ry,trivial,trivial⟩,trivial⟩⟩⟩⟩⟩,⟨Q2,⟨Rg,⟨Rn,⟨Rr,⟨Ru,⟨Rv,trivial,trivial⟩,⟨Rs,trivial,trivial⟩⟩,⟨Rp,⟨Rq,trivial,trivial⟩,⟨Ro,trivial,trivial⟩⟩⟩,⟨Rj,⟨Rl,⟨Rm,trivial,trivial⟩,⟨Rk,trivial,trivial⟩⟩,⟨Rh,⟨Ri,trivial,trivial⟩,trivial⟩⟩⟩,⟨Q9,⟨Rb,⟨Re,⟨Rf,trivial,trivial⟩,⟨Rc,trivial,trivial⟩⟩,⟨Q',⟨Ra,trivial,trivial⟩,trivial⟩⟩,⟨Q5,⟨Q7,⟨Q8,trivial,trivial⟩,⟨Q6,trivial,trivial⟩⟩,⟨Q3,⟨Q4,trivial,trivial⟩,trivial⟩⟩⟩⟩,⟨QN,⟨QU,⟨QY,⟨Q0,⟨Q1,trivial,trivial⟩,⟨QZ,trivial,trivial⟩⟩,⟨QW,⟨QX,trivial,trivial⟩,⟨QV,trivial,trivial⟩⟩⟩,⟨QQ,⟨QS,⟨QT,trivial,trivial⟩,⟨QR,trivial,trivial⟩⟩,⟨QO,⟨QP,trivial,trivial⟩,trivial⟩⟩⟩,⟨QG,⟨QJ,⟨QL,⟨QM,trivial,trivial⟩,⟨QK,trivial,trivial⟩⟩,⟨QH,⟨QI,trivial,trivial⟩,trivial⟩⟩,⟨QB,⟨QE,⟨QF,trivial,trivial⟩,⟨QC,trivial,trivial⟩⟩,⟨Qz,⟨QA,trivial,trivial⟩,trivial⟩⟩⟩⟩⟩⟩,⟨Py,⟨P5,⟨Qi,⟨Qq,⟨Qu,⟨Qw,⟨Qx,trivial,trivial⟩,⟨Qv,trivial,trivial⟩⟩,⟨Qs,⟨Qt,trivial,trivial⟩,⟨Qr,trivial,trivial⟩⟩⟩,⟨Qm,⟨Qo,⟨Qp,trivial,trivial⟩,⟨Qn,trivial,trivial⟩⟩,⟨Qj,⟨Ql,trivial,trivial⟩,trivial⟩⟩⟩,⟨Qb,⟨Qe,⟨Qg,⟨Qh,trivial,trivial⟩,⟨Qf,trivial,trivial⟩⟩,⟨Qc,⟨Qd,trivial,trivial⟩,trivial⟩⟩,⟨P8,⟨P',⟨Qa,trivial,trivial⟩,⟨P9,trivial,trivial⟩⟩,⟨P6,⟨P7,trivial,trivial⟩,trivial⟩⟩⟩⟩,⟨PN,⟨PX,⟨P1,⟨P3,⟨P4,trivial,trivial⟩,⟨P2,trivial,trivial⟩⟩,⟨PZ,⟨P0,trivial,trivial⟩,⟨PY,trivial,trivial⟩⟩⟩,⟨PT,⟨PV,⟨PW,trivial,trivial⟩,⟨PU,trivial,trivial⟩⟩,⟨PO,⟨PR,trivial,trivial⟩,trivial⟩⟩⟩,⟨PF,⟨PJ,⟨PL,⟨PM,trivial,trivial⟩,⟨PK,trivial,trivial⟩⟩,⟨PG,⟨PH,trivial,trivial⟩,trivial⟩⟩,⟨PB,⟨PD,⟨PE,trivial,trivial⟩,⟨PC,trivial,trivial⟩⟩,⟨Pz,⟨PA,trivial,trivial⟩,trivial⟩⟩⟩⟩⟩,⟨O2,⟨Pf,⟨Pp,⟨Pu,⟨Pw,⟨Px,trivial,trivial⟩,⟨Pv,trivial,trivial⟩⟩,⟨Pr,⟨Ps,trivial,trivial⟩,⟨Pq,trivial,trivial⟩⟩⟩,⟨Pj,⟨Pm,⟨Pn,trivial,trivial⟩,⟨Pk,trivial,trivial⟩⟩,⟨Pg,⟨Ph,trivial,trivial⟩,trivial⟩⟩⟩,⟨O9,⟨Pb,⟨Pd,⟨Pe,trivial,trivial⟩,⟨Pc,trivial,trivial⟩⟩,⟨O',⟨Pa,trivial,trivial⟩,trivial⟩⟩,⟨O5,⟨O7,⟨O8,trivial,trivial⟩,⟨O6,trivial,trivial⟩⟩,⟨O3,⟨O4,trivial,trivial⟩,trivial⟩⟩⟩⟩,⟨OO,⟨OV,⟨OY,⟨O0,⟨O1,trivial,trivial⟩,⟨OZ,trivial,trivial⟩⟩,⟨OW,⟨OX,trivial,trivial⟩,trivial⟩⟩,⟨OR,⟨OT,⟨OU,trivial,trivial⟩,⟨OS,trivial,trivial⟩⟩,⟨OP,⟨OQ,trivial,trivial⟩,trivial⟩⟩⟩,⟨OH,⟨OK,⟨OM,⟨ON,trivial,trivial⟩,⟨OL,trivial,trivial⟩⟩,⟨OI,⟨OJ,trivial,trivial⟩,trivial⟩⟩,⟨OD,⟨OF,⟨OG,trivial,trivial⟩,⟨OE,trivial,trivial⟩⟩,⟨OB,⟨OC,trivial,trivial⟩,trivial⟩⟩⟩⟩⟩⟩⟩⟩⟩
def mixed:Tryz.prog.follows .mixedOrders=true:=by kernel_rfl
def go{A B:Prop}(a:A)(h:WC A→B:=by(intro h;(repeat'(first|refine B5 (U:=aU) rfl ?_|(refine FN ?_;first|refine qu zr zr zr zr ?_|refine qv zr zr zr zr zr zr zr ?_|refine qt zr zr zr zr zr zr ?_|refine oH zr zr zr zr zr zr ?_)|(refine aT ?_;first|refine dA (U:=aU) 0 zr zr zr zr zr zr ?_|refine dA (U:=aU) 1 zr zr zr zr zr zr ?_|refine dA (U:=aU) 2 zr zr zr zr zr zr ?_|refine dA (U:=aU) 3 zr zr zr zr zr zr ?_|refine dA (U:=aU) 4 zr zr zr zr zr zr ?_|refine dA (U:=aU) 5 zr zr zr zr zr zr ?_|refine fH (U:=aU) 0 zr zr zr zr zr zr ?_|refine fH (U:=aU) 1 zr zr zr zr zr zr ?_|refine fH (U:=aU) 2 zr zr zr zr zr zr ?_)|(refine qs ?_;first|refine sY zr zr zr ?_|refine sZ zr zr zr ?_)|(refine mu ?_;first|refine B6 zr zr zr (by simp only[gm];omega) ?_|refine zI zr zr zr (by simp only[gm];omega) ?_)|(refine gF ?_;refine vu (U:=aU) zr zr zr zr zr zr (by simp only[gm];omega) ?_)|(refine aY ?_;first|refine dv (U:=aU) 0 eW zr zr zr zr zr zr zr zr zr ?_|refine dv (U:=aU) 1 eW zr zr zr zr zr zr zr zr zr ?_|refine dv (U:=aU) 2 eW zr zr zr zr zr zr zr zr zr ?_|refine dv (U:=aU) 3 eW zr zr zr zr zr zr zr zr zr ?_)|refine B4 ?_|refine aH rfl ?_|refine zF zr zr ?_|refine iU zr zr ?_));exact h.out)):B:=h ⟨a⟩
def fq{A B:Prop}(a:A)(h:WC A→B:=by(intro h;(first|refine B5 (U:=aU) rfl ?_|(refine FN ?_;first|refine qu zr zr zr zr ?_|refine qv zr zr zr zr zr zr zr ?_|refine qt zr zr zr zr zr zr ?_|refine oH zr zr zr zr zr zr ?_)|(refine aT ?_;first|refine dA (U:=aU) 0 zr zr zr zr zr zr ?_|refine dA (U:=aU) 1 zr zr zr zr zr zr ?_|refine dA (U:=aU) 2 zr zr zr zr zr zr ?_|refine dA (U:=aU) 3 zr zr zr zr zr zr ?_|refine dA (U:=aU) 4 zr zr zr zr zr zr ?_|refine dA (U:=aU) 5 zr zr zr zr zr zr ?_|refine fH (U:=aU) 0 zr zr zr zr zr zr ?_|refine fH (U:=aU) 1 zr zr zr zr zr zr ?_|refine fH (U:=aU) 2 zr zr zr zr zr zr ?_)|(refine qs ?_;first|refine sY zr zr zr ?_|refine sZ zr zr zr ?_)|(refine mu ?_;first|refine B6 zr zr zr (by simp only[gm];omega) ?_|refine zI zr zr zr (by simp only[gm];omega) ?_)|(refine gF ?_;refine vu (U:=aU) zr zr zr zr zr zr (by simp only[gm];omega) ?_)|(refine aY ?_;first|refine dv (U:=aU) 0 eW zr zr zr zr zr zr zr zr zr ?_|refine dv (U:=aU) 1 eW zr zr zr zr zr zr zr zr zr ?_|refine dv (U:=aU) 2 eW zr zr zr zr zr zr zr zr zr ?_|refine dv (U:=aU) 3 eW zr zr zr zr zr zr zr zr zr ?_)|refine B4 ?_|refine aH rfl ?_|refine zF zr zr ?_|refine iU zr zr ?_);(repeat'(first|refine B5 (U:=aU) rfl ?_|(refine FN ?_;first|refine qu zr zr zr zr ?_|refine qv zr zr zr zr zr zr zr ?_|refine qt zr zr zr zr zr zr ?_|refine oH zr zr zr zr zr zr ?_)|(refine aT ?_;first|refine dA (U:=aU) 0 zr zr zr zr zr zr ?_|refine dA (U:=aU) 1 zr zr zr zr zr zr ?_|refine dA (U:=aU) 2 zr zr zr zr zr zr ?_|refine dA (U:=aU) 3 zr zr zr zr zr zr ?_|refine dA (U:=aU) 4 zr zr zr zr zr zr ?_|refine dA (U:=aU) 5 zr zr zr zr zr zr ?_|refine fH (U:=aU) 0 zr zr zr zr zr zr ?_|refine fH (U:=aU) 1 zr zr zr zr zr zr ?_|refine fH (U:=aU) 2 zr zr zr zr zr zr ?_)|(refine qs ?_;first|refine sY zr zr zr ?_|refine sZ zr zr zr ?_)|(refine mu ?_;first|refine B6 zr zr zr (by simp only[gm];omega) ?_|refine zI zr zr zr (by simp only[gm];omega) ?_)|(refine gF ?_;refine vu (U:=aU) zr zr zr zr zr zr (by simp only[gm];omega) ?_)|(refine aY ?_;first|refine dv (U:=aU) 0 eW zr zr zr zr zr zr zr zr zr ?_|refine dv (U:=aU) 1 eW zr zr zr zr zr zr zr zr zr ?_|refine dv (U:=aU) 2 eW zr zr zr zr zr zr zr zr zr ?_|refine dv (U:=aU) 3 eW zr zr zr zr zr zr zr zr zr ?_)|refine B4 ?_|refine aH rfl ?_|refine zF zr zr ?_|refine iU zr zr ?_));exact h.out)):B:=h ⟨a⟩
def qE{A B:Prop}(a:A)(h:WC A→B:=by(intro h;(repeat'(first|refine B5 (U:=aU) rfl ?_|(refine FN ?_;first|refine qu zr zr zr zr ?_|refine qv zr zr zr zr zr zr zr ?_|refine qt zr zr zr zr zr zr ?_|refine oH zr zr zr zr zr zr ?_)|(refine aT ?_;first|refine dA (U:=aU) 0 zr zr zr zr zr zr ?_|refine dA (U:=aU) 1 zr zr zr zr zr zr ?_|refine dA (U:=aU) 2 zr zr zr zr zr zr ?_|refine dA (U:=aU) 3 zr zr zr zr zr zr ?_|refine dA (U:=aU) 4 zr zr zr zr zr zr ?_|refine dA (U:=aU) 5 zr zr zr zr zr zr ?_|refine fH (U:=aU) 0 zr zr zr zr zr zr ?_|refine fH (U:=aU) 1 zr zr zr zr zr zr ?_|refine fH (U:=aU) 2 zr zr zr zr zr zr ?_)|(refine qs ?_;first|refine sY zr zr zr ?_|refine sZ zr zr zr ?_)|(refine mu ?_;first|refine B6 zr zr zr (by simp only[gm];omega) ?_|refine zI zr zr zr (by simp only[gm];omega) ?_)|(refine gF ?_;refine vu (U:=aU) zr zr zr zr zr zr (by simp only[gm];omega) ?_)|(refine aY ?_;first|refine dv (U:=aU) 0 eW zr zr zr zr zr zr zr zr zr ?_|refine dv (U:=aU) 1 eW zr zr zr zr zr zr zr zr zr ?_|refine dv (U:=aU) 2 eW zr zr zr zr zr zr zr zr zr ?_|refine dv (U:=aU) 3 eW zr zr zr zr zr zr zr zr zr ?_)|refine B4 ?_));exact h.out)):B:=h ⟨a⟩
def jO := @FQ Tryz.prog aU ie
def al := @wu Tryz.prog aU ie
def aO := @LA Tryz.prog aU ie
def bC := @aar Tryz.prog aU ie
def aN := @Lv Tryz.prog aU ie
def bu := @Ev Tryz.prog aU ie
def bq := @H4 Tryz.prog aU ie
def bX := @aas Tryz.prog aU ie
def az := @NN Tryz.prog aU ie
def ez := @Ey Tryz.prog aU ie
def dp := @H0 Tryz.prog aU ie
def gD := @BZ Tryz.prog aU ie
def bG := @dv Tryz.prog aU ie
def iR := @Lu Tryz.prog aU ie
def cy := @BY Tryz.prog aU ie
def dK := @B0 Tryz.prog aU ie
def hD := @NK Tryz.prog aU ie
def iS := @Lx Tryz.prog aU ie
def gi := @Eu Tryz.prog aU ie
end Go.Proofs.YtnkfkabokmcgoaaGreatDoor
namespace Go.Proofs.YtnkfkabokmcgoaaGreatDoor
open Go Go.SL
def KV{A:HP}{v:Value}{bs:List UInt8}(hv:Vw A v bs.length (bV bs))(h:0<bs.length):∃b o c,v = .slice (some ⟨b,o,none⟩) bs.length c:=hv.some (by cases bs with
 | nil=>simp at h
 | cons x l=>simp[bV])
theorem sW{bs:List UInt8}{i:Nat}(h:i<bs.length):(bV bs)[i]?=some (u8 (bs.getD i 0)):=by
 grind [bV]
theorem tM{x q:Nat}(y:Nat)(h:x*2 ^ (min q 64)=y)(hy:y<9223372036854775808):Value.int .i64 (IntKind.i64.wrap ((x:Int)*2 ^ (min ((q:Int).toNat) IntKind.i64.bits))) = .int .i64 (y:Int):=by
 have e:(x:Int)*2 ^ (min ((q:Int).toNat) IntKind.i64.bits)=(y:Int):=by
  show(x:Int)*2 ^ (min q 64)=_
  grind
 grind [cT,gm]
end Go.Proofs.YtnkfkabokmcgoaaGreatDoor
namespace Go.SL
def uv(n:Nat):List UInt8:=if n<128 then [UInt8.ofNat n]else UInt8.ofNat (n%128+128)::uv (n/128)
termination_by n
decreasing_by omega
theorem gu{n:Nat}(h:n<128):uv n=[UInt8.ofNat n]:=by rw[uv,if_pos h]
theorem Cx{n:Nat}(h:¬n<128):uv n=UInt8.ofNat (n%128+128)::uv (n/128):=by rw[uv,if_neg h]
def tq:∀(k n:Nat),n<128 ^ (k+1)→(uv n).length≤k+1
 | 0,n,h=>by rw[gu (by simpa using h)];simp
 | k+1,n,h=>by
  by_cases hn:n<128
  ·rw[gu hn];simp
  ·rw[Cx hn,List.length_cons]
   have:=tq k (n/128) (Nat.div_lt_of_lt_mul (by rw[Nat.pow_succ,Nat.mul_comm]at h;exact h))
   omega
theorem na{n:Nat}(h:n<18446744073709551616):(uv n).length≤10:=tq 9 n (Nat.lt_of_lt_of_le h (by decide))
theorem OA(n:Nat):0<(uv n).length:=by
 grind [gu,Cx]
theorem aab(m:Nat):Value.int .u8 (IntKind.u8.wrap (m:Int)) = .int .u8 ((m%256:Nat):Int):=by
 have h:IntKind.u8.wrap (m:Int)=(m:Int)%256:=by simp[IntKind.wrap,IntKind.bits,IntKind.signed]
 grind
theorem Mw(m:Nat):Value.int .u8 (IntKind.u8.wrap ((BitVec.ofInt IntKind.u8.bits ((m%256:Nat):Int) ||| BitVec.ofInt IntKind.u8.bits 128).toNat:Int))=u8 (UInt8.ofNat (m%128+128)):=by
 rw[JF _ ai]
 simp only[u8,UInt8.toNat_ofNat']
 grind
def rh:Nat→Nat→List UInt8→Option (Nat × List UInt8 × Bool)
 | _,_,[]=>none
 | i,acc,c::r=>if i=10∨(i=9∧1<c.toNat)then none else if c.toNat<128 then some (acc+c.toNat*2 ^ (7*i),r,decide (i=0∨0<c.toNat))else rh (i+1) (acc+(c.toNat%128)*2 ^ (7*i)) r
def cB(bs:List UInt8):Nat × List UInt8 × Bool:=(rh 0 0 bs).getD (0,[],false)
def cO(bs:List UInt8):Option Nat:=if(cB bs).2.2=true∧(cB bs).2.1=[]then some (cB bs).1 else none
theorem EN{i acc c:Nat}(ha:acc<2 ^ (7*i))(hc:c<128):acc+c*2 ^ (7*i)<2 ^ (7*(i+1)):=by
 have h1:acc+c*2 ^ (7*i)<(c+1)*2 ^ (7*i):=by rw[Nat.add_mul,Nat.one_mul];omega
 have h2:(c+1)*2 ^ (7*i)≤128*2 ^ (7*i):=Nat.mul_le_mul_right _ ai
 grind
theorem Mb{i acc c:Nat}(hi:i≤9)(ha:acc<2 ^ (7*i))(hc:c<128)(h9:i=9→c≤1):acc+c*2 ^ (7*i)<18446744073709551616:=by
 by_cases h:i=9
 ·grind
 ·have h1:=EN ha hc
  have h2:2 ^ (7*(i+1))≤2 ^ 63:=Nat.pow_le_pow_right ai ai
  omega
def mB(bs:List UInt8):Option (Nat × Nat) :=
 if 1≤bs.length then match cO (bs.take 1)with
  | some n=>some (1,n)
  | none=>if 2≤bs.length then(cO (bs.take 2)).map fun n=>(2,n)else none
 else none
theorem lP{bs:List UInt8}{n:Nat}(h:cO bs=some n)(hl:bs.length≤2):n<16384:=by
 unfold cO cB at h
 split at h
 ·rename_i hh
  cases h
  match bs,hl with
  | [],_=>simp[rh]at hh
  | [a],_ =>
   grind [rh]
  | [a,b],_ =>
   grind [rh]
 ·cases h
end Go.SL
namespace Go.Proofs.YtnkfkabokmcgoaaGreatDoor
open Go Go.SL
attribute [local irreducible] J K aq Ends ag aI aC bF aW aP a6 aZ
def j5(n:Nat)(h:n<18446744073709551616):aq Tryz.prog 240 [.int .u64 (n:Int)] [] (fun r H=>H=[aI 5 1 r (uv n).length (bV (uv n))]):=by
 refine aq.aj Tryz.func240 Tryz.ntmps240 fun G F R hE=>?_
 refine go ?_
 first|refine ak (bj 5 1 none _) ?_|refine aS (bj 5 1 none _) ?_
 have aaY:=na h
 refine bn (fun s:Nat × List UInt8 × Value=>s.2.1++uv s.1=uv n∧s.1≤n) (fun s=>s.1)
  (fun s=>[(0,.int .u64 (s.1:Int)),(3,s.2.2)])
  (fun s=>aI 5 1 s.2.2 s.2.1.length (bV s.2.1)::F) (n,[],.slice none 0 0) ⟨rfl,Nat.le_refl _⟩ rfl bQ ah ?_
 rintro⟨m,done,v⟩⟨hm,hmn⟩ ih
 simp only at hm hmn
 have hlen:done.length+(uv m).length≤10:=by rw[← List.length_append,hm];exact aaY
 have sD:=OA m
 first|refine aL 0 rfl ?_|refine cL 0 rfl ?_
 rintro va vc hve
 simp only at hve
 subst hve
 refine go ?_
 refine au zr zr ?_ ?_
 ·intro ek
  simp only at ek
  have q5:¬m<128:=by omega
  refine go ?_
  refine jO zr zr zr zr zr zr ?_
  refine aD 10 (.int .u8 ((m%256:Nat):Int)) rfl (aab m) (go ?_)
  refine aD 11 (u8 (UInt8.ofNat (m%128+128))) rfl (Mw m) ?_
  refine al (cs:=bV [UInt8.ofNat (m%128+128)]) zr zr zr zr zr zr zr zr zr bh ?_
  intro b1
  refine aO (mm:=1) (news:=bV [UInt8.ofNat (m%128+128)]) 1 0 zr zr zr zr zr zr zr zr zr zr zr zr (Vw.ag rfl) rfl (dm _) (by simp only;omega) (by show(_+1)*1≤_;simp only;omega) (fun _=>rfl) bh ?_
  intro v1
  rw[show bV done++bV [UInt8.ofNat (m%128+128)]=bV (done++[UInt8.ofNat (m%128+128)])from by simp[bV],show done.length+1=(done++[UInt8.ofNat (m%128+128)]).length from by simp]
  first|refine aL 1 rfl ?_|refine cL 1 rfl ?_
  rintro wa wc rfl
  refine go ?_
  refine iA zr zr zr ai ?_
  refine aD 7 (.int .u64 ((m/128:Nat):Int)) rfl (congrArg (Value.int .u64) (by show(m:Int)/128=_;omega)) ?_
  refine go ?_
  refine aK ih (m/128,done++[UInt8.ofNat (m%128+128)],_) rfl ⟨by simp only[List.append_assoc,List.singleton_append];rw[← Cx q5];exact hm,by simp only;omega⟩ (by simp only;omega) bQ ah
 ·intro cq
  simp only at cq
  have pj:m<128:=by omega
  refine go ?_
  refine aD 16 (u8 (UInt8.ofNat m)) rfl (by simp only[u8,UInt8.toNat_ofNat'];congr 1;omega) ?_
  refine al (cs:=bV [UInt8.ofNat m]) zr zr zr zr zr zr zr zr zr bh ?_
  intro b1
  refine aO (mm:=1) (news:=bV [UInt8.ofNat m]) 1 0 zr zr zr zr zr zr zr zr zr zr zr zr (Vw.ag rfl) rfl (dm _) (by simp only;omega) (by show(_+1)*1≤_;simp only;omega) (fun _=>rfl) bh ?_
  intro v1
  rw[show bV done++bV [UInt8.ofNat m]=bV (uv n)from by rw[← hm,gu pj];simp[bV],show done.length+1=(uv n).length from by rw[← hm,gu pj];simp]
  refine go ?_
  first|refine aG hE Tryz.func240 rfl _ zr zr ah|refine bB hE Tryz.func240 rfl _ zr zr ah
theorem wW{x q y:Nat}(hq:q≤64)(h:x*2 ^ q=y)(hy:y<18446744073709551616):Value.int .u64 (IntKind.u64.wrap ((x:Int)*2 ^ (min ((q:Int).toNat) IntKind.u64.bits))) = .int .u64 (y:Int):=by
 have e:(x:Int)*2 ^ (min ((q:Int).toNat) IntKind.u64.bits)=(y:Int):=by
  show(x:Int)*2 ^ (min q 64)=_
  grind
 grind [cT,gm]
def AI(A:HP):Vw A (.slice none 0 0) ([]:List UInt8).length (bV []):=⟨none,0,rfl,.inl rfl⟩
set_option maxRecDepth 20000 in
theorem Fw(A:HP)(v:Value)(bs:List UInt8)(hv:Vw A v bs.length (bV bs))(gg:∃a c,v = .slice a bs.length c∧bs.length≤c)(hl:bs.length≤9223372036854775807) :
    aq Tryz.prog 324 [v] [A] (fun r H=>∃rv,r = .tuple #[.int .u64 ((cB bs).1:Int),rv,.bool (cB bs).2.2]∧(Vw A rv (cB bs).2.1.length (bV (cB bs).2.1)∧∃a c,rv = .slice a (cB bs).2.1.length c∧(cB bs).2.1.length≤c)∧H=[A]):=by
  obtain⟨a0,c0,rfl,M9⟩:=gg
  refine aq.aj Tryz.func324 Tryz.ntmps324 fun G F R hE=>?_
  refine go ?_
  refine bn (fun s:Nat × Nat=>s.1≤bs.length∧s.1≤10∧(s.1≤9→s.2<2 ^ (7*s.1))∧rh 0 0 bs=rh s.1 s.2 (bs.drop s.1)) (fun s=>bs.length-s.1)
    (fun s=>[(0,.slice a0 bs.length c0),(5,.int .u64 (s.2:Int)),(8,.slice a0 bs.length c0),(9,.int .i64 bs.length),(10,.int .i64 s.1)])
    (fun _=>A::F) (0,0) ⟨Nat.zero_le _,ai,by simp,by simp⟩ rfl bQ ah ?_
  rintro⟨i,acc⟩⟨hi,uD,gh,kp⟩ ih
  simp only at hi uD gh kp
  refine go ?_
  refine au zr zr ?_ ?_
  case' refine_2 =>
    intro ek
    simp only at ek
    have GV:cB bs=(0,[],false):=by
      grind [cB,rh]
    refine go ?_
    rw[GV]at hE
    first|refine ad hE Tryz.func324 zr zr ⟨_,rfl,⟨AI A,none,0,rfl,Nat.le_refl _⟩,rfl⟩|refine bB hE Tryz.func324 rfl _ rfl ⟨_,rfl,⟨AI A,none,0,rfl,Nat.le_refl _⟩,rfl⟩ ah
  intro cq
  simp only at cq
  have dq:i<bs.length:=by omega
  obtain⟨ba,oa,ca,dW⟩:=KV hv ai
  simp only[Value.slice.injEq,true_and]at dW
  obtain⟨rfl,rfl⟩:=dW
  obtain⟨c,hc⟩:∃c,bs[i]?=some c:=⟨bs[i],by simp⟩
  have WY:bs.drop i=c::bs.drop (i+1):=by
    rw[List.drop_eq_getElem_cons dq];congr 1
    grind
  have Om:c.toNat<256:=c.toNat_lt
  rw[WY]at kp
  simp only[rh]at kp
  refine go ?_
  refine bC i zr zr zr zr zr zr zr zr dq ?_
  refine aN 0 i zr zr zr hv rfl (u7 hc) zr zr ?_
  repeat'(first|(with_reducible intro iI)|refine fq ?_|refine od ?_ ?_|refine dw zr zr zr zr ?_ ?_|refine au zr zr ?_ ?_)
  case' refine_1 =>
    have ju:(i=10∨(i=9∧1<c.toNat)):=by simp only at *;omega
  case' refine_2.refine_1.refine_1 =>
    have ju:(i=10∨(i=9∧1<c.toNat)):=by simp only at *;omega
  case' refine_2.refine_1.refine_2 => 
    have p6:¬(i=10∨(i=9∧1<c.toNat)):=by simp only at *;omega
  case' refine_2.refine_2 => 
    have p6:¬(i=10∨(i=9∧1<c.toNat)):=by simp only at *;omega
  any_goals (
    have GV:cB bs=(0,[],false):=by unfold cB;rw[kp,if_pos ju];rfl
    rw[GV]at hE
    (first|refine ad hE Tryz.func324 zr zr ⟨_,rfl,⟨AI A,none,0,rfl,Nat.le_refl _⟩,rfl⟩|refine bB hE Tryz.func324 rfl _ rfl ⟨_,rfl,⟨AI A,none,0,rfl,Nat.le_refl _⟩,rfl⟩ ah))
  all_goals(
    have hi9:i≤9:=by omega
    have hac:=gh hi9
    have Ob:c.toNat%128<128:=Nat.mod_lt _ ai
    have On:=Mb (c:=c.toNat%128) hi9 hac Ob (by intro h;omega)
    refine aD 27 (.int .u8 ((c.toNat%128:Nat):Int)) rfl (congrArg (Value.int .u8) (zp _ Om)) (go ?_)
    refine hG zr zr zr (by simp only[gm];omega) ?_
    refine aD 30 (.int .i64 ((7*i:Nat):Int)) rfl (congrArg (Value.int .i64) (by simp only;omega)) ?_
    refine nZ zr zr zr ai ?_
    refine aD 31 (.int .u64 ((c.toNat%128*2 ^ (7*i):Nat):Int)) rfl (wW ai rfl ai) (go ?_)
    refine aV 5 (.int .u64 ((acc+c.toNat%128*2 ^ (7*i):Nat):Int)) rfl (congrArg (Value.int .u64) (Vb hac On)) (go ?_)
    refine au zr zr ?_ ?_
    · intro ack
      have hcm:c.toNat%128=c.toNat:=by omega
      have kj:cB bs=(acc+c.toNat%128*2 ^ (7*i),bs.drop (i+1),decide (i=0∨0<c.toNat)):=by
        grind [cB]
      refine aJ (fun w=>Sat G w ([])) (ke 0 14 .nil) rfl ae ae ae cY ?_
      refine go ?_
      refine bu (p:=(i:Int)+1) (q:=(bs.length:Int)) zr zr zr zr zr zr zr ai ai (.inl rfl) ?_
      refine aD 39 (.slice (sliceAt (some ⟨ba,oa,none⟩) c0 (i+1) 1) (bs.drop (i+1)).length (c0-(i+1))) rfl (by rw[show((i:Int)+1).toNat=i+1 from by omega,show((bs.length:Int)).toNat=bs.length from by omega,List.length_drop];rfl) ?_
      have yX:Vw A (.slice (sliceAt (some ⟨ba,oa,none⟩) c0 (i+1) 1) (bs.drop (i+1)).length (c0-(i+1))) (bs.drop (i+1)).length (bV (bs.drop (i+1))):=by
        have:=hv.Hr (s:=1) (by rw[bJ];omega) M9 (i+1) ai
        rw[List.length_drop,show bV (bs.drop (i+1))=(bV bs).drop ((i+1)*1)from by simp[bV,List.map_drop]]
        exact this
      rw[kj]at hE
      repeat'(first|(with_reducible intro iI)|refine fq ?_|refine od ?_ ?_|refine dw zr zr zr zr ?_ ?_|refine au zr zr ?_ ?_)
      all_goals first
        | (have G4:i=0:=(by simp only at iI;omega)
           rw[decide_eq_true (Or.inl G4:i=0∨0<c.toNat)]at hE
           (first|refine ad hE Tryz.func324 zr zr ⟨_,rfl,⟨yX,_,_,rfl,by simp only[List.length_drop];omega⟩,rfl⟩|refine bB hE Tryz.func324 rfl _ rfl ⟨_,rfl,⟨yX,_,_,rfl,by simp only[List.length_drop];omega⟩,rfl⟩ ah))
        | (have G4:¬i=0:=(by simp only at iI;omega)
           rw[show decide (i=0∨0<c.toNat)=decide ((0:Int)<(c.toNat:Int))from decide_eq_decide.2 ⟨fun h=>by omega,fun h => .inr ai⟩]at hE
           (first|refine ad hE Tryz.func324 zr zr ⟨_,rfl,⟨yX,_,_,rfl,by simp only[List.length_drop];omega⟩,rfl⟩|refine bB hE Tryz.func324 rfl _ rfl ⟨_,rfl,⟨yX,_,_,rfl,by simp only[List.length_drop];omega⟩,rfl⟩ ah))
    · intro ab3
      refine go ?_
      refine aK ih (i+1,acc+c.toNat%128*2 ^ (7*i)) rfl ⟨by simp only;omega,by simp only;omega,fun _=>EN hac Ob,by rw[kp,if_neg p6,if_neg ai]⟩ (by simp only;omega) bQ ah)
end Go.Proofs.YtnkfkabokmcgoaaGreatDoor
