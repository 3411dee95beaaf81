import Derived.Test.YtlionahpheehaaaGreatDoorQTP2
import Derived.Test.YtlionahpheehaaaGreatDoorQTP3
import Derived.Test.YtlionahpheehaaaGreatDoorQTP4
import Derived.Test.YtlionahpheehaaaGreatDoorQTP5
import Derived.Test.YtlionahpheehaaaGreatDoorQTP6
import Derived.Test.YtlionahpheehaaaGreatDoorQTP7
import Derived.Test.YtlionahpheehaaaGreatDoorQTP8
set_option linter.unusedSectionVars false
set_option linter.unusedSimpArgs false
set_option linter.unusedVariables false
set_option maxHeartbeats 1000000
set_option maxRecDepth 20000
set_option linter.defProp false
namespace Go.Proofs.YtlionahpheehaaaGreatDoor
open Go Go.SL
attribute [local irreducible] J K aH Ends ak aK aV bX bj aS bp bD cp Sha.chunks Sha.chunk Sha.rounds Sha.sched fz cY GI fG aJ
def oR(A:Ab)(nm:ByteArray):Nat:=if(kf kB nm).isSome then(A.size nm).1 else 0
theorem En{α:Type}{l m:List α}(h:l.Perm m)(f:α→Nat):(l.map f).sum=(m.map f).sum:=by
 grind
theorem fZ{A:Ab}(h:(A.names.map (·.1)).Nodup){x:ByteArray × Nat}(hx:x∈A.names):A.look x.1=some x.2:=by
 have key:∀(l:List (ByteArray × Nat)),(l.map (·.1)).Nodup→x∈l→(l.find? (fun y=>decide (y.1=x.1))).map (·.2)=some x.2:=by
  intro l
  induction l with
  | nil=>intro _ h;cases h
  | cons y l ih =>
   grind
 exact key A.names h hx
theorem yN(A:Ab):(gA A).Perm (A.names.map (·.1)):=by
 unfold gA fb
 have h:=(nQ (A.names.map (·.1))).map strOf
 rw[List.map_map]at h
 have h2:(A.names.map (·.1)).map (strOf ∘ fun b=>b.data.toList)=A.names.map (·.1):=by
  rw[List.map_map]
  refine List.map_congr_left fun x _=>?_
  exact Aj x.1
 grind
def z7{A:Ab}(h:(A.names.map (·.1)).Nodup):vy A=((gA A).map (oR A)).sum:=by
 rw[En (yN A),List.map_map]
 unfold vy
 congr 1
 refine List.map_congr_left fun x hx=>?_
 have hl:=fZ h hx
 simp only[Function.comp,oR,Ab.size,hl]
def EL{A:Ab}(h:MA A)(nm:ByteArray):oR A nm≤1048576:=by
 unfold oR Ab.size
 split
 ·cases A.look nm with
  | none=>simp
  | some f=>exact h.now f
 ·omega
def xx{α:Type}(l:List α)(f:α→Nat)(m:Nat)(h:∀x∈l,f x≤m):(l.map f).sum≤l.length*m:=by
 induction l with
 | nil=>simp
 | cons x l ih =>
  have h1:=h x (List.mem_cons_self ..)
  have h2:=ih (fun y hy=>h y (List.mem_cons_of_mem _ hy))
  simp only[List.map_cons,List.sum_cons,List.length_cons,Nat.add_mul,Nat.one_mul]
  omega
def oU(bu:List (Dg × Bl))(dn:List Dg):Int:=((bu.filter fun x=>decide (x.1∈dn)).map (·.2.size)).sum
def QA(bu:List (Dg × Bl)):oU bu []=0:=by unfold oU;rw[List.filter_eq_nil_iff.2 (by simp)];rfl
def GY(bu:List (Dg × Bl))(dn:List Dg)(h:∀x∈bu,x.1∈dn):oU bu dn=(bu.map (·.2.size)).sum:=by
 unfold oU
 rw[List.filter_eq_self.2 (fun x hx=>decide_eq_true (h x hx))]
theorem Np(bu:List (Dg × Bl))(key:Dg)(dn:List Dg)(h:key ∉ bu.map (·.1)):oU bu (key::dn)=oU bu dn:=by
 unfold oU
 congr 2
 refine List.filter_congr fun x hx=>?_
 grind
theorem Nq(bu:List (Dg × Bl))(key:Dg)(y:Bl)(dn:List Dg)(hn:(bu.map (·.1)).Nodup)(hm:(key,y)∈bu)(hd:key ∉ dn):oU bu (key::dn)=oU bu dn+y.size:=by
 induction bu with
 | nil=>cases hm
 | cons x l ih =>
  grind [Np,oU]
theorem LB(bu:List (Dg × Bl))(dn:List Dg)(h:∀x∈bu,0≤x.2.size∧x.2.size≤1048576):0≤oU bu dn∧oU bu dn≤bu.length*1048576:=by
 unfold oU
 induction bu with
 | nil=>simp
 | cons x l ih =>
  obtain⟨h1,h2⟩:=h x (List.mem_cons_self ..)
  obtain⟨h3,h4⟩:=ih (fun y hy=>h y (List.mem_cons_of_mem _ hy))
  grind
def qS(bu:List (Dg × Bl)):Prop:=(∀x∈bu,0≤x.2.size∧x.2.size≤1048576)∧bu.length≤1000000
theorem U1(bs bd:Nat)(q:Int)(mb:Nat)(s:fW)(hb:qS s.bu):aH Tryz.prog 116 [ptr bs] (cV bs bd q mb s)
  (fun r H=>r = .int .i64 (lM s)∧H=cV bs bd q mb s):=by
 obtain⟨A,bu,brk⟩:=s
 obtain⟨nN,qZ⟩:=hb
 simp only at nN qZ
 refine aH.aC Tryz.func116 Tryz.ntmps116 fun G F R hE=>?_
 refine al (H':=ak bs (cl (eJ bd q mb brk) 88)::aJ bd A::aV dV mb (dJ bu)::F) ad ?_
 refine wX (bd:=bd) (A:=A) 1 rfl ?_
 intro Kg
 have Rc:=uV Kg
 have IZ:lM ⟨A,bu,brk⟩=((gA A).map (oR A)).sum+(bu.map (·.2.size)).sum:=by
  unfold lM
  rw[z7 (Kg.nodup _ (List.mem_cons_self ..))]
 obtain⟨l,hl⟩:∃l,l=gA A:=⟨_,rfl⟩
 rw[← hl]at IZ Rc
 rw[IZ]at hE
 have hle:∀i,((l.take i).map (oR A)).sum≤209715200:=fun i=>by
  have h1:=xx (l.take i) (oR A) 1048576 (fun x _=>EL Kg x)
  grind
 refine go ?_
 have nr:=pG bd A
 rw[← hl]at nr
 refine ao nr ?_
 rintro r _ rfl
 refine aN 0 rfl ?_
 rintro ra rc rfl
 refine eZ 0 rfl ?_
 intro dH
 refine go ?_
 refine bF (fun i:Nat=>i≤l.length) (fun i=>l.length-i)
  (fun i=>[(0,ptr bs),(3,.int .i64 (((l.take i).map (oR A)).sum:Nat)),(16,.slice ra l.length rc),(17,.int .i64 (l.length:Int)),(18,.int .i64 (i:Int))])
  (fun i=>aK 9 1 (.slice ra l.length rc) l.length (l.map Value.string)::ak bs (cl (eJ bd q mb brk) 88)::aJ bd A::aV dV mb (dJ bu)::F) 0 (Nat.zero_le _) rfl cF ad ?_
 rintro i hi ih
 have Rj:=hle i
 refine go ?_
 refine aB zr zr ?_ ?_
 ·intro dk
  have e9:i<l.length:=by omega
  obtain⟨nm,hx⟩:∃x,l[i]?=some x:=⟨l[i],by simp⟩
  have yX:((l.take (i+1)).map (oR A)).sum=((l.take i).map (oR A)).sum+oR A nm:=by
   rw[List.take_add_one,hx];simp
  have eB:(l.map Value.string)[i]?=some (.string nm):=by rw[List.getElem?_map,hx];rfl
  have gD:=EL Kg nm
  obtain⟨b,o,gV,ez⟩:=dH.some (by intro h;rw[h]at eB;simp at eB)
  simp only[Value.slice.injEq]at ez
  obtain⟨rfl,_,rfl⟩:=ez
  refine go ?_
  refine cu i 1 zr zr zr zr zr zr zr zr e9 ?_
  refine aY ?_
  refine aZ 0 (i*1) zr zr zr dH rfl (by rw[Nat.mul_one];exact eB) zr zr ?_
  refine go ?_
  refine aeb (wj kB nm (by decide)) ?_
  cases hh:kf kB nm with
  | none =>
   have hz:oR A nm=0:=by unfold oR;rw[hh];rfl
   have aac:((l.take i).map (oR A)).sum=((l.take (i+1)).map (oR A)).sum:=by omega
   simp only[Hz]
   unfold dV
   refine go ?_
   refine aL zr zr zr bO ?_
   intro b9
   refine go ?_
   rw[aac]
   refine aQ ih (i+1) rfl aj aj cF ad
  | some d =>
   have hz:oR A nm=(A.size nm).1:=by unfold oR;rw[hh];rfl
   rw[hz]at yX gD
   simp only[Hz]
   unfold dV
   refine go ?_
   refine aL zr zr zr bO ?_
   intro b9
   refine go ?_
   refine aeb (lI bd A nm) ?_
   refine go ?_
   refine aE 3 (.int .i64 (((l.take (i+1)).map (oR A)).sum:Nat)) rfl (congrArg (Value.int .i64) (by rw[yX];omega)) ?_
   refine aQ ih (i+1) rfl aj aj cF ad
 ·intro fO
  have ue:i=l.length:=by omega
  subst ue
  rw[List.take_length]
  obtain⟨n0,Re⟩:∃n0,n0=(l.map (oR A)).sum:=⟨_,rfl⟩
  rw[List.take_length]at Rj
  rw[← Re]at Rj hE ⊢
  refine pH fun⟨w,hw⟩=>?_
  have lq:(bu.map (·.1)).Nodup:=by
   obtain⟨h1,hA⟩:=E3 hw (i:=3) rfl
   have:=JV hA
   grind [dJ]
  clear hw w
  refine go ?_
  refine zS (kv:=dV) (es:=dJ bu) (U:=bh) 3 zr zr zr zr zr (fun _=>rfl) bO ?_
  intro it
  refine go ?_
  have Hm:(dJ bu).map (·.1)=bu.map (·.1):=by unfold dJ;rw[List.map_map];rfl
  have kr:∀dn,0≤oU bu dn∧oU bu dn≤1048576000000:=fun dn=>by
   have:=LB bu dn nN
   omega
  have h00:(n0:Int)=(n0:Int)+oU bu []:=by rw[QA];omega
  refine aE 3 (.int .i64 ((n0:Int)+oU bu [])) rfl (congrArg (Value.int .i64) h00) ?_
  refine bF (fun s:List Dg=>s.Nodup∧∀x∈s,x∈bu.map (·.1)) (fun s=>bu.length-s.length) (fun s=>[(0,ptr bs),(3,.int .i64 ((n0:Int)+oU bu s)),(45,.pointer (some ⟨it,0,none⟩))])
   (fun s=>bX dV mb it (dJ bu) s::ak bs (cl (eJ bd q mb brk) 88)::aJ bd A::F) [] ⟨List.nodup_nil,by simp⟩ rfl cF ad ?_
  clear ih
  rintro dn⟨u3,eg⟩ ih
  have hsd:=kr dn
  refine go ?_
  refine FI (kv:=dV) (es:=dJ bu) 0 rfl TX.inj zr zr (fun _=>rfl) eH bO ?_ ?_
  ·intro fH
   have hme:oU bu dn=(bu.map (·.2.size)).sum:=GY bu dn (fun x hx=>fH (x.1,ix x.2) (List.mem_map.2 ⟨x,hx,rfl⟩))
   rw[hme]
   refine go ?_
   refine al (aq.head (B:=[aV dV mb (dJ bu)]) (fun h hs=>by obtain⟨h',s,hm⟩:=sZ h hs;exact⟨h',s,fL hm⟩)) ?_
   refine al (H':=cV bs bd q mb ⟨A,bu,brk⟩++F) ad ?_
   refine ah hE Tryz.func116 zr zr ⟨rfl,rfl⟩
  ·intro key v fk tO
   obtain⟨y,hy,hye⟩:∃y,(key,y)∈bu∧v=ix y:=by
    obtain⟨z,hz,he⟩:=List.mem_map.1 fk
    cases he
    grind
   subst hye
   have hms:=Nq bu key y dn lq hy tO
   have agb:=kr (key::dn)
   have hk:key∈bu.map (·.1):=List.mem_map.2 ⟨_,hy,rfl⟩
   have dk:dn.length<bu.length:=by
    have h1:(key::dn).length≤(bu.map (·.1)).length:=(List.nodup_cons.2 ⟨tO,u3⟩).length_le_of_subset (fun x hx=>by rcases List.mem_cons.1 hx with rfl|h;exact hk;exact eg x h)
    grind
   refine go ?_
   refine zW (kv:=dV) (es:=dJ bu) 0 rfl TX.inj zr zr fk ?_
   unfold ix
   refine go ?_
   refine aL zr zr zr bO ?_
   intro b11
   refine go ?_
   refine aE 3 (.int .i64 ((n0:Int)+oU bu (key::dn))) rfl (congrArg (Value.int .i64) (by rw[hms];omega)) ?_
   refine aQ ih (key::dn) rfl (⟨List.nodup_cons.2 ⟨tO,u3⟩,fun x hx=>by rcases List.mem_cons.1 hx with rfl|h;exact hk;exact eg x h⟩) (by show _-(key::dn).length<_;simp only[List.length_cons];omega) cF ad
end Go.Proofs.YtlionahpheehaaaGreatDoor
namespace Go.Proofs.YtlionahpheehaaaGreatDoor
open Go Go.SL
structure HA(A:Ab):Prop where
 ei:A.ei=[]
 on:A.off=false
 keys:(A.names.map (·.1)).Nodup
 own:(A.names.map (·.2)).Nodup
 ids:(A.fs.map (·.1)).Nodup
 known:∀x∈A.names,x.2∈A.fs.map (·.1)
def vw(A:Ab)(nm:ByteArray):Option (List UInt8):=(A.look nm).map A.now
def HA.new(room:Nat):HA (Ab.new room):=⟨rfl,rfl,List.nodup_nil,List.nodup_nil,List.nodup_nil,fun _ h=>by cases h⟩
def HA.meet{A:Ab}(h:HA A):A.meet true=(0,A):=by unfold Ab.meet;rw[if_neg (by simp),if_neg (by rw[h.on];simp),h.ei]
theorem HA.find{A:Ab}(h:HA A)(nm:ByteArray):A.find nm true=match A.look nm with|none=>(4,none,A)|some f=>(0,some f,A):=by
 unfold Ab.find
 rw[h.meet,if_pos rfl]
 grind
theorem gS{A:Ab}{nm:ByteArray}{f:Nat}(h:A.look nm=some f):(nm,f)∈A.names:=by
 unfold Ab.look Ab.cW at h
 cases hx:A.names.find? (fun x=>decide (x.1=nm))with
 | none=>rw[hx]at h;cases h
 | some x =>
  grind
theorem HA.TG{A:Ab}(h:HA A){a b:ByteArray}{f:Nat}(ha:A.look a=some f)(hb:A.look b=some f):a=b:=by
 have h1:=gS ha
 have h2:=gS hb
 have hn:=h.own
 have key:∀l:List (ByteArray × Nat),(l.map (·.2)).Nodup→(a,f)∈l→(b,f)∈l→a=b:=by
  intro l
  induction l with
  | nil=>intro _ h;cases h
  | cons y l ih =>
   grind
 grind
theorem G4(l:List (ByteArray × Nat))(k nm:ByteArray)(f:Nat)(hk:Ab.cW l k=none):Ab.cW (l++[(k,f)]) nm=if nm=k then some f else Ab.cW l nm:=by
 unfold Ab.cW at hk ⊢
 grind
theorem Lz{A:Ab}{f g:Nat}(names:List (ByteArray × Nat))(aF:List (List (ByteArray × Nat))):({ A with names:=names,aF:=aF,fs:=(f,[],[])::A.fs }:Ab).now g=if f=g then []else A.now g:=by
 unfold Ab.now Ab.file
 grind
theorem HA.create{A:Ab}(h:HA A){nm:ByteArray}{f:Nat}(hv:vw A nm=none)(hl:A.names.length<200)(hf:f ∉ A.fs.map (·.1)){e:Nat}{B:Ab}(hB:(e,B)=A.create true nm f) :
  e=0∧HA B∧(∀n,vw B n=if n=nm then some []else vw A n)∧B.names.length=A.names.length+1∧B.room=A.room:=by
 have qY:A.look nm=none:=by
  unfold vw at hv
  cases hx:A.look nm with
  | none=>rfl
  | some x=>rw[hx]at hv;cases hv
 have hc:A.create true nm f=(0,{ A.oF (A.names++[(nm,f)])with fs:=(f,[],[])::A.fs }):=by
  unfold Ab.create
  rw[h.meet,if_pos rfl]
  grind
 rw[hc]at hB
 injection hB with h1 h2
 subst h1 h2
 have aeW:∀n g,A.look n=some g→f≠g:=fun n g hg e=>hf (e ▸ h.known _ (gS hg))
 refine⟨rfl,⟨h.ei,h.on,?_,?_,?_,?_⟩,?_,?_,rfl⟩
 ·show((A.names++[(nm,f)]).map (·.1)).Nodup
  rw[List.map_append,List.nodup_append]
  refine⟨h.keys,by simp,fun a ha b hb=>?_⟩
  simp only[List.map_cons,List.map_nil,List.mem_singleton]at hb
  subst hb
  rintro rfl
  obtain⟨x,hx,SS⟩:=List.mem_map.1 ha
  have:=fZ h.keys hx
  grind
 ·show((A.names++[(nm,f)]).map (·.2)).Nodup
  rw[List.map_append,List.nodup_append]
  refine⟨h.own,by simp,fun a ha b hb=>?_⟩
  simp only[List.map_cons,List.map_nil,List.mem_singleton]at hb
  subst hb
  rintro rfl
  obtain⟨x,hx,rfl⟩:=List.mem_map.1 ha
  exact hf (h.known x hx)
 ·exact List.nodup_cons.2 ⟨hf,h.ids⟩
 ·intro x hx
  rcases List.mem_append.1 hx with hx|hx
  ·exact List.mem_cons_of_mem _ (h.known x hx)
  grind
 ·intro n
  unfold vw
  have e1:({ A.oF (A.names++[(nm,f)])with fs:=(f,[],[])::A.fs }:Ab).look n=if n=nm then some f else A.look n:=G4 A.names nm n f qY
  rw[e1]
  by_cases hn:n=nm
  ·rw[if_pos hn,if_pos hn]
   show some _=_
   exact congrArg some ((Lz _ _).trans (if_pos rfl))
  ·rw[if_neg hn,if_neg hn]
   cases hg:A.look n with
   | none=>rfl
   | some g=>exact congrArg some ((Lz _ _).trans (if_neg (aeW n g hg)))
 ·show(A.names++[(nm,f)]).length=_
  simp
theorem Qw(A:Ab)(f g:Nat)(n:List UInt8)(w:List (Nat × Nat × List UInt8))(hg:g∈A.fs.map (·.1)):({ A with fs:=Ab.Ej A.fs f n,writes:=w }:Ab).now g=if g=f then n else A.now g:=by
 unfold Ab.now Ab.file Ab.Ej
 simp only[List.find?_map]
 have:((fun x:Nat × List UInt8 × List UInt8=>decide (x.1=g)) ∘ fun x=>if x.1=f then(x.1,n,x.2.2)else x)=fun x=>decide (x.1=g):=by
  grind
 rw[this]
 cases hx:A.fs.find? (fun x=>decide (x.1=g))with
 | none =>
  grind
 | some x =>
  grind
theorem HA.write{A:Ab}(h:HA A){nm:ByteArray}{c:List UInt8}(hv:vw A nm=some c)(at_:Nat)(b:List UInt8)(hr:A.used+(at_+b.length)≤A.room){e:Nat}{B:Ab}(hB:(e,B)=A.write true nm at_ b) :
  e=0∧HA B∧(∀n,vw B n=if n=nm then some (bY c at_ b)else vw A n)∧B.names=A.names∧B.room=A.room:=by
 obtain⟨f,hf,rfl⟩:∃f,A.look nm=some f∧A.now f=c:=by
  unfold vw at hv
  cases hx:A.look nm with
  | none=>rw[hx]at hv;cases hv
  | some f=>rw[hx]at hv;injection hv with hv;exact⟨f,rfl,hv⟩
 have hc:A.write true nm at_ b=(0,{ A with fs:=Ab.Ej A.fs f (bY (A.now f) at_ b),writes:=A.writes++[(f,at_,b)] }):=by
  unfold Ab.write
  rw[h.find,hf]
  grind
 rw[hc]at hB
 injection hB with h1 h2
 subst h1 h2
 have ada:∀g,g∈A.fs.map (·.1)→({ A with fs:=Ab.Ej A.fs f (bY (A.now f) at_ b),writes:=A.writes++[(f,at_,b)] }:Ab).now g=if g=f then bY (A.now f) at_ b else A.now g:=fun g hg=>Qw A f g _ _ hg
 refine⟨rfl,⟨h.ei,h.on,h.keys,h.own,?_,?_⟩,?_,rfl,rfl⟩
 ·show((Ab.Ej A.fs f _).map (·.1)).Nodup
  rw[vz]
  exact h.ids
 ·intro x hx
  show x.2∈(Ab.Ej A.fs f _).map (·.1)
  rw[vz]
  exact h.known x hx
 ·intro n
  unfold vw
  show(A.look n).map _=_
  by_cases hn:n=nm
  ·subst hn
   rw[if_pos rfl,hf]
   exact congrArg some ((ada f (h.known _ (gS hf))).trans (if_pos rfl))
  ·rw[if_neg hn]
   cases hg:A.look n with
   | none=>rfl
   | some g=>exact congrArg some ((ada g (h.known _ (gS hg))).trans (if_neg (fun e=>hn (h.TG (e ▸ hg) hf))))
theorem CO(fs:List (Nat × List UInt8 × List UInt8))(f:Nat):(Ab.oJ fs f).map (·.1)=fs.map (·.1):=by
 unfold Ab.oJ
 rw[List.map_map]
 refine List.map_congr_left fun x _=>?_
 grind
theorem Nk(A:Ab)(f g:Nat)(w:List (Nat × Nat × List UInt8)):({ A with fs:=Ab.oJ A.fs f,writes:=w }:Ab).now g=A.now g:=by
 unfold Ab.now Ab.file Ab.oJ
 simp only[List.find?_map]
 have:((fun x:Nat × List UInt8 × List UInt8=>decide (x.1=g)) ∘ fun x=>if x.1=f then(x.1,x.2.1,x.2.1)else x)=fun x=>decide (x.1=g):=by
  grind
 rw[this]
 cases A.fs.find? (fun x=>decide (x.1=g))with
 | none=>rfl
 | some x =>
  grind
theorem HA.sync{A:Ab}(h:HA A){nm:ByteArray}{c:List UInt8}(hv:vw A nm=some c){e:Nat}{B:Ab}(hB:(e,B)=A.sync true nm) :
  e=0∧HA B∧(∀n,vw B n=vw A n)∧B.names=A.names∧B.room=A.room:=by
 obtain⟨f,hf⟩:∃f,A.look nm=some f:=by
  unfold vw at hv
  cases hx:A.look nm with
  | none=>rw[hx]at hv;cases hv
  | some f=>exact⟨f,rfl⟩
 have hc:A.sync true nm=(0,{ A with fs:=Ab.oJ A.fs f,writes:=A.writes.filter fun x => !decide (x.1=f) }):=by
  unfold Ab.sync
  rw[h.find,hf]
  grind
 rw[hc]at hB
 injection hB with h1 h2
 subst h1 h2
 refine⟨rfl,⟨h.ei,h.on,h.keys,h.own,?_,?_⟩,?_,rfl,rfl⟩
 ·show((Ab.oJ A.fs f).map (·.1)).Nodup
  rw[CO]
  exact h.ids
 ·intro x hx
  show x.2∈(Ab.oJ A.fs f).map (·.1)
  rw[CO]
  exact h.known x hx
 ·intro n
  unfold vw
  show(A.look n).map _=_
  cases hg:A.look n with
  | none=>rfl
  | some g=>exact congrArg some (Nk A f g _)
def HA.cG{A:Ab}(h:HA A){e:Nat}{B:Ab}(hB:(e,B)=A.cG):e=0∧HA B∧(∀n,vw B n=vw A n)∧B.names=A.names∧B.room=A.room:=by
 have hc:A.cG=(0,{ A with aF:=[A.names] }):=by
  unfold Ab.cG
  rw[h.meet,if_pos rfl]
 rw[hc]at hB
 injection hB with h1 h2
 subst h1 h2
 exact⟨rfl,⟨h.ei,h.on,h.keys,h.own,h.ids,h.known⟩,fun n=>rfl,rfl,rfl⟩
theorem oX(l:List (ByteArray × Nat))(k n:ByteArray):Ab.cW (Ab.dW l k) n=if n=k then none else Ab.cW l n:=by
 unfold Ab.cW Ab.dW
 grind
theorem HA.remove{A:Ab}(h:HA A){nm:ByteArray}{c:List UInt8}(hv:vw A nm=some c){e:Nat}{B:Ab}(hB:(e,B)=A.remove true nm) :
  e=0∧HA B∧(∀n,vw B n=if n=nm then none else vw A n)∧B.names=Ab.dW A.names nm∧B.room=A.room:=by
 obtain⟨f,hf⟩:∃f,A.look nm=some f:=by
  unfold vw at hv
  cases hx:A.look nm with
  | none=>rw[hx]at hv;cases hv
  | some f=>exact⟨f,rfl⟩
 have hc:A.remove true nm=(0,A.oF (Ab.dW A.names nm)):=by
  unfold Ab.remove
  rw[h.find,hf]
  rfl
 rw[hc]at hB
 injection hB with h1 h2
 subst h1 h2
 refine⟨rfl,⟨h.ei,h.on,?_,?_,h.ids,?_⟩,?_,rfl,rfl⟩
 ·exact(List.filter_sublist.map _).nodup h.keys
 ·exact(List.filter_sublist.map _).nodup h.own
 ·intro x hx
  exact h.known x (List.mem_filter.1 hx).1
 ·intro n
  unfold vw
  have e1:(A.oF (Ab.dW A.names nm)).look n=if n=nm then none else A.look n:=oX A.names nm n
  rw[e1]
  by_cases hn:n=nm
  ·grind
  ·rw[if_neg hn,if_neg hn];rfl
theorem HA.rename{A:Ab}(h:HA A){o n:ByteArray}{c:List UInt8}(dw:o≠n)(hv:vw A o=some c)(IY:vw A n=none){e:Nat}{B:Ab}(hB:(e,B)=A.rename true o n) :
  e=0∧HA B∧(∀m,vw B m=if m=n then some c else if m=o then none else vw A m)∧B.room=A.room∧∃f,A.look o=some f∧B.names=Ab.dW A.names o++[(n,f)]:=by
 obtain⟨f,hf,rfl⟩:∃f,A.look o=some f∧A.now f=c:=by
  unfold vw at hv
  cases hx:A.look o with
  | none=>rw[hx]at hv;cases hv
  | some f=>rw[hx]at hv;injection hv with hv;exact⟨f,rfl,hv⟩
 have FR:A.look n=none:=by
  unfold vw at IY
  cases hx:A.look n with
  | none=>rfl
  | some x=>rw[hx]at IY;cases IY
 have Rm:Ab.cW (Ab.dW A.names o) n=none:=by
  rw[oX]
  split
  ·rfl
  ·exact FR
 have nM:Ab.lh (Ab.dW A.names o) n f=Ab.dW A.names o++[(n,f)]:=by
  unfold Ab.lh
  grind
 have hc:A.rename true o n=(0,A.oF (Ab.dW A.names o++[(n,f)])):=by
  unfold Ab.rename
  rw[h.find,hf]
  grind
 rw[hc]at hB
 injection hB with h1 h2
 subst h1 h2
 have eg:∀x∈Ab.dW A.names o,x∈A.names∧x.1≠o:=fun x hx=>by
  obtain⟨h1,h2⟩:=List.mem_filter.1 hx
  grind
 refine⟨rfl,⟨h.ei,h.on,?_,?_,h.ids,?_⟩,?_,rfl,f,hf,rfl⟩
 ·show((Ab.dW A.names o++[(n,f)]).map (·.1)).Nodup
  rw[List.map_append,List.nodup_append]
  refine⟨(List.filter_sublist.map _).nodup h.keys,by simp,fun a ha b hb=>?_⟩
  simp only[List.map_cons,List.map_nil,List.mem_singleton]at hb
  subst hb
  rintro rfl
  obtain⟨x,hx,rfl⟩:=List.mem_map.1 ha
  have:=fZ h.keys (eg x hx).1
  grind
 ·show((Ab.dW A.names o++[(n,f)]).map (·.2)).Nodup
  rw[List.map_append,List.nodup_append]
  refine⟨(List.filter_sublist.map _).nodup h.own,by simp,fun a ha b hb=>?_⟩
  simp only[List.map_cons,List.map_nil,List.mem_singleton]at hb
  subst hb
  rintro rfl
  obtain⟨x,hx,SS⟩:=List.mem_map.1 ha
  have h3:=fZ h.keys (eg x hx).1
  rw[SS]at h3
  exact(eg x hx).2 (h.TG h3 hf)
 ·intro x hx
  rcases List.mem_append.1 hx with hx|hx
  ·exact h.known x (eg x hx).1
  ·simp only[List.mem_singleton]at hx
   subst hx
   exact h.known (o,f) (gS hf)
 ·intro m
  unfold vw
  have e1:(A.oF (Ab.dW A.names o++[(n,f)])).look m=if m=n then some f else if m=o then none else A.look m:=by
   refine(G4 (Ab.dW A.names o) n m f Rm).trans ?_
   rw[oX]
   rfl
  rw[e1]
  by_cases hm:m=n
  ·rw[if_pos hm,if_pos hm];rfl
  ·rw[if_neg hm,if_neg hm]
   by_cases LZ:m=o
   ·grind
   ·rw[if_neg LZ,if_neg LZ];rfl
theorem Pu(d:Dg):(ib d).all ZY=true:=by
 grind [ib,vJ,mi,ZY]
theorem yV(k:List UInt8)(d:Dg)(hk:k.length≤10)(ho:k.all ZY=true):isName (cX k d)=true:=by
 unfold isName cX
 rw[uI]
 have hs:(strOf (k++ib d)).size=k.length+64:=by
  show(k++ib d).toArray.size=_
  grind [jX]
 grind [Pu]
theorem ir(x:Bl):isName (fS x)=true:=yV kS x.d (by decide) (by decide)
def Dp(x:Bl):isName (fB x)=true:=yV kB x.d (by decide) (by decide)
def HM(x y:Bl):fS x≠fB y:=fun h=>absurd (Bt (by rfl) h) (by decide)
theorem TS(x:Bl)(at_:Nat)(b:List UInt8)(h:at_+b.length≤1048576):gG (fS x) at_ b=true:=by
 grind [gG,ir]
theorem mI(A:Ab)(nm:ByteArray):sc A nm=(vw A nm).isSome:=by
 grind [sc,vw]
theorem pA{A:Ab}(h:HA A)(nm:ByteArray):fV A nm=vw A nm:=by
 unfold fV vw
 cases A.look nm with
 | none=>rfl
 | some f=>simp[h.on]
theorem SH{q:Int}{x:Bl}{s t:fW}{e:Nat}(h:HA s.A)(hb:s.brk=false)(hr:bP x=true)(kZ:iN s.bu x.d=none)(hB:vw s.A (fB x)=none)(hq:lM s+x.size≤q)(hS:vw s.A (fS x)=none)(hn:s.A.names.length<200)(hR:eh q x s e t) :
  e=0∧HA t.A∧t.brk=false∧t.bu=s.bu++[(x.d,x)]∧(∀n,vw t.A n=if n=fS x then some []else vw s.A n)∧t.A.names.length=s.A.names.length+1∧t.A.room=s.A.room:=by
 obtain⟨A,bu,brk⟩:=s
 simp only at h hb kZ hB hS hn
 subst hb
 unfold eh at hR
 rw[if_neg (by simp),if_neg (by rw[hr];simp),if_neg (by rw[kZ,mI,hB];simp),if_neg aj,if_neg (by rw[mI,hS];simp)]at hR
 obtain⟨e1,s1,⟨B,fe,rfl⟩,hc⟩:=hR
 obtain⟨e2,A2,⟨f,hf,V1⟩,qu⟩:=fe
 rw[ir]at V1
 obtain⟨rfl,h2,rl,rX,vu⟩:=h.create hS hn hf V1
 rcases qu with⟨dw,_⟩|⟨_,e3,A3,LO,S6⟩
 ·grind
 obtain⟨rfl,h3,hv3,hl3,LU⟩:=h2.cG LO
 rcases S6 with⟨dw,_⟩|⟨_,rfl,rfl⟩
 ·grind
 grind
theorem Sc{x:Bl}{i at_ n:Int}{b c:List UInt8}{s t:fW}{e:Nat}(h:HA s.A)(hb:s.brk=false)(ho:iN s.bu x.d=some x)(hX:dX x i=some (at_,n))(hl:(b.length:Int)=n)(hv:vw s.A (fS x)=some c)(S8:0≤at_∧at_+b.length≤1048576)(mz:s.A.used+(at_.toNat+b.length)≤s.A.room)(hR:nE x i b s e t) :
  e=0∧HA t.A∧t.brk=false∧t.bu=s.bu∧(∀n,vw t.A n=if n=fS x then some (bY c at_.toNat b)else vw s.A n)∧t.A.names=s.A.names∧t.A.room=s.A.room:=by
 obtain⟨A,bu,brk⟩:=s
 simp only at h hb ho hv mz
 subst hb
 unfold nE at hR
 have hm:jD ⟨A,bu,false⟩ x=0:=by unfold jD yL;simp[ho]
 rw[hm,if_neg (by simp),hX]at hR
 dsimp only at hR
 rw[if_neg aj]at hR
 obtain⟨B,⟨e1,A1,hw,hc⟩,rfl⟩:=hR
 unfold gq at hw
 rw[TS x at_.toNat b aj]at hw
 obtain⟨rfl,h1,ko,Kb,Dv⟩:=h.write hv at_.toNat b mz hw
 rcases hc with⟨dw,_⟩|⟨_,rfl,rfl⟩
 ·grind
 grind
theorem Cg{x:Bl}{c:List UInt8}{s t:fW}{e:Nat}(h:HA s.A)(hb:s.brk=false)(ho:iN s.bu x.d=some x)(hv:vw s.A (fS x)=some c)(hR:iS x s e t) :
  e=0∧HA t.A∧t.brk=false∧t.bu=nO s.bu x.d∧(∀n,vw t.A n=if n=fS x then none else vw s.A n)∧t.A.names=Ab.dW s.A.names (fS x)∧t.A.room=s.A.room:=by
 obtain⟨A,bu,brk⟩:=s
 simp only at h hb ho hv
 subst hb
 unfold iS at hR
 have hm:jD ⟨A,bu,false⟩ x=0:=by unfold jD yL;simp[ho]
 rw[hm,if_neg (by simp)]at hR
 obtain⟨s1,⟨B,⟨e1,A1,hw,hc⟩,rfl⟩,ht⟩:=hR
 unfold jz at hw
 rw[ir]at hw
 obtain⟨rfl,h1,ko,Kb,Dv⟩:=h.remove hv hw
 rcases hc with⟨dw,_⟩|⟨_,rfl,rfl⟩
 ·grind
 grind
theorem zi{x:Bl}{c:List UInt8}{s t:fW}{e:Nat}(h:HA s.A)(hb:s.brk=false)(ho:iN s.bu x.d=some x)(hv:vw s.A (fS x)=some c)(hw:eo x c=false)(hR:dS x s e t) :
  e=8∧HA t.A∧t.brk=false∧t.bu=nO s.bu x.d∧(∀n,vw t.A n=if n=fS x then none else vw s.A n)∧t.A.names=Ab.dW s.A.names (fS x)∧t.A.room=s.A.room:=by
 grind [jD,yL,dS,pA,Cg]
theorem B7{x:Bl}{c:List UInt8}{s t:fW}{e:Nat}(h:HA s.A)(hb:s.brk=false)(ho:iN s.bu x.d=some x)(hv:vw s.A (fS x)=some c)(kZ:vw s.A (fB x)=none)(hw:eo x c=true)(hR:dS x s e t) :
  e=0∧HA t.A∧t.brk=false∧t.bu=nO s.bu x.d∧(∀n,vw t.A n=if n=fB x then some c else if n=fS x then none else vw s.A n)∧t.A.room=s.A.room∧∃f,t.A.names=Ab.dW s.A.names (fS x)++[(fB x,f)]:=by
 obtain⟨A,bu,brk⟩:=s
 simp only at h hb ho hv kZ
 subst hb
 have hm:jD ⟨A,bu,false⟩ x=0:=by unfold jD yL;simp[ho]
 unfold dS at hR
 rw[hm,if_neg (by simp),pA h,hv,if_neg (by show ¬eo x c=false;rw[hw];simp)]at hR
 obtain⟨s1,⟨B,⟨e1,A1,h1,y7⟩,rfl⟩,ht⟩:=hR
 unfold gj at h1
 rw[ir]at h1
 obtain⟨rfl,g1,v1,l1,r1⟩:=h.sync hv h1
 rcases y7 with⟨dw,_⟩|⟨_,e2,A2,h2,qu⟩
 ·grind
 unfold lP at h2
 rw[show [fS x,fB x].all isName=true from by simp[ir,Dp]]at h2
 obtain⟨rfl,g2,v2,r2,f,_,l2⟩:=g1.rename (HM x x) ((v1 _).trans hv) ((v1 _).trans kZ) h2
 rcases qu with⟨dw,_⟩|⟨_,e3,A3,h3,S6⟩
 ·grind
 obtain⟨rfl,g3,v3,l3,r3⟩:=g2.cG h3
 rcases S6 with⟨dw,_⟩|⟨_,rfl,rfl⟩
 ·grind
 grind
def stE(bs bd:Nat)(q:Int)(mb:Nat):HP:=fun h=>∃b,ak bs (cl (eJ bd q mb b) 88) h
def Jm(bs bd:Nat)(q:Int)(mb:Nat)(b:Bool)(H:List HP):aq (ak bs (cl (eJ bd q mb b) 88)::H) (stE bs bd q mb::H) :=
 aq.fold (B:=[_]) fun h' hs=>⟨h',sub.refl h',b,eO hs⟩
def Pz{G:cL}{w:World}{bs bd:Nat}{q:Int}{mb:Nat}{H:List HP}(hw:Sat G w (stE bs bd q mb::H)):w.cell? ⟨bs,0,none⟩=some (ptr bd):=by
 obtain⟨h,hh,b,hA⟩:=hw.kp (i:=0) rfl
 have hb:h bs=some (cl (eJ bd q mb b) 88):=by rw[hA bs,if_pos rfl]
 exact ek hh (by unfold eB;rw[hb];rfl)
attribute [local irreducible] J K aH Ends ak aK aV bX bj aS bp bD cp Sha.chunks Sha.chunk Sha.rounds Sha.sched fz cY GI fG aJ
section
variable{P:Program}{f:FuncId}{n:Nat}{R:Ending→World→Prop}{G:cL}{L:gh}{H:List HP}{S:World→Prop}{all:Array Oper}{rest:Pl}
def ad6{k k':List Item}{α:Type}(I:α→Prop)(Lf:α→gh)(Hf:α→List HP)(hk:iq 1000 k = .mk k')(tail:∀y,I y→K P f n R G k' (Lf y) (Hf y))(h:(∀y,I y→K P f n R G k' (Lf y) (Hf y))→J P f n R G S all rest k L H):J P f n R G S all rest k L H:=h tail
def aa9{k k':List Item}{α:Type}(m:Nat)(I:α→Prop)(Lf:α→gh)(Hf:α→List HP)(hk:iq 1000 (k.drop m) = .mk k')(tail:∀y,I y→K P f n R G k' (Lf y) (Hf y))(h:(∀y,I y→K P f n R G k' (Lf y) (Hf y))→J P f n R G S all rest k L H):J P f n R G S all rest k L H:=h tail
end
theorem Pm{A:Ab}{bu:List (Dg × Bl)}{brk:Bool}(h:MA A)(hb:qS bu):0≤lM ⟨A,bu,brk⟩∧lM ⟨A,bu,brk⟩≤1048786000000:=by
 have h1:=LB bu (bu.map (·.1)) hb.1
 rw[GY bu _ (fun x hx=>List.mem_map.2 ⟨x,hx,rfl⟩)]at h1
 have h2:=z7 (h.nodup _ (List.mem_cons_self ..))
 have h3:=xx (gA A) (oR A) 1048576 (fun x _=>EL h x)
 have h4:=uV h
 have h5:=hb.2
 grind [lM]
theorem R0(l:List (Dg × Bl))(x:Bl)(h:iN l x.d=none):pC (dJ l) x.d (ix x)=dJ (l++[(x.d,x)]):=by
 have hn:x.d ∉ (dJ l).map (·.1):=by
  rw[← BO,tC,h];rfl
 grind [pC,dJ]
theorem IT(bs bd:Nat)(q:Int)(hq:0≤q∧q≤1073741824)(mb:Nat)(s:fW)(x:Bl)(RA:qS s.bu)(cN:s.A.aF.length≤900000000)(fD:s.A.writes.length≤900000000) :
  aH Tryz.prog 41 [ptr bs,ix x] (cV bs bd q mb s)
  (fun r H=>∃(e:Nat) (t:fW),r = .int .i64 (e:Int)∧H=cV bs bd q mb t∧eh q x s e t):=by
 obtain⟨A,bu,brk⟩:=s
 have Vz:=U1 bs bd q mb ⟨A,bu,brk⟩ RA
 have qY:=tC bu x.d
 obtain⟨nN,qZ⟩:=RA
 simp only at cN fD nN qZ
 have rU:=km x
 have u0:=Mx bs bd q mb brk A x.d
 unfold dV at u0
 unfold ix at rU ⊢
 refine aH.aC Tryz.func41 Tryz.ntmps41 fun G F R hE=>?_
 refine al (H':=ak bs (cl (eJ bd q mb brk) 88)::aV dV mb (dJ bu)::aJ bd A::F) (aq.refl _) ?_
 refine aP rfl ?_
 refine bJ zr zr bO ?_
 intro b2
 refine bJ zr zr bO ?_
 intro b3
 refine zt ?_
 refine aO (fun w=>Sat G w ([ak b3 (cl (ck x) 31),ak b2 (cl [ptr bs] 40),ak bs (cl (eJ bd q mb brk) 88),aV dV mb (dJ bu)])) (dM 0 10 (.act 10 (.act 11 (.st 12 .nil)))) rfl aw aw aw dI ?_
 refine ad6 (fun Z4:Bool=>Z4=(iN bu x.d).isSome) (fun Z4=>[(2,ptr b2),(3,ptr b3),(6,.bool Z4)]) (fun _=>ak b3 (cl (ck x) 31)::ak b2 (cl [ptr bs] 40)::ak bs (cl (eJ bd q mb brk) 88)::aV dV mb (dJ bu)::aJ bd A::F) rfl ?_ ?_
 ·rintro Z4 Uf
  have hB0:brk=true→eh q x ⟨A,bu,brk⟩ 10 ⟨A,bu,brk⟩:=fun h=>by unfold eh;rw[if_pos h];exact⟨rfl,rfl⟩
  have Tb:¬brk=true→bP x=false→eh q x ⟨A,bu,brk⟩ 1 ⟨A,bu,brk⟩:=fun h h1=>by unfold eh;rw[if_neg h,if_pos h1];exact⟨rfl,rfl⟩
  have hB2:¬brk=true→¬bP x=false→(Z4=true∨sc A (fB x)=true)→eh q x ⟨A,bu,brk⟩ 5 ⟨A,bu,brk⟩:=fun h h1 h2=>by unfold eh;rw[Uf]at h2;rw[if_neg h,if_neg h1,if_pos h2];exact⟨rfl,rfl⟩
  have hB3:∀e t,¬brk=true→¬bP x=false→¬(Z4=true∨sc A (fB x)=true)→(if q<lM ⟨A,bu,brk⟩+x.size then e=11∧t=⟨A,bu,brk⟩
    else if sc A (fS x)then e=0∧t=⟨A,bu++[(x.d,x)],brk⟩
    else ∃e1 s1,Fk [iG (fS x),eb] ⟨A,bu,brk⟩ e1 s1∧((e1≠0∧e=e1∧t=s1)∨(e1=0∧e=0∧t=⟨s1.A,s1.bu++[(x.d,x)],s1.brk⟩)))→eh q x ⟨A,bu,brk⟩ e t:=fun e t h h1 h2 h3=>by
   unfold eh;rw[Uf]at h2;rw[if_neg h,if_neg h1,if_neg h2];exact h3
  cases brk with
  | true =>
   refine go ?_
   refine al (H':=cV bs bd q mb ⟨A,bu,true⟩++F) ad ?_
   refine ah hE Tryz.func41 zr zr ⟨10,⟨A,bu,true⟩,rfl,rfl,hB0 rfl⟩
  | false =>
   refine wX (bd:=bd) (A:=A) 4 rfl ?_
   intro Kg
   have hul:=Pm (brk:=false) Kg ⟨nN,qZ⟩
   refine go ?_
   refine aW (U:=bh) (l:=ck x) 0 zr zr zr zr zr zr ?_
   refine aeb rU ?_
   cases hr:bP x with
   | false =>
    refine go ?_
    refine al (H':=cV bs bd q mb ⟨A,bu,false⟩++F) ad ?_
    refine ah hE Tryz.func41 zr zr ⟨1,⟨A,bu,false⟩,rfl,rfl,Tb (by simp) hr⟩
   | true =>
    have LV:¬bP x=false:=by rw[hr];simp
    have SX:=hr
    simp only[bP,decide_eq_true_eq]at SX
    cases Z4 with
    | true =>
     refine go ?_
     refine al (H':=cV bs bd q mb ⟨A,bu,false⟩++F) ad ?_
     refine ah hE Tryz.func41 zr zr ⟨5,⟨A,bu,false⟩,rfl,rfl,hB2 (by simp) LV (.inl rfl)⟩
    | false =>
     refine go ?_
     refine ct 0 zr zr zr zr zr zr ?_
     ((refine go ?_;(refine ao u0 ?_)))
     rintro _ _⟨rfl,rfl⟩
     cases hhb:sc A (cX kB x.d)with
     | true =>
      refine go ?_
      refine al (H':=cV bs bd q mb ⟨A,bu,false⟩++F) ad ?_
      refine ah hE Tryz.func41 zr zr ⟨5,⟨A,bu,false⟩,rfl,rfl,hB2 (by simp) LV (.inr hhb)⟩
     | false =>
      have kZ:¬(false=true∨sc A (fB x)=true):=by
       grind [sc,fB]
      refine go ?_
      refine aO (fun w=>Sat G w ([ak b3 (cl (ck x) 31),ak b2 (cl [ptr bs] 40),ak bs (cl (eJ bd q mb false) 88)])) (.st 0 (.st 2 (.st 3 (dM 5 4 (.act 1 (.st 4 (.st 9 (.st 10 .nil)))))))) rfl aw aw aw dI ?_
      refine go ?_
      refine Vd Vz ?_
      refine go ?_
      refine aB zr zr ?_ ?_
      ·intro hqu
       have Q6:q<lM ⟨A,bu,false⟩+x.size:=hqu
       refine go ?_
       refine al (H':=cV bs bd q mb ⟨A,bu,false⟩++F) ad ?_
       ((refine ah hE Tryz.func41 zr zr ⟨11,⟨A,bu,false⟩,rfl,rfl,hB3 _ _ (by simp) LV kZ (by rw[if_pos Q6];exact⟨rfl,rfl⟩)⟩))
      ·intro hqu
       have Q6:¬q<lM ⟨A,bu,false⟩+x.size:=hqu
       refine al (H':=ak b3 (cl (ck x) 31)::ak b2 (cl [ptr bs] 40)::ak bs (cl (eJ bd q mb false) 88)::aV dV mb (dJ bu)::aJ bd A::F) ad (go ?_)
       refine ct 0 zr zr zr zr zr zr ?_
       refine aeb (mo x) ?_
       refine aL zr zr zr bO ?_
       intro b7
       refine go ?_
       refine aeb (ER bs bd q mb false A (fS x)) ?_
       refine aa9 1 (fun B:Ab=>eh q x ⟨A,bu,false⟩ 0 ⟨B,bu++[(x.d,x)],false⟩) (fun B=>[(2,ptr b2),(3,ptr b3)]) (fun B=>ak b3 (cl (ck x) 31)::ak b2 (cl [ptr bs] 40)::ak bs (cl (eJ bd q mb false) 88)::aV dV mb (dJ bu)::aJ bd B::F) rfl ?_ ?_
       ·intro B V6
        have nM:=R0 bu x (by cases h:iN bu x.d with|none=>rfl|some y=>rw[h]at Uf;cases Uf)
        refine aO (fun w=>Sat G w ([ak b3 (cl (ck x) 31),ak b2 (cl [ptr bs] 40),ak bs (cl (eJ bd q mb false) 88)])) (dM 0 7 (.act 7 .nil)) rfl aw aw aw dI ?_
        refine go ?_
        refine cE (U:=bh) 0 zr zr zr zr zr zr (go ?_)
        refine cE (U:=bh) (cs:=ck x) 0 zr zr zr zr zr zr (go ?_)
        refine jH (es:=dJ bu) (key:=x.d) (v:=ix x) 3 TX (fun _ _=>by exact trivial) zr zr zr zr zr zr zr zr ?_
        rw[nM]
        refine go ?_
        refine al (H':=cV bs bd q mb ⟨B,bu++[(x.d,x)],false⟩++F) ad ?_
        refine ah hE Tryz.func41 zr zr ⟨0,⟨B,bu++[(x.d,x)],false⟩,rfl,rfl,V6⟩
       ·intro tail
        cases hsf:sc A (fS x)with
        | true =>
         refine go ?_
         refine FC tail A rfl (hB3 _ _ (by simp) LV kZ (by rw[if_neg Q6,if_pos hsf];exact⟨rfl,rfl⟩)) cF ad
        | false =>
         have xT:∀(i:Nat) (fv:Value) (sp:D3),[.func (.func 119) #[] #[ptr b2,ptr b7],.func (.func 38) #[ptr bd] #[] ][i]?=some fv→[iG (fS x),eb][i]?=some sp→∃g fi cap,fv = .func (.func g) fi cap∧∀y,GQ A i y→aH Tryz.prog g (fi.toList++cap.toList) [oE bs bd q mb false (Sep [ak b2 (cl [ptr bs] 40),ak b7 (cl [.string (fS x)] 9)]) y] (fun r H=>∃(e:Nat) (x':Ab),r = .int .i64 (e:Int)∧H=[oE bs bd q mb false (Sep [ak b2 (cl [ptr bs] 40),ak b7 (cl [.string (fS x)] 9)]) x']∧sp y e x'∧(e=0→GQ A (i+1) x')):=by
          intro i fv sp hi hs
          match i,hi,hs with
          | 0,hi,hs =>
           cases hi;cases hs
           refine⟨_,_,_,rfl,fun y hy=>?_⟩
           refine(qx (p:=iG (fS x) y) (KG bs bd b2 b7 q mb false (fS x) y (by have:=hy.1;omega))).post ?_
           rintro r H⟨e,B,rfl,rfl,h1⟩
           exact⟨e,B,rfl,rfl,h1,fun _=>hy.next (uk h1)⟩
          | 1,hi,hs =>
           cases hi;cases hs
           refine⟨_,_,_,rfl,fun y hy=>(LA bs bd q mb false [ak b2 (cl [ptr bs] 40),ak b7 (cl [.string (fS x)] 9)] y).post ?_⟩
           rintro r H⟨e,B,rfl,rfl,h1⟩
           exact⟨e,B,rfl,rfl,h1,fun _=>hy.next (iZ h1)⟩
          | k+2,hi,hs=>simp at hi
         refine go ?_
         refine aO (fun w=>Sat G w [stE bs bd q mb,ak b2 (cl [ptr bs] 40)]) (dM 0 7 (.act 7 (.act 8 (.st 9 .nil)))) rfl aw aw aw (fun w hw=>hw.cI (aq.trans (H2:=[ak bs (cl (eJ bd q mb false) 88),ak b2 (cl [ptr bs] 40)]) ad (Jm bs bd q mb _ _))) ?_
         refine go ?_
         refine aY ?_
         refine mT zr zr (fun w hw=>Pz hw) zr zr ?_
         refine go ?_
         refine az (cs:=[.func (.func 119) #[] #[ptr b2,ptr b7],.func (.func 38) #[ptr bd] #[] ]) zr zr zr zr zr zr zr zr zr (fun _ w hw=>by exact hw.cI (aq.trans (H2:=[ak bs (cl (eJ bd q mb false) 88),ak b2 (cl [ptr bs] 40)]) ad (Jm bs bd q mb _ _))) ?_
         intro row
         have I5:=lZ bs bd q mb false (Sep [ak b2 (cl [ptr bs] 40),ak b7 (cl [.string (fS x)] 9)]) (ak row (cl [.func (.func 119) #[] #[ptr b2,ptr b7],.func (.func 38) #[ptr bd] #[] ] 94)) (.slice (some ⟨row,0,none⟩) 2 2) [.func (.func 119) #[] #[ptr b2,ptr b7],.func (.func 38) #[ptr bd] #[] ] (Vw.ak rfl) (by show 2≤_;omega) [iG (fS x),eb] rfl (GQ A) xT A (GQ.zero A)
         refine aT (H':=ak row (cl [.func (.func 119) #[] #[ptr b2,ptr b7],.func (.func 38) #[ptr bd] #[] ] 94)::oE bs bd q mb false (Sep [ak b2 (cl [ptr bs] 40),ak b7 (cl [.string (fS x)] 9)]) A::aV dV mb (dJ bu)::ak b3 (cl (ck x) 31)::F) (aq.trans (H2:=ak bs (cl (eJ bd q mb false) 88)::aJ bd A::([ak b2 (cl [ptr bs] 40),ak b7 (cl [.string (fS x)] 9)]++(ak row (cl [.func (.func 119) #[] #[ptr b2,ptr b7],.func (.func 38) #[ptr bd] #[] ] 94)::aV dV mb (dJ bu)::ak b3 (cl (ck x) 31)::F))) ad (aq.trans (xz bs bd q mb false _ A _) ad)) ?_
         refine fq zr zr zr zr I5 ad ?_ (fun _ _ w hp hw=>by
          obtain⟨e,B,rfl,rfl,fe,_⟩:=hp
          exact hw.cI (aq.trans (aq.pick [1] rfl) (aq.trans (p7 bs bd q mb (or false (decide (e≠0))) _ B _) (aq.trans (H2:=[ak bs (cl (eJ bd q mb (or false (decide (e≠0)))) 88),ak b2 (cl [ptr bs] 40)]) ad (Jm bs bd q mb _ _)))))
         rintro _ _⟨e,B,rfl,rfl,fe,-⟩
         refine aT (aq.trans (aq.pick [1] rfl) (p7 bs bd q mb (or false (decide (e≠0))) _ B _)) ?_
         have ou:∀e' t,(∃e1 s1,Fk [iG (fS x),eb] ⟨A,bu,false⟩ e1 s1∧((e1≠0∧e'=e1∧t=s1)∨(e1=0∧e'=0∧t=⟨s1.A,s1.bu++[(x.d,x)],s1.brk⟩)))→eh q x ⟨A,bu,false⟩ e' t:=fun e' t h=>hB3 e' t (by simp) LV kZ (by rw[if_neg Q6,if_neg (by rw[hsf];simp)];exact h)
         refine go ?_
         refine aB zr zr ?_ ?_
         ·intro aal
          have he:e≠0:=by omega
          refine go ?_
          refine al (H':=cV bs bd q mb ⟨B,bu,or false (decide (e≠0))⟩++F) ad ?_
          refine ah hE Tryz.func41 zr zr ⟨e,⟨B,bu,or false (decide (e≠0))⟩,rfl,rfl,ou _ _ ⟨e,_,⟨B,fe,rfl⟩,.inl ⟨he,rfl,rfl⟩⟩⟩
         ·intro aaz
          have he:e=0:=by omega
          subst he
          refine go ?_
          refine FC tail B rfl (ou _ _ ⟨0,_,⟨B,fe,rfl⟩,.inr ⟨rfl,rfl,rfl⟩⟩) cF ad
 ·intro tail
  refine go ?_
  refine cE (U:=bh) 0 zr zr zr zr zr zr (go ?_)
  refine sD (U:=bh) (es:=dJ bu) (key:=x.d) rfl TX zr zr zr zr zr zr zr (fun w hw=>hw.qv (i:=3) rfl) ?_
  rw[tC]
  cases hb:iN bu x.d with
  | none =>
   rw[hb]at tail
   simp only[Option.map_none,Option.getD_none,Option.isSome_none]
   refine go ?_
   refine aL zr zr zr (fun _ w hw=>hw.cI ad) ?_
   intro b5
   refine zt ?_
   (refine bE ?_;(refine aD 0 dI zr zr zr zr zr zr zr zr zr ?_))
   refine zt ?_
   refine FC tail false zr zr cF ad
  | some y =>
   rw[hb]at tail
   simp only[Option.map_some,Option.getD_some,Option.isSome_some]
   unfold ix
   refine go ?_
   refine aL zr zr zr (fun _ w hw=>hw.cI ad) ?_
   intro b5
   refine zt ?_
   (refine bE ?_;(refine aD 0 dI zr zr zr zr zr zr zr zr zr ?_))
   refine zt ?_
   refine FC tail true zr zr cF ad
end Go.Proofs.YtlionahpheehaaaGreatDoor
namespace Go.Proofs.YtlionahpheehaaaGreatDoor
open Go Go.SL
variable{A:Ab}{x:Bl}{e:Nat}{s t:fW}
attribute [local irreducible] J K aH Ends ak aK aV bX bj aS bp bD cp Sha.chunks Sha.chunk Sha.rounds Sha.sched fz cY GI fG aJ
theorem JU(h:A.names=[]):gA A=[]:=by
 grind [ql]
def rD{kind:List UInt8}{right:Ab→Dg→Bool}{B:Ab}(h:A.names=[])(hs:eV kind right A e B):e=0∧B=A:=by
 unfold eV at hs
 rw[JU h]at hs
 exact hs
theorem BS{B:Ab}(h:A.names=[])(ho:sw A e B):e=0∧B=A:=by
 obtain⟨e1,A1,⟨e2,A2,h2,c2⟩,ou⟩:=ho
 obtain⟨rfl,rfl⟩:=rD h h2
 rcases c2 with⟨dw,_⟩|⟨_,e3,A3,h3,c3⟩
 ·grind
 obtain⟨rfl,rfl⟩:=rD h h3
 rcases c3 with⟨dw,_⟩|⟨_,e4,A4,h4,c4⟩
 ·grind
 obtain⟨rfl,rfl⟩:=rD h h4
 rcases c4 with⟨dw,_⟩|⟨_,rfl,rfl⟩
 ·grind
 grind
theorem Fp{b:List UInt8}{k:Int}(h:jF b k=some x):bP x=true∧x.size=b.length∧x.piece=k∧eo x b=true:=by
 grind [jF,er,bP,eo]
def RW:∃x,jF [7] 16=some x:=by
 unfold jF er
 rw[if_pos (by decide)]
 exact⟨_,rfl⟩
def iO(n:Nat)(s t:fW):Prop:=t.A.aF.length≤s.A.aF.length+n∧t.A.writes.length≤s.A.writes.length+n
def N8(ss:List D3)(hs:∀sp∈ss,∀A e B,sp A e B→kU A B)(A:Ab)(e:Nat)(B:Ab)(h:jG ss A e B):B.aF.length≤A.aF.length+ss.length∧B.writes.length≤A.writes.length+ss.length:=by
 induction ss generalizing A with
 | nil=>obtain⟨_,rfl⟩:=h;exact⟨Nat.le_refl _,Nat.le_refl _⟩
 | cons sp ss ih =>
  obtain⟨e1,A1,h1,hc⟩:=h
  have g:=hs sp (List.mem_cons_self ..) _ _ _ h1
  have g1:=g.1
  have g2:=g.2
  simp only[List.length_cons]
  rcases hc with⟨_,_,rfl⟩|⟨_,h2⟩
  ·omega
  ·have:=ih (fun s h=>hs s (List.mem_cons_of_mem _ h)) A1 h2
   omega
def pq{ss:List D3}(hs:∀sp∈ss,∀A e B,sp A e B→kU A B){e:Nat}(h:Fk ss s e t):iO ss.length s t:=by
 obtain⟨B,h,rfl⟩:=h
 exact N8 ss hs _ _ _ h
def iO.mono{m n:Nat}(h:iO m s t)(hmn:m≤n):iO n s t:=⟨by have:=h.1;omega,by have:=h.2;omega⟩
theorem iO.refl(n:Nat)(s:fW):iO n s s:=⟨aj,aj⟩
theorem sG{q:Int}(h:eh q x s e t):iO 2 s t:=by
 unfold eh at h
 split at h
 ·grind [iO.refl]
 split at h
 ·grind [iO.refl]
 split at h
 ·grind [iO.refl]
 split at h
 ·grind [iO.refl]
 split at h
 ·rw[h.2];exact iO.refl 2 s
 ·obtain⟨e1,s1,hc,hd⟩:=h
  have g:=pq (ss:=[iG (fS x),eb]) (fun sp hX A e B hh=>by
   simp only[List.mem_cons,List.not_mem_nil,or_false]at hX
   rcases hX with rfl|rfl
   ·exact uk hh
   ·exact iZ hh) hc
  rcases hd with⟨_,_,rfl⟩|⟨_,_,rfl⟩ <;> exact g
theorem tF{i:Int}{b:List UInt8}(h:nE x i b s e t):iO 1 s t:=by
 unfold nE at h
 split at h
 ·grind [iO.refl]
 split at h
 ·grind [iO.refl]
 split at h
 ·grind [iO.refl]
 ·exact pq (fun sp hX A e B hh=>by
   simp only[List.mem_cons,List.not_mem_nil,or_false]at hX
   subst hX
   exact wu hh) h
theorem zl(h:iS x s e t):iO 1 s t:=by
 unfold iS at h
 split at h
 ·grind [iO.refl]
 ·obtain⟨s1,hc,rfl⟩:=h
  have g:=pq (fun sp hX A e B hh=>by
   simp only[List.mem_cons,List.not_mem_nil,or_false]at hX
   subst hX
   exact oy hh) hc
  split <;> exact g
theorem uz(h:dS x s e t):iO 3 s t:=by
 unfold dS at h
 split at h
 ·grind [iO.refl]
 split at h
 ·obtain⟨e1,h1,_⟩:=h
  exact(zl h1).mono aj
 ·obtain⟨s1,hc,rfl⟩:=h
  have g:=pq (ss:=GW (fS x) (fB x)) (fun sp hX A e B hh=>by
   simp only[GW,List.mem_cons,List.not_mem_nil,or_false]at hX
   rcases hX with rfl|rfl|rfl
   ·exact n5 hh
   ·exact uj hh
   ·exact iZ hh) hc
  split <;> exact g
def Lg(h:HA A)(m:Nat)(hm:∀n c,vw A n=some c→c.length≤m):A.used≤A.names.length*m:=by
 unfold Ab.used
 refine xx A.names _ m fun x hx=>?_
 refine hm x.1 _ ?_
 unfold vw
 rw[fZ h.keys hx]
 rfl
def TH(b:Nat)(x:UInt8):eU (ak b (cl (bV [x]) 5)) (.slice (some ⟨b,0,none⟩) 1 1) [x]:=⟨Vw.ak rfl,_,_,rfl,Nat.le_refl _⟩
end Go.Proofs.YtlionahpheehaaaGreatDoor
namespace Go.Proofs.YtlionahpheehaaaGreatDoor
open Go Go.SL
variable{A B:Ab}{k nm:ByteArray}{d:Dg}{K':List ByteArray}{e f:Nat}
abbrev Vm:=ByteArray→Option (List UInt8)
structure rh(K:List ByteArray)(v:Vm):Prop where
 nd:K.Nodup
 mem:∀n,n∈K↔(v n).isSome=true
def vq(w:ByteArray→List UInt8→Nat)(K:List ByteArray)(v:Vm):Nat:=(K.map fun k=>w k ((v k).getD [])).sum
def gl(v:Vm)(k:ByteArray)(o:Option (List UInt8)):Vm:=fun n=>if n=k then o else v n
theorem eN(v:Vm)(k:ByteArray)(o:Option (List UInt8)):gl v k o k=o:=if_pos rfl
theorem eM(v:Vm){n:ByteArray}(o:Option (List UInt8))(h:n≠k):gl v k o n=v n:=if_neg h
theorem Gg(v:Vm)(k:ByteArray)(o p:Option (List UInt8)):gl (gl v k o) k p=gl v k p:=by
 grind [gl]
theorem MN(v:Vm)(k:ByteArray):gl v k (v k)=v:=by
 grind [gl]
def Ts{v:Vm}{o:Option (List UInt8)}(h:v k=o):gl v k o=v:=by rw[← h];exact MN v k
def rh.perm{K:List ByteArray}{v:Vm}(h:rh K v)(h':rh K' v):K.Perm K':=(List.perm_ext_iff_of_nodup h.nd h'.nd).2 fun n=>(h.mem n).trans (h'.mem n).symm
def F4{K:List ByteArray}{v:Vm}(w:ByteArray→List UInt8→Nat)(h:rh K v)(h':rh K' v):vq w K v=vq w K' v:=((h.perm h').map _).sum_nat
theorem rh.add{K:List ByteArray}{v:Vm}(h:rh K v)(hk:v k=none)(c:List UInt8):rh (k::K) (gl v k (some c)):=by
 refine⟨List.nodup_cons.2 ⟨fun hm=>?_,h.nd⟩,fun n=>?_⟩
 ·have:=(h.mem k).1 hm
  grind
 ·rw[List.mem_cons]
  by_cases hn:n=k
  ·simp[hn,eN]
  ·rw[eM _ _ hn,← h.mem n]
   simp[hn]
def rh.del{K:List ByteArray}{v:Vm}(h:rh K v)(k:ByteArray):rh (K.filter fun n => !decide (n=k)) (gl v k none):=by
 refine⟨List.filter_sublist.nodup h.nd,fun n=>?_⟩
 rw[List.mem_filter]
 by_cases hn:n=k
 ·simp[hn,eN]
 ·rw[eM _ _ hn,← h.mem n]
  simp[hn]
theorem zw{K:List ByteArray}{v:Vm}{c:List UInt8}(w:ByteArray→List UInt8→Nat)(h:rh K v)(h':rh K' (gl v k (some c)))(hk:v k=none):vq w K' (gl v k (some c))=w k c+vq w K v:=by
 rw[F4 w h' (h.add hk c)]
 unfold vq
 rw[List.map_cons,List.sum_cons,eN]
 congr 1
 have hnk:∀n∈K,n≠k:=fun n hn e=>by
  have:=(h.mem n).1 hn
  grind
 exact congrArg List.sum (List.map_congr_left fun x hx=>by rw[eM _ _ (hnk x hx)])
theorem Ti{K:List ByteArray}{v:Vm}{c:List UInt8}(w:ByteArray→List UInt8→Nat)(h:rh K v)(h':rh K' (gl v k none))(hk:v k=some c):vq w K v=w k c+vq w K' (gl v k none):=by
 have h2:gl (gl v k none) k (some c)=v:=by rw[Gg];exact Ts hk
 grind [zw,K,eN]
theorem Th{K:List ByteArray}{v:Vm}{c c':List UInt8}(w:ByteArray→List UInt8→Nat)(h:rh K v)(h':rh K' (gl v k (some c')))(hk:v k=some c):vq w K' (gl v k (some c'))+w k c=vq w K v+w k c':=by
 have hd:=h.del k
 have h1:=Ti w h hd hk
 have h2:gl (gl v k none) k (some c')=gl v k (some c'):=Gg ..
 grind [zw,eN]
theorem Ps{K:List ByteArray}{v:Vm}(w1 w2:ByteArray→List UInt8→Nat)(h:∀n∈K,w1 n ((v n).getD [])≤w2 n ((v n).getD [])):vq w1 K v≤vq w2 K v:=by
 unfold vq
 revert h
 induction K with
 | nil=>intro _;exact Nat.le_refl _
 | cons x l ih =>
  grind
theorem Pr{K:List ByteArray}{v:Vm}(w1 w2:ByteArray→List UInt8→Nat):vq (fun n c=>w1 n c+w2 n c) K v=vq w1 K v+vq w2 K v:=by
 unfold vq
 induction K with
 | nil=>rfl
 | cons x l ih =>
  grind
theorem Ek(K:List ByteArray)(v:Vm)(m:Nat):vq (fun _ _=>m) K v=K.length*m:=by
 unfold vq
 induction K with
 | nil=>simp
 | cons x l ih =>
  grind
def mem_keys(h:HA A)(n:ByteArray):n∈fb A↔(vw A n).isSome=true:=by
 unfold fb vw
 constructor
 ·intro hn
  obtain⟨x,hx,rfl⟩:=List.mem_map.1 hn
  rw[fZ h.keys hx]
  rfl
 ·intro hn
  cases hl:A.look n with
  | none=>rw[hl]at hn;cases hn
  | some f=>exact List.mem_map.2 ⟨_,gS hl,rfl⟩
def HA.Jk(h:HA A):rh (fb A) (vw A):=⟨h.keys,mem_keys h⟩
def JY(_:ByteArray)(c:List UInt8):Nat:=c.length
def G7(k:ByteArray)(c:List UInt8):Nat:=if(kf kB k).isSome then c.length else 0
def Qv(h:HA A){x:ByteArray × Nat}(hx:x∈A.names):A.now x.2=(vw A x.1).getD []:=by
 unfold vw
 rw[fZ h.keys hx]
 rfl
theorem oI(h:HA A):A.used=vq JY (fb A) (vw A):=by
 unfold Ab.used vq fb JY
 rw[List.map_map]
 exact congrArg List.sum (List.map_congr_left fun x hx=>by simp only[Function.comp];rw[Qv h hx])
def MD(h:HA A):vy A=vq G7 (fb A) (vw A):=by
 unfold vy vq fb G7
 rw[List.map_map]
 exact congrArg List.sum (List.map_congr_left fun x hx=>by simp only[Function.comp];rw[Qv h hx])
def oY(A:Ab):(fb A).length=A.names.length:=by unfold fb;rw[List.length_map]
theorem TT(A:Ab):A.names.length=vq (fun _ _=>1) (fb A) (vw A):=by rw[Ek,oY];omega
def fI(d:Dg):ByteArray:=cX kI d
def fN(d:Dg):ByteArray:=cX kN d
def pS(d:Dg):ByteArray:=cX kB d
def iL(d:Dg):ByteArray:=cX kS d
def G'{j k:List UInt8}(hl:j.length=k.length)(FT:j≠k)(a b:Dg):cX j a≠cX k b:=fun h=>FT (Bt hl h)
def HA.Me(h:HA A)(hv:vw A nm=none)(hl:A.names.length<200)(hf:f ∉ A.fs.map (·.1))(hB:(e,B)=A.create true nm f) :
  e=0∧HA B∧vw B=gl (vw A) nm (some [])∧B.room=A.room :=
 let ⟨h1,h2,h3,_,h5⟩:=h.create hv hl hf hB;⟨h1,h2,funext h3,h5⟩
def HA.Ed(h:HA A){c:List UInt8}(hv:vw A nm=some c)(at_:Nat)(b:List UInt8)(hr:A.used+(at_+b.length)≤A.room)(hB:(e,B)=A.write true nm at_ b) :
  e=0∧HA B∧vw B=gl (vw A) nm (some (bY c at_ b))∧B.room=A.room :=
 let ⟨h1,h2,h3,_,h5⟩:=h.write hv at_ b hr hB;⟨h1,h2,funext h3,h5⟩
def HA.Ll(h:HA A){c:List UInt8}(hv:vw A nm=some c)(hB:(e,B)=A.sync true nm) :
  e=0∧HA B∧vw B=vw A∧B.room=A.room :=
 let ⟨h1,h2,h3,_,h5⟩:=h.sync hv hB;⟨h1,h2,funext h3,h5⟩
def HA.Ah(h:HA A)(hB:(e,B)=A.cG):e=0∧HA B∧vw B=vw A∧B.room=A.room :=
 let ⟨h1,h2,h3,_,h5⟩:=h.cG hB;⟨h1,h2,funext h3,h5⟩
def HA.Lo(h:HA A){o n:ByteArray}{c:List UInt8}(dw:o≠n)(hv:vw A o=some c)(IY:vw A n=none)(hB:(e,B)=A.rename true o n) :
  e=0∧HA B∧vw B=gl (gl (vw A) o none) n (some c)∧B.room=A.room :=
 let ⟨h1,h2,h3,h4,_⟩:=h.rename dw hv IY hB;⟨h1,h2,funext h3,h4⟩
theorem HA.ru(h:HA A)(h':HA B){c:List UInt8}(hk:vw A k=none)(hv:vw B=gl (vw A) k (some c)):B.used=A.used+c.length∧B.names.length=A.names.length+1:=by
 have hs:=h'.Jk
 rw[hv]at hs
 have h1:=zw JY h.Jk hs hk
 have h2:=zw (fun _ _=>1) h.Jk hs hk
 grind [oI,TT,JY]
def HA.G6(h:HA A)(h':HA B)(hv:∀n,(vw B n).isSome=(vw A n).isSome):B.names.length=A.names.length:=by
 rw[← oY,← oY]
 exact((List.perm_ext_iff_of_nodup h'.keys h.keys).2 fun n=>(mem_keys h' n).trans ((by rw[hv n]):_↔_) |>.trans (mem_keys h n).symm).length_eq
theorem RZ{l:List (Dg × Bl)}{y:Bl}(h:iN l d=some y):(d,y)∈l:=by
 unfold iN at h
 cases hx:l.find? (fun x=>decide (x.1=d))with
 | none=>rw[hx]at h;cases h
 | some x =>
  grind
theorem Ol(l:List (Dg × Bl))(d d':Dg):iN (nO l d) d'=if d'=d then none else iN l d':=by
 grind [iN,nO]
theorem H4(l:List (Dg × Bl))(x:Bl)(d:Dg)(h:iN l x.d=none):iN (l++[(x.d,x)]) d=if d=x.d then some x else iN l d:=by
 grind [iN]
theorem UZ{l:List (Dg × Bl)}(h:iN l d=none):d ∉ l.map (·.1):=fun hm=>by
 obtain⟨x,hx,rfl⟩:=List.mem_map.1 hm
 unfold iN at h
 cases hf:l.find? (fun z=>decide (z.1=x.1))with
 | none=>have:=List.find?_eq_none.1 hf x hx;simp at this
 | some z=>rw[hf]at h;cases h
def RQ{l:List (Dg × Bl)}{x:Dg × Bl}(h:x∈nO l d):x∈l:=(List.mem_filter.1 h).1
def dF:ByteArray:=strOf [112,105,101,99,101,115]
def lY(k:List UInt8)(d:Dg):cX k d≠dF:=fun h=>by
 have h1:=congrArg (fun s:ByteArray=>s.data.toList.length) h
 simp only[cX,dF,strOf,List.length_append,jX]at h1
 simp at h1
def wE(k:ByteArray):Nat:=if k=dF then 100000 else 0
theorem Wf:∀(K:List ByteArray),K.Nodup→(K.map wE).sum≤100000:=by
 intro K
 induction K with
 | nil=>intro _;exact Nat.zero_le _
 | cons k K ih =>
  intro hK
  rw[List.nodup_cons]at hK
  rw[List.map_cons,List.sum_cons]
  by_cases hk:k=dF
  ·have h0:K.map wE=K.map fun _=>0:=List.map_congr_left fun x hx=>by
    grind [wE]
   have h1:(K.map fun _:ByteArray=>0).sum=0:=by
    clear ih hK h0
    induction K with
    | nil=>rfl
    | cons y K ih=>simpa using ih
   grind [wE]
  grind [wE]
theorem E9{a b:Dg}(h:iL a=iL b):a=b:=DR h
theorem L9{a b:Dg}(h:pS a=pS b):a=b:=DR h
theorem jU(a b:Dg):iL a≠pS b:=G' (by rfl) (by decide) a b
def Oc(a b:Dg):iL a≠fI b:=G' (by rfl) (by decide) a b
def Ob(a b:Dg):iL a≠fN b:=G' (by rfl) (by decide) a b
def Oe(a b:Dg):pS a≠fI b:=G' (by rfl) (by decide) a b
def Od(a b:Dg):pS a≠fN b:=G' (by rfl) (by decide) a b
theorem uL{kind:List UInt8}{right:Ab→Dg→Bool}(l:List ByteArray)(h:∀nm∈l,∀d,kf kind nm=some d→right A d=true)(hs:mB kind right l A e B):e=0∧B=A:=by
 induction l with
 | nil=>exact hs
 | cons nm l ih =>
  grind [mB,kf]
def AP(h:HA A)(n:ByteArray):n∈gA A↔(vw A n).isSome=true:=by
 rw[(yN A).mem_iff]
 exact mem_keys h n
theorem Jb{x:Bl}{b:List UInt8}(h:eo x b=true):x.size=b.length∧fz b=x.d:=by
 grind [eo,jF,er]
theorem lF{fs:List (Nat × List UInt8 × List UInt8)}(u:Nat × List UInt8 × List UInt8→Nat × List UInt8 × List UInt8)(hu:∀x,(u x).1=x.1)(f:Nat) :
  (fs.map u).find? (fun x=>decide (x.1=f))=(fs.find? (fun x=>decide (x.1=f))).map u:=by
 induction fs with
 | nil=>rfl
 | cons x l ih =>
  grind
def Bp{fs:List (Nat × List UInt8 × List UInt8)}(h:f∈fs.map (·.1)):∃x,fs.find? (fun x=>decide (x.1=f))=some x∧x.1=f:=by
 obtain⟨y,hy,hyf⟩:=List.mem_map.1 h
 cases hx:fs.find? (fun x=>decide (x.1=f))with
 | none=>exact absurd hyf (by simpa using List.find?_eq_none.1 hx y hy)
 | some x=>exact⟨x,rfl,by simpa using List.find?_some hx⟩
theorem HK(A:Ab)(u:Nat × List UInt8 × List UInt8→Nat × List UInt8 × List UInt8)(hu:∀x,(u x).1=x.1)(h:f∈A.fs.map (·.1)):({ A with fs:=A.fs.map u }:Ab).file f=(u (f,A.file f)).2:=by
 obtain⟨x,hx,hxf⟩:=Bp h
 simp only[Ab.file]
 rw[lF u hu,hx]
 grind
theorem zH(fs:List (Nat × List UInt8 × List UInt8))(u:Nat × List UInt8 × List UInt8→Nat × List UInt8 × List UInt8)(hu:∀x,(u x).1=x.1):(fs.map u).map (·.1)=fs.map (·.1):=by
 simp_all
theorem Ei(fs:List (Nat × List UInt8 × List UInt8))(k f:Nat)(s:List UInt8)(h:k≠f):(Ab.vB fs k s).find? (fun x=>decide (x.1=f))=fs.find? (fun x=>decide (x.1=f)):=by
 unfold Ab.vB
 rw[lF _ (fun x=>by split <;> rfl)]
 cases hx:fs.find? (fun x=>decide (x.1=f))with
 | none=>rfl
 | some x =>
  grind
def uX(stay:List UInt8)(dY cut:Int)(f:Nat):∀(ws:List (Nat × Nat × List UInt8)) (i:Nat) (fs:List (Nat × List UInt8 × List UInt8)),(∀w∈ws,w.1≠f) →
  (Ab.j6 stay dY cut i ws fs).find? (fun x=>decide (x.1=f))=fs.find? (fun x=>decide (x.1=f))
 | [],i,fs,_=>rfl
 | w::ws,i,fs,h=>by
  unfold Ab.j6
  split
  ·exact uX stay dY cut f ws (i+1) fs (fun v hv=>h v (List.mem_cons_of_mem _ hv))
  ·rw[uX stay dY cut f ws (i+1) _ (fun v hv=>h v (List.mem_cons_of_mem _ hv)),Ei _ _ _ _ (h w (List.mem_cons_self ..))]
theorem vZ(stay:List UInt8)(dY cut:Int):∀(ws:List (Nat × Nat × List UInt8)) (i:Nat) (fs:List (Nat × List UInt8 × List UInt8)),(Ab.j6 stay dY cut i ws fs).map (·.1)=fs.map (·.1)
 | [],i,fs=>rfl
 | w::ws,i,fs=>by
  unfold Ab.j6
  split
  ·exact vZ stay dY cut ws (i+1) fs
  ·rw[vZ stay dY cut ws (i+1) _]
   unfold Ab.vB
   grind [zH]
structure OO(A B:Ab):Prop where
 names:B.names=A.names
 aF:B.aF=A.aF
 fs:B.fs=A.fs
 writes:B.writes=A.writes
 room:B.room=A.room
theorem OO.refl(A:Ab):OO A A:=⟨rfl,rfl,rfl,rfl,rfl⟩
def AQ(A:Ab)(ok:Bool):OO A (A.meet ok).2:=by
 unfold Ab.meet
 split
 ·exact OO.refl A
 split
 ·exact OO.refl A
 split
 ·exact OO.refl A
 split
 ·exact⟨rfl,rfl,rfl,rfl,rfl⟩
 split <;> exact⟨rfl,rfl,rfl,rfl,rfl⟩
theorem wz(A:Ab)(nm:ByteArray)(ok:Bool):OO A (A.find nm ok).2.2∧((A.find nm ok).1=0→∃f,A.look nm=some f∧(A.find nm ok).2.1=some f):=by
 have hm:=AQ A ok
 unfold Ab.find
 split
 ·have hl:(A.meet ok).2.look nm=A.look nm:=by unfold Ab.look;rw[hm.names]
  grind
 grind
theorem TQ{ok:Bool}(h:(A.meet ok).1=0):(A.meet ok).2.off=false∧A.off=false:=by
 unfold Ab.meet at h ⊢
 grind
theorem UD{ok:Bool}(h:(A.find nm ok).1=0):(A.find nm ok).2.2.off=false:=by
 unfold Ab.find at h ⊢
 grind [TQ]
theorem Fh(h:iG nm A e B):(e≠0∧OO A B)∨(e=0∧A.look nm=none∧∃f,f ∉ A.fs.map (·.1)∧B.names=A.names++[(nm,f)]∧B.aF=A.aF++[A.names++[(nm,f)]]∧B.fs=(f,[],[])::A.fs∧B.writes=A.writes):=by
 obtain⟨f,hf,hc⟩:=h
 have hm:=AQ A (isName nm)
 unfold Ab.create at hc
 have hl:(A.meet (isName nm)).2.look nm=A.look nm:=by unfold Ab.look;rw[hm.names]
 split at hc
 ·split at hc
  ·grind
  split at hc
  ·grind
  ·rename_i h1 h2 h3
   injection hc with h4 h5
   subst h4 h5
   refine .inr ⟨rfl,?_,f,hf,by simp[Ab.oF,hm.names],by simp[Ab.oF,hm.names,hm.aF],by simp[hm.fs],hm.writes⟩
   simp_all
 grind
theorem Ez(h:jz nm A e B):(e≠0∧OO A B)∨(e=0∧(∃f,A.look nm=some f)∧B.names=Ab.dW A.names nm∧B.aF=A.aF++[Ab.dW A.names nm]∧B.fs=A.fs∧B.writes=A.writes∧B.off=false):=by
 have hf:=wz A nm (isName nm)
 have hon := @UD A nm (isName nm)
 unfold jz Ab.remove at h
 generalize hx:A.find nm (isName nm)=r at h hf hon
 obtain⟨e1,o,A1⟩:=r
 obtain⟨hq,hs⟩:=hf
 simp only at hq hs h hon
 by_cases h0:e1=0
 ·subst h0
  obtain⟨f,h1,rfl⟩:=hs rfl
  simp only at h
  injection h with h2 h3
  subst h2 h3
  exact .inr ⟨rfl,⟨f,h1⟩,by simp[Ab.oF,hq.names],by simp[Ab.oF,hq.names,hq.aF],hq.fs,hq.writes,hon rfl⟩
 grind
theorem Ey{o:ByteArray}(h:lP o nm A e B):(e≠0∧OO A B)∨(e=0∧∃f,A.look o=some f∧B.names=Ab.lh (Ab.dW A.names o) nm f∧B.aF=A.aF++[Ab.lh (Ab.dW A.names o) nm f]∧B.fs=A.fs∧B.writes=A.writes):=by
 have hf:=wz A o ([o,nm].all isName)
 unfold lP Ab.rename at h
 generalize hx:A.find o ([o,nm].all isName)=r at h hf
 obtain⟨e1,oo,A1⟩:=r
 obtain⟨hq,hs⟩:=hf
 simp only at hq hs h
 by_cases h0:e1=0
 ·subst h0
  obtain⟨f,h1,rfl⟩:=hs rfl
  simp only at h
  injection h with h2 h3
  subst h2 h3
  exact .inr ⟨rfl,f,h1,by simp[Ab.oF,hq.names],by simp[Ab.oF,hq.names,hq.aF],hq.fs,hq.writes⟩
 grind
theorem yx{at_:Nat}{b:List UInt8}(h:gq nm at_ b A e B):(e≠0∧OO A B)∨(e=0∧∃f,A.look nm=some f∧B.names=A.names∧B.aF=A.aF∧B.fs=Ab.Ej A.fs f (bY (A.now f) at_ b)∧B.writes=A.writes++[(f,at_,b)]):=by
 have hf:=wz A nm (gG nm at_ b)
 unfold gq Ab.write at h
 generalize hx:A.find nm (gG nm at_ b)=r at h hf
 obtain⟨e1,oo,A1⟩:=r
 obtain⟨hq,hs⟩:=hf
 simp only at hq hs h
 by_cases h0:e1=0
 ·subst h0
  obtain⟨f,h1,rfl⟩:=hs rfl
  rw[if_pos rfl]at h
  simp only at h
  split at h
  ·grind
  ·injection h with h2 h3
   subst h2 h3
   have hn:A1.now f=A.now f:=by unfold Ab.now Ab.file;rw[hq.fs]
   exact .inr ⟨rfl,f,h1,hq.names,hq.aF,by simp only;rw[hq.fs,hn],by simp only;rw[hq.writes]⟩
 grind
theorem Ag(h:gj nm A e B):(e≠0∧OO A B)∨(e=0∧∃f,A.look nm=some f∧B.names=A.names∧B.aF=A.aF∧B.fs=Ab.oJ A.fs f∧B.writes=A.writes.filter fun x => !decide (x.1=f)):=by
 have hf:=wz A nm (isName nm)
 unfold gj Ab.sync at h
 generalize hx:A.find nm (isName nm)=r at h hf
 obtain⟨e1,oo,A1⟩:=r
 obtain⟨hq,hs⟩:=hf
 simp only at hq hs h
 by_cases h0:e1=0
 ·subst h0
  obtain⟨f,h1,rfl⟩:=hs rfl
  rw[if_pos rfl]at h
  simp only at h
  injection h with h2 h3
  subst h2 h3
  exact .inr ⟨rfl,f,h1,hq.names,hq.aF,by simp only;rw[hq.fs],by simp only;rw[hq.writes]⟩
 grind
theorem zn(h:eb A e B):(e≠0∧OO A B)∨(e=0∧B.names=A.names∧B.aF=[A.names]∧B.fs=A.fs∧B.writes=A.writes):=by
 have hm:=AQ A true
 unfold eb Ab.cG at h
 split at h
 ·injection h with h1 h2
  subst h1 h2
  exact .inr ⟨rfl,hm.names,by simp[hm.names],hm.fs,hm.writes⟩
 grind
abbrev Nms:=List (ByteArray × Nat)
theorem JW(l:Nms)(k nm:ByteArray)(f:Nat):Ab.cW (l++[(k,f)]) nm=(Ab.cW l nm).or (if nm=k then some f else none):=by
 unfold Ab.cW
 grind
def wD(h:B.fs=A.fs)(f:Nat):B.file f=A.file f:=by unfold Ab.file;rw[h]
theorem RM(h:B.fs=(f,[],[])::A.fs)(g:Nat):B.file g=if f=g then([],[])else A.file g:=by
 unfold Ab.file
 grind
theorem Br{c:List UInt8}(h:B.fs=Ab.Ej A.fs f c){g:Nat}(hg:g∈A.fs.map (·.1)):B.file g=if g=f then(c,(A.file g).2)else A.file g:=by
 have h1:B.file g=({ A with fs:=A.fs.map fun x=>if x.1=f then(x.1,c,x.2.2)else x }:Ab).file g:=wD h g
 grind [HK]
theorem ye(h:B.fs=Ab.oJ A.fs f){g:Nat}(hg:g∈A.fs.map (·.1)):B.file g=if g=f then((A.file g).1,(A.file g).1)else A.file g:=by
 have h1:B.file g=({ A with fs:=A.fs.map fun x=>if x.1=f then(x.1,x.2.1,x.2.1)else x }:Ab).file g:=wD h g
 grind [HK]
def TZ(h:B.fs=(f,[],[])::A.fs):B.fs.map (·.1)=f::A.fs.map (·.1):=by rw[h];rfl
def LM{c:List UInt8}(h:B.fs=Ab.Ej A.fs f c):B.fs.map (·.1)=A.fs.map (·.1):=by rw[h];exact zH _ _ (fun x=>by split <;> rfl)
def Hb(h:B.fs=Ab.oJ A.fs f):B.fs.map (·.1)=A.fs.map (·.1):=by rw[h];exact zH _ _ (fun x=>by split <;> rfl)
def Cl(A:Ab)(f:Nat):Prop:=(A.file f).2=(A.file f).1∧∀w∈A.writes,w.1≠f
theorem Kx(last:Int)(stay:List UInt8)(dY cut:Int)(hf:f∈A.fs.map (·.1))(hr:f∈Ab.reach (A.aF++[(A.dx last stay dY cut).names])):(A.dx last stay dY cut).file f=(((A.dx last stay dY cut).file f).1,((A.dx last stay dY cut).file f).1)∧(Cl A f→(A.dx last stay dY cut).file f=A.file f):=by
 have Hn:=vZ stay dY cut A.writes 0 A.fs
 have fk:f∈(Ab.j6 stay dY cut 0 A.writes A.fs).map (·.1):=by rw[Hn];exact hf
 obtain⟨x,hx,hxf⟩:=Bp fk
 have ph:(A.dx last stay dY cut).file f=(x.2.2,x.2.2):=by
  have LV:=hr
  simp only[Ab.dx]at LV ⊢
  unfold Ab.file
  simp only
  rw[lF _ (fun x=>by split <;> rfl),hx]
  simp_all
 refine⟨by rw[ph],fun hc=>?_⟩
 have hl:=uX stay dY cut f A.writes 0 A.fs hc.2
 have hA:A.file f=x.2:=by
  unfold Ab.file
  grind
 have h2:=hc.1
 grind
end Go.Proofs.YtlionahpheehaaaGreatDoor
namespace Go.SL
open Go
abbrev ku:=BitVec 64
def Pq(x:ku):Value := .int .u64 (x.toNat:Int)
def qV(l:List ku):List Value:=l.map Pq
def ZQ(l:List ku):(qV l).length=l.length:=by simp[qV]
def JF{l:List ku}{i:Nat}{x:ku}(h:l[i]?=some x):(qV l)[i]?=some (Pq x):=by simp[qV,h]
def P2(l:List ku)(i:Nat)(x:ku):(qV l).set i (Pq x)=qV (l.set i x):=by simp[qV]
theorem Ee(n:Nat):IntKind.u64.wrap (n:Int)=((n%18446744073709551616:Nat):Int):=by
 simp[IntKind.wrap,IntKind.bits,IntKind.signed]
theorem oS(p:ku):BitVec.ofInt IntKind.u64.bits ((p.toNat:Nat):Int)=p:=by
 apply BitVec.eq_of_toNat_eq
 have h:IntKind.u64.bits=64:=rfl
 grind
section
variable{P:Program}{U:Tr}[hU:gF P U]{f:FuncId}{n:Nat}{R:Ending→World→Prop}{G:cL}{k:List Item}{L:gh}{H H':List HP}{S:World→Prop}{all:Array Oper}{rest:Pl}{ty:TypeId}{pos:String}{af:Array Edge}{gd:Option (Nat × Bool)}{m:Bool}{d:Tmp}
theorem yr{t yt:TypeId}{x y:Operand}{p q:ku}(hd:Nat.blt d n=true)(hx:ev L x=some (.int .u64 (p.toNat:Int)))(hy:ev L y=some (.int .u64 (q.toNat:Int)))(h:J P f n R G S all rest k ((d,.int .u64 ((p+q).toNat:Int))::L) H):J P f n R G S all (.cons m true ⟨some d,.binOp .add t x y yt,ty,pos,af,gd⟩ rest) k L H:=by
 refine SC hd hx hy ?_
 have e:IntKind.u64.wrap ((p.toNat:Int)+(q.toNat:Int))=((p+q).toNat:Int):=by
  grind [Ee]
 rw[e];exact h
theorem nP(p:ku):IntKind.u64.wrap (p.toNat:Int)=(p.toNat:Int):=by
 rw[Ee];have:=p.isLt;congr 1;omega
def sB{t yt:TypeId}{x y:Operand}{p:ku}{j':IntKind}{q:Int}(s:Nat)(hd:Nat.blt d n=true)(hx:ev L x=some (.int .u64 (p.toNat:Int)))(hy:ev L y=some (.int j' q))(hq:q=(s:Int))(hs:s≤64)(h:J P f n R G S all rest k ((d,.int .u64 ((p >>> s).toNat:Int))::L) H):J P f n R G S all (.cons m true ⟨some d,.binOp .shr t x y yt,ty,pos,af,gd⟩ rest) k L H:=by
 subst hq
 refine iQ hd hx hy aj ?_
 have e:(p.toNat:Int)/2 ^ (min ((s:Int).toNat) IntKind.u64.bits)=((p >>> s).toNat:Int):=by
  rw[BitVec.toNat_ushiftRight,Nat.shiftRight_eq_div_pow,Int.toNat_natCast,show min s IntKind.u64.bits=s from by show min s 64=s;omega]
  simp
 rw[e];exact h
def aa7{t yt:TypeId}{x y:Operand}{p:ku}{j':IntKind}{q:Int}(s:Nat)(hd:Nat.blt d n=true)(hx:ev L x=some (.int .u64 (p.toNat:Int)))(hy:ev L y=some (.int j' q))(hq:q=(s:Int))(hs:s≤64)(h:J P f n R G S all rest k ((d,.int .u64 ((p <<< s).toNat:Int))::L) H):J P f n R G S all (.cons m true ⟨some d,.binOp .shl t x y yt,ty,pos,af,gd⟩ rest) k L H:=by
 subst hq
 refine oD hd hx hy aj ?_
 have e:IntKind.u64.wrap ((p.toNat:Int)*2 ^ (min ((s:Int).toNat) IntKind.u64.bits))=((p <<< s).toNat:Int):=by
  rw[BitVec.toNat_shiftLeft,Nat.shiftLeft_eq,Int.toNat_natCast,show min s IntKind.u64.bits=s from by show min s 64=s;omega]
  rw[show(p.toNat:Int)*2 ^ s=((p.toNat*2 ^ s:Nat):Int)from by simp,Ee]
 rw[e];exact h
end
end Go.SL
namespace Go.Proofs.YtlionahpheehaaaGreatDoor
open Go Go.SL
variable{bs:List UInt8}{i k n:Nat}
def gY(n i:Nat):Option Nat:=if i%2=1 then some (i-1)else if i+1<n then some (i+1)else none
def oz:Nat→Nat→Nat→Nat
 | 0,_,_=>0
 | f+1,n,i=>if n≤1 then 0 else(if(gY n i).isSome then 1 else 0)+oz f ((n+1)/2) (i/2)
def fU(n i:Int):Nat:=if 1≤n∧n≤1024∧0≤i∧i<n then oz n.toNat n.toNat i.toNat else 0
def dg:Nat→List Dg→Nat→List Dg
 | 0,_,_=>[]
 | f+1,l,i=>if l.length≤1 then []else((gY l.length i).bind fun s=>l[s]?).toList++dg f (cP l) (i/2)
def oA:Nat→Nat→Nat→Dg→List Dg→Dg
 | 0,_,_,x,_=>x
 | f+1,n,i,x,p=>if n≤1 then x else match gY n i with
  | none=>oA f ((n+1)/2) (i/2) x p
  | some s=>oA f ((n+1)/2) (i/2) (if s<i then kE (p.headD Dg.zero) x else kE x (p.headD Dg.zero)) p.tail
def kP(root:Dg)(n i:Int)(x:Dg)(p:List Dg):Bool:=decide ((1≤n∧n≤1024∧0≤i∧i<n)∧p.length=fU n i∧oA n.toNat n.toNat i.toNat x p=root)
def di(x:Bl)(i:Int)(b:List UInt8)(p:List Dg):Bool:=match dX x i with
 | none=>false
 | some (_,m)=>decide ((b.length:Int)=m) && kP x.root (cT x) i (fG b) p
def Kt(f n i:Nat)(hn:n≤1):oz f n i=0:=by
 cases f with
 | zero=>rfl
 | succ f=>unfold oz;rw[if_pos hn]
def Kz(f n i:Nat)(x:Dg)(p:List Dg)(hn:n≤1):oA f n i x p=x:=by
 cases f with
 | zero=>rfl
 | succ f=>unfold oA;rw[if_pos hn]
theorem rI:∀(f g:Nat) (l:List Dg) (i:Nat),l.length≤f→l.length≤g→dg f l i=dg g l i
 | 0,0,_,_,_,_=>rfl
 | 0,g+1,l,i,hf,_=>by
  grind [dg]
 | f+1,0,l,i,_,hg=>by
  grind [dg]
 | f+1,g+1,l,i,hf,hg=>by
  unfold dg
  split
  ·rfl
  ·rw[rI f g (cP l) (i/2) (by rw[du];omega) (by rw[du];omega)]
theorem GC(f:Nat)(l:List Dg)(i:Nat)(hf:l.length≤f)(hn:1<l.length):dg f l i=((gY l.length i).bind fun s=>l[s]?).toList++dg f (cP l) (i/2):=by
 rw[rI f (f+1) l i hf aj]
 grind [dg]
def JH(f:Nat)(l:List Dg)(i:Nat)(hn:l.length≤1):dg f l i=[]:=by
 cases f with
 | zero=>rfl
 | succ f=>unfold dg;rw[if_pos hn]
theorem Er{s:Nat}(hi:i<n)(h:gY n i=some s):s<n∧s/2=i/2∧s≠i:=by
 grind [gY]
theorem qg:∀(f:Nat) (l:List Dg) (i:Nat),i<l.length→(dg f l i).length=oz f l.length i
 | 0,_,_,_=>rfl
 | f+1,l,i,hi=>by
  unfold dg oz
  split
  ·rfl
  ·have ih:=qg f (cP l) (i/2) (by rw[du];omega)
   grind [du,gY,Er]
theorem tA:∀(k f n i:Nat),n≤2 ^ k→oz f n i≤k
 | 0,f,n,i,h=>by rw[Kt f n i (by simpa using h)];exact Nat.le_refl _
 | k+1,0,n,i,h=>Nat.zero_le _
 | k+1,f+1,n,i,h=>by
  unfold oz
  split
  ·grind
  ·have:=tA k f ((n+1)/2) (i/2) aj
   grind
theorem tz(n i:Int):fU n i≤10:=by
 unfold fU
 split
 ·exact tA 10 _ _ _ aj
 grind
theorem y9:∀(f:Nat) (l:List Dg) (i:Nat) (x:Dg),l.length≤f→l[i]?=some x→oA f l.length i x (dg f l i)=((Vj f l).head?).getD Dg.zero
 | 0,l,i,x,hf,hx=>by
  grind
 | f+1,l,i,x,hf,hx=>by
  have hi:=(List.getElem?_eq_some_iff.1 hx).1
  by_cases hn:l.length≤1
  ·rw[Kz _ _ _ _ _ hn]
   unfold Vj
   match l,hi,hx with
   | [y],hi,hx =>
    grind
  ·unfold oA dg Vj
   have Ck:=du l
   have uh:=qC l (i/2)
   have key:∀y,(cP l)[i/2]?=some y→oA f ((l.length+1)/2) (i/2) y (dg f (cP l) (i/2))=((Vj f (cP l)).head?).getD Dg.zero:=fun y hy=>by
    have:=y9 f (cP l) (i/2) y aj hy
    grind
   cases hs:gY l.length i with
   | none =>
    grind [gY]
   | some s =>
    grind [Er]
theorem Fm{l:List Dg}{x:Dg}(hl:l.length≤1024)(hx:l[i]?=some x):kP (yD l) l.length i x (dg l.length l i)=true:=by
 grind [kP,fU,qg,y9,yD]
theorem KI{κ:Type}[DecidableEq κ](es:List (κ × Value))(k d:κ)(v:Value):fh (pC es k v) d=if d=k then some v else fh es d:=by
 unfold pC
 by_cases hk:k∈es.map (·.1)
 ·rw[if_pos hk]
  unfold fh
  rw[List.find?_map]
  have hf:((fun x:κ × Value=>decide (x.1=d)) ∘ fun x:κ × Value=>if x.1=k then(k,v)else x)=fun x=>decide (x.1=d):=by
   grind
  rw[hf]
  by_cases hd:d=k
  ·subst hd
   rw[if_pos rfl]
   obtain⟨y,hy,hyd⟩:=List.mem_map.1 hk
   cases hx:es.find? (fun x=>decide (x.1=d))with
   | none=>have:=List.find?_eq_none.1 hx y hy;simp[hyd]at this
   | some x =>
    grind
  ·rw[if_neg hd]
   cases hx:es.find? (fun x=>decide (x.1=d))with
   | none=>rfl
   | some x =>
    grind
 grind [fh]
def BK(k:Nat):ku:=(1#64) <<< k
def cy(ws:List ku)(n:Nat)(i:Int):Bool:=decide (0≤i∧i<n) && decide (((ws.getD (i.toNat/64) 0#64) >>> (i.toNat%64)) &&& 1#64=1#64)
def jQ(ws:List ku)(i:Nat)(one:Bool):List ku:=ws.set (i/64) (if one then ws.getD (i/64) 0#64 ||| BK (i%64)else ws.getD (i/64) 0#64 &&& ~~~(BK (i%64)))
theorem iH(ws:List ku)(i:Nat)(one:Bool):(jQ ws i one).length=ws.length:=by simp[jQ]
theorem UY(w:ku)(k:Nat):(w >>> k &&& 1#64=1#64)↔w.getLsbD k=true:=by
 constructor
 ·intro h
  have:=congrArg (fun x:ku=>x.getLsbD 0) h
  simpa using this
 grind
theorem Fs(k i:Nat)(hk:k<64)(hi:i<64):(BK k).getLsbD i=decide (i=k):=by
 grind [BK]
theorem Bk{ws:List ku}(hi:i<n):cy ws n (i:Int)=(ws.getD (i/64) 0#64).getLsbD (i%64):=by
 grind [cy,UY]
theorem RC{ws:List ku}{j:Nat}{one:Bool}(hw:n≤ws.length*64)(hi:i<n)(hj:j<n):cy (jQ ws i one) n (j:Int)=if j=i then one else cy ws n (j:Int):=by
 rw[Bk hj,Bk hj]
 unfold jQ
 have l9:i/64<ws.length:=by omega
 by_cases h:j/64=i/64
 ·rw[h,List.getD_eq_getElem?_getD,List.getElem?_set_self l9,Option.getD_some]
  cases one with
  | true =>
   grind [Fs]
  | false =>
   grind [Fs]
 grind
theorem wk{ws:List ku}{i:Int}(h:i<0∨(n:Int)≤i):cy ws n i=false:=by
 grind [cy]
theorem wm(m n:Nat)(i:Int):cy (List.replicate m 0#64) n i=false:=by
 grind [cy]
def l4(sb n:Nat)(wv:Value)(ws:List ku):List HP:=[ak sb (cl [.int .i64 (n:Int),wv] 225),aK 159 1 wv ws.length (qV ws)]
structure Tk where
 yb:Nat
 sb:Nat
 mb:Nat
 x:Bl
 n:Nat
 ws:List ku
 pf:Int→Option (List Dg)
def Mk(z:Value × List (Int × Value) × gw)(y:Tk):Prop:=∀k,match fh z.2.1 k with
 | none=>y.pf k=none
 | some v=>∃l,y.pf k=some l∧FX z.2.2 32 v l.length (l.flatMap dC)
def qT(y:Tk):List Value:=ck y.x++[ptr y.sb,.map (some y.mb)]
def zx(y:Tk)(z:Value × List (Int × Value) × gw):List HP:=[ak y.yb (cl (qT y) 107),ak y.sb (cl [.int .i64 (y.n:Int),z.1] 225),aK 159 1 z.1 y.ws.length (qV y.ws),aV (Value.int .i64) y.mb z.2.1,bp 29 z.2.2]
def pY(y:Tk):HP:=fun h=>∃z:Value × List (Int × Value) × gw,Mk z y∧Sep (zx y z) h
def iF(y:Tk):∀h,pY y h→∃z:Value × List (Int × Value) × gw,Mk z y∧Sep (zx y z) h:=fun h hs=>hs
def ld{y:Tk}{z:Value × List (Int × Value) × gw}(hR:Mk z y)(H:List HP):aq (zx y z++H) (pY y::H) :=
 aq.fold (B:=zx y z) fun h hp=>⟨h,sub.refl h,z,hR,hp⟩
theorem Mk.put{z:Value × List (Int × Value) × gw}{y:Tk}(h:Mk z y)(k:Int)(v wv:Value)(l:List Dg)(M:gw)(hM:∀a∈z.2.2,a∈M)(hv:FX M 32 v l.length (l.flatMap dC))(y':Tk)(hy:y'.pf=fun j=>if j=k then some l else y.pf j):Mk (wv,pC z.2.1 k v,M) y':=fun j=>by
 rw[hy]
 simp only
 rw[KI]
 by_cases hj:j=k
 ·grind
 ·rw[if_neg hj,if_neg hj]
  have:=h j
  cases hx:fh z.2.1 j with
  | none=>rw[hx]at this;exact this
  | some u =>
   rw[hx]at this
   obtain⟨l',h1,h2⟩:=this
   exact⟨l',h1,h2.mono hM⟩
def bK(ts:List Tk):HP:=Sep (ts.map pY)
def Lk(H:List HP):aq H (bK []::H):=aq.sm H
def Em(a b:List Tk)(y:Tk)(H:List HP):aq (bK (a++y::b)::H) (pY y::bK (a++b)::H):=by
 unfold bK
 rw[List.map_append,List.map_cons,List.map_append]
 refine(aq.cR _ _).trans ((aq.perm (H':=pY y::((a.map pY++b.map pY)++H)) ?_).trans (aq.cons _ (aq.cg _ _)))
 simp_all
def xr(a b:List Tk)(y:Tk)(H:List HP):aq (pY y::bK (a++b)::H) (bK (a++y::b)::H):=by
 unfold bK
 rw[List.map_append,List.map_append,List.map_cons]
 refine(aq.cons _ (aq.cR _ _)).trans ((aq.perm (H':=(a.map pY++pY y::b.map pY)++H) ?_).trans (aq.cg _ _))
 rw[List.append_assoc,List.append_assoc,List.cons_append]
 exact List.perm_middle.symm
def Jg{ts:List Tk}{y:Tk}(h:ts[i]?=some y):ts=ts.take i++y::ts.drop (i+1):=by
 obtain⟨hi,rfl⟩:=List.getElem?_eq_some_iff.1 h
 simp_all
def pX{ts:List Tk}{y:Tk}(h:ts[i]?=some y)(H:List HP):aq (bK ts::H) (pY y::bK (ts.take i++ts.drop (i+1))::H):=by
 have:=Em (ts.take i) (ts.drop (i+1)) y H
 rwa[← Jg h]at this
def Lj{ts:List Tk}{y:Tk}(h:ts[i]?=some y)(y':Tk)(H:List HP):aq (pY y'::bK (ts.take i++ts.drop (i+1))::H) (bK (ts.set i y')::H):=by
 have hi:=(List.getElem?_eq_some_iff.1 h).1
 rw[List.set_eq_take_append_cons_drop,if_pos hi]
 exact xr (ts.take i) (ts.drop (i+1)) y' H
def sM{ts:List Tk}{y:Tk}(h:ts[i]?=some y)(H:List HP):aq (pY y::bK (ts.take i++ts.drop (i+1))::H) (bK ts::H):=by
 have:=xr (ts.take i) (ts.drop (i+1)) y H
 rwa[← Jg h]at this
def dm(y:Tk):Value:=ptr y.yb
def lN(tb bs jb:Nat)(v:Value)(ts:List Tk)(br:Bool):List HP:=[ak tb (cl [ptr bs,ptr jb,v,.bool br] 101),aK 103 1 v ts.length (ts.map dm),bK ts]
def vF{ts:List Tk}{y:Tk}(h:ts[i]?=some y):(ts.map dm)[i]?=some (ptr y.yb):=by rw[List.getElem?_map,h];rfl
attribute [local irreducible] J K aH Ends ak aK aV bX bj aS bp bD
def qk(n:Nat)(h:n<9223372036854775808):aH Tryz.prog 233 [.int .i64 (n:Int)] [] (fun v H=>∃b,v = .slice (some ⟨b,0,none⟩) 4 4∧H=[ak b (cl (bV (vX n)) 5)]):=by
 refine aH.aC Tryz.func233 Tryz.ntmps233 fun G F R hE=>?_
 (repeat(first|refine g9 ?_|refine lB zr zr zr zr zr zr ?_|refine iQ zr zr zr aj ?_))
 refine au 4 (u8 (UInt8.ofNat n)) rfl (lG n) ?_
 refine au 7 (u8 (UInt8.ofNat (n/256))) rfl (by rw[show(n:Int)/2 ^ (min (Int.toNat 8) IntKind.i64.bits)=((n/256:Nat):Int)from by show(n:Int)/256=_;omega];exact lG _) ?_
 refine au 10 (u8 (UInt8.ofNat (n/65536))) rfl (by rw[show(n:Int)/2 ^ (min (Int.toNat 16) IntKind.i64.bits)=((n/65536:Nat):Int)from by show(n:Int)/65536=_;omega];exact lG _) ?_
 refine au 13 (u8 (UInt8.ofNat (n/16777216))) rfl (by rw[show(n:Int)/2 ^ (min (Int.toNat 24) IntKind.i64.bits)=((n/16777216:Nat):Int)from by show(n:Int)/16777216=_;omega];exact lG _) ?_
 refine az (cs:=bV (vX n)) zr zr zr zr zr zr zr zr zr bO ?_
 intro b
 refine go ?_
 refine ah hE Tryz.func233 zr zr ⟨b,rfl,rfl⟩
def vC(A:HP)(v:Value)(bs:List UInt8)(hv:Vw A v bs.length (bV bs))(h:4≤bs.length):aH Tryz.prog 177 [v] [A] (fun r H=>r = .int .i64 (mf bs:Int)∧H=[A]):=by
 obtain⟨b,o,c,rfl⟩:=H8 hv aj
 have hx:∀x:UInt8,x.toNat<256:=fun x=>x.toNat_lt
 have h0:=hx (bs.getD 0 0);have h1:=hx (bs.getD 1 0);have h2:=hx (bs.getD 2 0);have h3:=hx (bs.getD 3 0)
 refine aH.aC Tryz.func177 Tryz.ntmps177 fun G F R hE=>?_
 refine go ?_
 refine aO (fun w=>Sat G w ([A])) (lO 0 23 .nil) rfl aw aw aw dI ?_
 refine go ?_
 refine bW 0 zr zr zr zr zr zr zr zr aj ?_
 refine cQ 0 0 zr zr zr hv rfl (zO aj) zr zr (go ?_)
 refine bW 1 zr zr zr zr zr zr zr zr aj ?_
 refine cQ 0 1 zr zr zr hv rfl (zO aj) zr zr (go ?_)
 refine oD zr zr zr aj ?_
 refine au 11 (.int .i64 (((bs.getD 1 0).toNat*2 ^ 8:Nat):Int)) rfl (An (q:=8) _ rfl aj) (go ?_)
 refine au 12 (.int .i64 (((bs.getD 0 0).toNat+(bs.getD 1 0).toNat*2 ^ 8:Nat):Int)) rfl (congrArg (Value.int .i64) (JM aj aj)) ?_
 refine bW 2 zr zr zr zr zr zr zr zr aj ?_
 refine cQ 0 2 zr zr zr hv rfl (zO aj) zr zr (go ?_)
 refine oD zr zr zr aj ?_
 refine au 17 (.int .i64 (((bs.getD 2 0).toNat*2 ^ 16:Nat):Int)) rfl (An (q:=16) _ rfl aj) (go ?_)
 refine au 18 (.int .i64 (((bs.getD 0 0).toNat+(bs.getD 1 0).toNat*2 ^ 8+(bs.getD 2 0).toNat*2 ^ 16:Nat):Int)) rfl (congrArg (Value.int .i64) (JM aj aj)) ?_
 refine bW 3 zr zr zr zr zr zr zr zr aj ?_
 refine cQ 0 3 zr zr zr hv rfl (zO aj) zr zr (go ?_)
 refine oD zr zr zr aj ?_
 refine au 23 (.int .i64 (((bs.getD 3 0).toNat*2 ^ 24:Nat):Int)) rfl (An (q:=24) _ rfl aj) (go ?_)
 refine aE 2 (.int .i64 (mf bs:Int)) rfl (congrArg (Value.int .i64) (JM aj aj)) ?_
 refine ah hE Tryz.func177 zr zr ⟨rfl,rfl⟩
def Ea(A B:HP)(v1 v2:Value)(b1 b2:List UInt8)(h1:Vw A v1 b1.length (bV b1))(h2:Vw B v2 b2.length (bV b2)):aH Tryz.prog 178 [v1,v2] [A,B] (fun r H=>r = .bool (decide (b1=b2))∧H=[A,B]):=by
 obtain⟨a1,c1,rfl⟩:=h1.shape
 obtain⟨a2,c2,rfl⟩:=h2.shape
 refine aH.aC Tryz.func178 Tryz.ntmps178 fun G F R hE=>?_
 refine go ?_
 refine pK 0 zr zr zr zr zr zr zr zr zr h1 (go ?_)
 refine pK 1 zr zr zr zr zr zr zr zr zr h2 (go ?_)
 rw[tx]
 refine ah hE Tryz.func178 zr zr ⟨rfl,rfl⟩
theorem D7(a b:Nat)(ha:a<4294967296)(hb:b<4294967296):aH Tryz.prog 265 [.int .u64 (a:Int),.int .u64 (b:Int)] [] (fun r H=>r = .tuple #[.int .u64 0,.int .u64 ((a*b:Nat):Int)]∧H=[]):=by
 have uh:a*b<18446744073709551616:=Nat.lt_of_lt_of_le (Nat.mul_lt_mul'' ha hb) aj
 have hw:∀x:Nat,x<18446744073709551616→IntKind.u64.wrap (x:Int)=(x:Int):=fun x hx=>dr (by simp only[js];omega)
 have hm:∀x:Nat,x<4294967296→IntKind.u64.wrap ((BitVec.ofInt IntKind.u64.bits (x:Int) &&& BitVec.ofInt IntKind.u64.bits 4294967295).toNat:Int)=(x:Int):=fun x hx=>by
  have:=Fu x 32 aj aj
  grind
 have hs:∀x:Nat,x<4294967296→(x:Int)/2 ^ (min (Int.toNat 32) IntKind.u64.bits)=0:=fun x hx=>by show(x:Int)/4294967296=0;omega
 refine aH.aC Tryz.func265 Tryz.ntmps265 fun G F R hE=>?_
 refine go ?_
 refine au 6 (.int .u64 (a:Int)) rfl (congrArg (Value.int .u64) (hm a ha)) ?_
 refine iQ zr zr zr aj ?_
 refine au 17 (.int .u64 0) rfl (congrArg (Value.int .u64) (hs a ha)) (go ?_)
 refine au 8 (.int .u64 (b:Int)) rfl (congrArg (Value.int .u64) (hm b hb)) ?_
 refine iQ zr zr zr aj ?_
 refine au 21 (.int .u64 0) rfl (congrArg (Value.int .u64) (hs b hb)) (go ?_)
 refine nG zr zr zr (by rw[← Int.natCast_mul];simp only[js];omega) ?_
 refine au 24 (.int .u64 ((a*b:Nat):Int)) rfl (by rw[Int.natCast_mul]) (go ?_)
 refine nG zr zr zr (by simp[js]) ?_
 refine au 27 (.int .u64 0) rfl (by simp) (go ?_)
 refine iQ zr zr zr aj ?_
 refine au 29 (.int .u64 ((a*b/4294967296:Nat):Int)) rfl (congrArg (Value.int .u64) (by show((a*b:Nat):Int)/4294967296=_;omega)) ?_
 refine go ?_
 refine au 11 (.int .u64 ((a*b/4294967296:Nat):Int)) rfl (congrArg (Value.int .u64) aj) (go ?_)
 have hq:a*b/4294967296<4294967296:=by omega
 refine au 12 (.int .u64 ((a*b/4294967296:Nat):Int)) rfl (congrArg (Value.int .u64) (by rw[show(0:Int)+((a*b/4294967296:Nat):Int)=((a*b/4294967296:Nat):Int)from by omega];exact hm _ hq)) ?_
 refine iQ zr zr zr aj ?_
 refine au 34 (.int .u64 0) rfl (congrArg (Value.int .u64) (by simp only[Int.zero_add,Int.add_zero];exact hs _ hq)) ?_
 refine go ?_
 refine nG zr zr zr (by simp[js]) ?_
 refine au 38 (.int .u64 0) rfl (by simp) (go ?_)
 refine nG zr zr zr (by simp[js]) ?_
 refine au 42 (.int .u64 0) rfl (by simp) (go ?_)
 refine iQ zr zr zr aj ?_
 refine au 46 (.int .u64 0) rfl (congrArg (Value.int .u64) (by rw[show((a*b/4294967296:Nat):Int)+0=((a*b/4294967296:Nat):Int)from by omega];exact hs (a*b/4294967296) hq)) ?_
 refine go ?_
 refine nG zr zr zr (by rw[← Int.natCast_mul];simp only[js];omega) ?_
 refine au 50 (.int .u64 ((a*b:Nat):Int)) rfl (by rw[Int.natCast_mul]) (go ?_)
 refine ah hE Tryz.func265 zr zr ⟨rfl,rfl⟩
def Mn(a b:Nat)(ha:a<4294967296)(hb:b<4294967296):aH Tryz.prog 255 [.int .u64 (a:Int),.int .u64 (b:Int)] [] (fun r H=>r = .tuple #[.int .u64 0,.int .u64 ((a*b:Nat):Int)]∧H=[]):=by
 refine aH.aC Tryz.func255 Tryz.ntmps255 fun G F R hE=>?_
 refine go ?_
 refine aeb (D7 a b ha hb) ?_
 refine go ?_
 refine ah hE Tryz.func255 zr zr ⟨rfl,rfl⟩
theorem zd(v:Value)(bs:List UInt8)(h0:0<bs.length)(hl:bs.length≤1000) :
  aH Tryz.prog 232 [v,.int .i64 2] [aK 5 1 v bs.length (bV bs)] (fun r H=>H=[aK 5 1 r (bs++bs).length (bV (bs++bs))]):=by
 refine aH.aC Tryz.func232 Tryz.ntmps232 fun G F R hE=>?_
 refine yq 0 rfl h0 ?_
 rintro b o c rfl hc _ dH
 refine go ?_
 refine aeb (Mn bs.length 2 aj aj) ?_
 repeat'(first|(with_reducible intro k9)|refine g9 ?_|refine aB zr zr ?_ ?_)
 any_goals (exfalso;omega)
 obtain⟨N,hN⟩:∃N,N=bs.length*2:=⟨_,rfl⟩
 rw[← hN]
 refine FJ (U:=bh) (t:=22) (elem:=5) (q:=N) rfl Tryz.func256 zr zr aw zr zr zr zr aj (fun _ _ _ _=>trivial) ?_
 intro nb c2 l qu rX
 refine go ?_
 refine OH (U:=bh) (q:=(N:Int)) (r:=(N:Int)) zr zr zr zr zr zr zr aj aj aj ?_
 refine au 57 (.slice (some ⟨nb,0,none⟩) N N) rfl (by rw[show((N:Int)).toNat=N from by omega];rw[SL.dT]) ?_
 refine go ?_
 refine FL (U:=bh) (src:=bV bs) (mm:=bs.length) (l':=bV bs++l.drop bs.length) 0 1 zr zr zr zr zr zr zr zr dH (by show _=_*1;rw[bN];omega) (fun u hu=>dR bs u (List.mem_of_mem_take hu)) (by show 0+_*1≤_;omega) ?_ rfl eH ?_
 ·show _=List.take 0 l++List.take (min bs.length N*1) (bV bs)++List.drop (0+min bs.length N*1) l
  grind
 rw[show((min bs.length N:Nat):Int)=(bs.length:Int)from by omega]
 refine go ?_
 refine bF (fun _:Bool=>True) (fun s=>bif s then 0 else 1)
  (fun s=>[(7,.int .i64 (N:Int)),(8,.int .i64 (N:Int)),(9,.slice (some ⟨nb,0,none⟩) N N),(10,.int .i64 ((bif s then N else bs.length:Nat):Int))])
  (fun s=>ak nb (cl (bif s then bV (bs++bs)++l.drop N else bV bs++l.drop bs.length) 5)::F) false trivial rfl cF ad ?_
 rintro s _ ih
 cases s with
 | true =>
  repeat'(first|(with_reducible intro k9)|refine g9 ?_|refine aB zr zr ?_ ?_)
  any_goals (exfalso;simp only[cond_true]at *;omega)
  simp only[cond_true]
  refine al (fp 5 1 nb N N (bV (bs++bs)) (l.drop N) _ (by rw[bN,List.length_append];omega) (Nat.le_refl _) (by rw[bN,List.length_append,List.length_drop];omega)) ?_
  rw[show N=(bs++bs).length from by rw[List.length_append];omega]
  refine aG hE Tryz.func232 rfl _ zr zr ad
 | false =>
  repeat'(first|(with_reducible intro k9)|refine g9 ?_|refine aB zr zr ?_ ?_)
  any_goals (exfalso;simp only[cond_false]at *;omega)
  simp only[cond_false]
  rw[show min (bs.length:Int) (N:Int)=(bs.length:Int)from by omega]
  refine aO (fun w=>Sat G w ([])) (lO 0 7 (.act 7 (lO 8 2 .nil))) rfl aw aw aw dI ?_
  refine go ?_
  refine aU (p:=(bs.length:Int)) (q:=(N:Int)) zr zr zr zr zr zr zr aj aj (.inl rfl) ?_
  refine au 70 (.slice (some ⟨nb,bs.length,none⟩) bs.length bs.length) rfl (by rw[show((N:Int)).toNat=N from by omega,show((bs.length:Int)).toNat=bs.length from by omega,show N-bs.length=bs.length from by omega];show Value.slice (sliceAt _ N bs.length 1) _ _=_;rw[ep _ _ _ _ _ aj,Nat.zero_add,Nat.mul_one]) ?_
  refine go ?_
  refine aU (p:=0) (q:=(bs.length:Int)) zr zr zr zr zr zr zr aj aj (.inr aj) ?_
  refine au 73 (.slice (some ⟨nb,0,none⟩) bs.length N) rfl (by rw[show(0:Int).toNat=0 from rfl,show((bs.length:Int)).toNat=bs.length from by omega,SL.dT];rfl) ?_
  refine FL (U:=bh) (src:=bV bs) (mm:=bs.length) (l':=bV (bs++bs)++l.drop N) 0 0 zr zr zr zr zr zr zr zr (Vw.ak (by simp)) (by show _=_*1;rw[bN];omega) (fun u hu=>dR bs u (List.mem_of_mem_take hu)) (by show bs.length+_*1≤_;rw[List.length_append,bN,List.length_drop];omega) ?_ rfl (fun _ hw=>hw.cI (aq.Vk _)) ?_
  ·show _=List.take bs.length _++List.take (min bs.length bs.length*1) (bV bs)++List.drop (bs.length+min bs.length bs.length*1) _
   rw[show min bs.length bs.length*1=bs.length from by omega,List.take_of_length_le (l:=bV bs) (by rw[bN];omega),List.take_left' (bN bs),List.drop_append,bN,show(bV bs).drop (bs.length+bs.length)=[]from List.drop_eq_nil_of_le (by rw[bN];omega),List.drop_drop,show bs.length+(bs.length+bs.length-bs.length)=N from by omega]
   simp[bV]
  rw[show((min bs.length bs.length:Nat):Int)=(bs.length:Int)from by omega]
  refine go ?_
  refine aE 10 (.int .i64 (N:Int)) rfl (congrArg (Value.int .i64) aj) ?_
  refine aQ ih true rfl trivial (by simp) cF ad
def cq(n m:Nat):List UInt8:=(vX n++vX m)++(vX n++vX m)
theorem gT(n m:Nat):(cq n m).length=16:=rfl
def pj(n m:Nat)(h:n<9223372036854775808)(h2:m<9223372036854775808):aH Tryz.prog 179 [.int .i64 (n:Int),.int .i64 (m:Int)] [] (fun r H=>H=[aK 5 1 r (cq n m).length (bV (cq n m))]):=by
 refine aH.aC Tryz.func179 Tryz.ntmps179 fun G F R hE=>?_
 refine go ?_
 refine ao (qk n h) ?_
 rintro _ _⟨b1,rfl,rfl⟩
 refine go ?_
 refine ao (qk m h2) ?_
 rintro _ _⟨b2,rfl,rfl⟩
 refine aT (aq.pick [1] rfl) ?_
 refine aT (fp 5 1 b1 4 4 (bV (vX n)) [] _ rfl (Nat.le_refl _) (by simp[bN,tl])) ?_
 refine bg (mm:=4) (news:=bV (vX m)) 0 1 zr zr zr zr zr zr zr zr zr zr zr zr (Vw.ak rfl) rfl (dR _) aj (by show(4+4)*1≤_;omega) (fun _=>rfl) bO ?_
 intro v1
 rw[show bV (vX n)++bV (vX m)=bV (vX n++vX m)from by simp[bV],show 4+4=(vX n++vX m).length from rfl]
 refine ao (zd v1 (vX n++vX m) (by simp[tl]) (by simp[tl])) ?_
 rintro r _ rfl
 refine go ?_
 refine aG hE Tryz.func179 rfl _ zr zr ad
def ki(A:HP)(v:Value)(bs:List UInt8)(hv:eU A v bs)(hl:bs.length≤1000000000000):aH Tryz.prog 123 [v] [A] (fun r H=>H=[aK 5 1 r (bB bs).length (bV (bB bs)),A]):=by
 obtain⟨a,c,rfl,hc⟩:=hv.2
 refine aH.aC Tryz.func123 Tryz.ntmps123 fun G F R hE=>?_
 refine go ?_
 refine ao (fK bs.length aj) ?_
 rintro r _ rfl
 refine aN 0 rfl ?_
 rintro ra rc rfl
 refine go ?_
 have hu:=lL (n:=bs.length) aj
 refine bg (mm:=bs.length) (news:=bV bs) 0 1 zr zr zr zr zr zr zr zr zr zr zr zr hv.1 (by show _=_*1;rw[bN];omega) (dR _) aj (by show(_+_)*1≤_;omega) (fun _=>rfl) bO ?_
 intro v1
 rw[show bV (uv bs.length)++bV bs=bV (bB bs)from by simp[bV,bB],show(uv bs.length).length+bs.length=(bB bs).length from by simp[bB]]
 refine go ?_
 refine aG hE Tryz.func123 rfl _ zr zr ad
theorem G5(A:HP)(v:Value)(bs:List UInt8)(hv:eU A v bs)(hl:bs.length≤9223372036854775807) :
    aH Tryz.prog 176 [v] [A] (fun r H=>r=(match nj bs with
      | some (k,n) => .tuple #[.int .i64 (k:Int),.int .i64 (n:Int),.bool (decide (n≤4096))]
      | none => .tuple #[.int .i64 0,.int .i64 0,.bool false])∧H=[A]):=by
  obtain⟨a,c,rfl,hc⟩:=hv.2
  refine aH.aC Tryz.func176 Tryz.ntmps176 fun G F R hE=>?_
  refine go ?_
  refine bF (fun k:Nat=>1≤k∧k≤3∧(2≤k→1≤bs.length∧cH (bs.take 1)=none)∧(3≤k→2≤bs.length∧cH (bs.take 2)=none)) (fun k=>3-k)
    (fun k=>[(0,.slice a bs.length c),(5,.int .i64 (k:Int))])
    (fun _=>A::F) 1 ⟨aj,aj,aj,aj⟩ rfl cF ad ?_
  rintro k⟨DA,Ch,h1,h2⟩ ih
  refine go ?_
  refine aB zr zr ?_ ?_
  case' refine_2 =>
    intro fO
    have hn:nj bs=none:=by
      unfold nj
      split
      · obtain⟨_,h3⟩:=h1 aj
        rw[h3]
        simp only
        split
        · obtain⟨_,h4⟩:=h2 aj
          rw[h4];rfl
        · rfl
      · rfl
    rw[hn]at hE
    refine go ?_
    refine ah hE Tryz.func176 zr zr ⟨rfl,rfl⟩
  intro dk
  have Kc:k≤bs.length:=by omega
  refine go ?_
  refine aU (p:=0) (q:=(k:Int)) zr zr zr zr zr zr zr aj aj (.inr aj) ?_
  have hf:=hv.front k Kc
  refine au 18 (.slice (sliceAt a c 0 1) k c) rfl (by rw[show(0:Int).toNat=0 from rfl,show((k:Int)).toNat=k from by omega];rfl) ?_
  ((refine ao (gn A _ (bs.take k) hf (by rw[List.length_take];omega)) ?_))
  cases hu:cH (bs.take k)with
  | none =>
    rintro _ _⟨rfl,rfl⟩
    refine go ?_
    refine aQ ih (k+1) rfl ⟨aj,aj,fun h=>by
      by_cases hk:k=1
      · grind
      · exact h1 aj,fun h=>by
      have hk:k=2:=by omega
      subst hk;exact⟨aj,hu⟩⟩ aj cF ad
  | some n =>
    rintro _ _⟨rfl,rfl⟩
    have agn:=pW hu (by rw[List.length_take];omega)
    have J5:nj bs=some (k,n):=by
      unfold nj
      rw[if_pos aj]
      by_cases hk:k=1
      · grind
      · have hk:k=2:=by omega
        grind
    rw[J5]at hE
    simp only at hE
    rw[show decide (n≤4096)=decide ((n:Int)≤4096)from decide_eq_decide.2 ⟨fun _=>by omega,fun _=>by omega⟩]at hE
    refine go ?_
    refine ah hE Tryz.func176 zr zr ⟨rfl,rfl⟩
def mj(b:List UInt8)(k last:Nat):Bool :=
 let h:=(b.drop (16*k)).take 16
 decide (last<mf h∧mf h≤1073741824∧mf h%2=k∧mf (h.drop 4)+32≤b.length∧h=cq (mf h) (mf (h.drop 4)))
def fT(b:List UInt8)(k:Nat)(s:Nat × Nat):Nat × Nat:=if mj b k s.1 then(mf ((b.drop (16*k)).take 16),mf (((b.drop (16*k)).take 16).drop 4))else s
def fE(b:List UInt8):List UInt8:=if b.length<32 then []else(b.drop 32).take (fT b 1 (fT b 0 (0,0))).2
def afq{b:List UInt8}(hk:16*k+16≤b.length):((b.drop (16*k)).take 16).length=16:=by rw[List.length_take,List.length_drop];omega
theorem DM(A:HP)(v:Value)(b:List UInt8)(hv:eU A v b)(hl:b.length≤9223372036854775807) :
  aH Tryz.prog 109 [v] [A] (fun r H=>eU A r (fE b)∧H=[A]):=by
 obtain⟨a,c,rfl,hc⟩:=hv.2
 refine aH.aC Tryz.func109 Tryz.ntmps109 fun G F R hE=>?_
 repeat'(first|(with_reducible intro k9)|refine g9 ?_|refine aB zr zr ?_ ?_)
 case' refine_1 =>
  have hn:fE b=[]:=by unfold fE;rw[if_pos aj]
  rw[hn]at hE
  refine ah hE Tryz.func109 zr zr ⟨⟨Dd A,none,0,rfl,Nat.le_refl _⟩,rfl⟩
 have agB:32≤b.length:=by omega
 refine bF (fun s:Nat × Nat × Nat=>s.1≤2∧(s.1=0→s.2=(0,0))∧(s.1=1→s.2=fT b 0 (0,0))∧(s.1=2→s.2=fT b 1 (fT b 0 (0,0)))∧s.2.2+32≤b.length∧s.2.1≤1073741824) (fun s=>2-s.1)
  (fun s=>[(0,.slice a b.length c),(3,.int .i64 (s.2.1:Int)),(4,.int .i64 (s.2.2:Int)),(12,.int .i64 (s.1:Int))])
  (fun _=>A::F) (0,0,0) ⟨aj,fun _=>rfl,aj,aj,by simp only;omega,by simp only;omega⟩ rfl cF ad ?_
 rintro⟨k,last,len⟩⟨hk,hk0,DA,Ch,hlen,lV⟩ ih
 simp only at hk hk0 DA Ch hlen lV
 refine go ?_
 refine aB zr zr ?_ ?_
 case' refine_2 =>
  intro fO
  simp only at fO
  have h2:=Ch aj
  have hf:fE b=(b.drop 32).take len:=by unfold fE;rw[if_neg aj,← h2]
  refine go ?_
  refine aU (p:=32) (q:=32+(len:Int)) zr zr zr zr zr zr zr aj aj (.inr aj) ?_
  have hp:=hv.piece 32 (32+len) aj aj
  rw[show 32+len-32=len from by omega,← hf]at hp
  refine au 58 (.slice (sliceAt a c 32 1) len (c-32)) rfl (by rw[show(32:Int).toNat=32 from rfl,show(32+(len:Int)).toNat=32+len from by omega,show 32+len-32=len from by omega];rfl) ?_
  refine go ?_
  refine ah hE Tryz.func109 zr zr ⟨hp,rfl⟩
 intro dk
 simp only at dk
 have ae7:16*k+16≤b.length:=by omega
 refine go ?_
 refine nG zr zr zr (by simp only[js];omega) ?_
 refine au 17 (.int .i64 ((16*k:Nat):Int)) rfl (congrArg (Value.int .i64) (by simp only;omega)) ?_
 refine aU (p:=((16*k:Nat):Int)) (q:=(b.length:Int)) zr zr zr zr zr zr zr aj aj (.inl rfl) ?_
 refine au 18 (.slice (sliceAt a c (16*k) 1) (b.length-16*k) (c-16*k)) rfl (by rw[show(((16*k:Nat):Int)).toNat=16*k from by omega,show((b.length:Int)).toNat=b.length from by omega];rfl) ?_
 have hh1:=hv.cut (16*k) aj
 refine aU (p:=0) (q:=16) zr zr zr zr zr zr zr aj aj (.inr aj) ?_
 obtain⟨hd,hhd⟩:∃hd,hd=(b.drop (16*k)).take 16:=⟨_,rfl⟩
 have NY:hd.length=16:=by rw[hhd];exact afq ae7
 obtain⟨a1,ha1⟩:∃a1,a1=sliceAt (sliceAt a c (16*k) 1) (c-16*k) 0 1:=⟨_,rfl⟩
 have hh2:eU A (.slice a1 16 (c-16*k)) hd:=by
  rw[show b.length-16*k=(b.drop (16*k)).length from by rw[List.length_drop]]at hh1
  have:=hh1.front 16 (by rw[List.length_drop];omega)
  grind
 refine au 19 (.slice a1 16 (c-16*k)) rfl (by rw[show(0:Int).toNat=0 from rfl,show(16:Int).toNat=16 from rfl,ha1];rfl) ?_
 refine go ?_
 refine aO (fun w=>Sat G w ([])) (.st 0 (.st 2 (.st 3 (.act 1 (.act 4 (.st 5 (.st 6 .nil))))))) rfl aw aw aw dI ?_
 refine go ?_
 refine aU (p:=4) (q:=16) zr zr zr zr zr zr zr aj aj (.inl rfl) ?_
 have hh3:=(show eU A (.slice a1 hd.length (c-16*k)) hd by rw[NY];exact hh2).cut 4 aj
 rw[NY]at hh3
 refine au 23 (.slice (sliceAt a1 (c-16*k) 4 1) (16-4) (c-16*k-4)) rfl (by rw[show(4:Int).toNat=4 from rfl,show(16:Int).toNat=16 from rfl];rfl) ?_
 refine Vd (vC A _ hd hh2.1 aj) ?_
 ((refine bz (vC A _ (hd.drop 4) hh3.1 (by rw[List.length_drop];omega)) ?_))
 rintro _ _⟨rfl,rfl⟩
 have hn:=QM hd
 have hm:=QM (hd.drop 4)
 have k8:mj b k last=decide (last<mf hd∧mf hd≤1073741824∧mf hd%2=k∧mf (hd.drop 4)+32≤b.length∧hd=cq (mf hd) (mf (hd.drop 4))):=by unfold mj;rw[← hhd]
 have rn:∀s':Nat × Nat,s'=fT b k (last,len)→s'.2+32≤b.length∧s'.1≤1073741824→(k+1≤2∧(k+1=0→s'=(0,0))∧(k+1=1→s'=fT b 0 (0,0))∧(k+1=2→s'=fT b 1 (fT b 0 (0,0)))∧s'.2+32≤b.length∧s'.1≤1073741824):=by
  grind
 have ml:mj b k last=false→(last,len)=fT b k (last,len):=fun h=>by unfold fT;rw[if_neg (by rw[h];simp)]
 have nY:mj b k last=true→(mf hd,mf (hd.drop 4))=fT b k (last,len):=fun h=>by unfold fT;rw[if_pos h,← hhd]
 repeat'(first|(with_reducible intro k9)|refine g9 ?_|refine dA zr zr zr zr ?_ ?_|refine uy zr zr zr aj aj ?_)
 any_goals (
  have hf:mj b k last=false:=by rw[k8];exact decide_eq_false (fun h=>by simp only at *;omega)
  refine aQ ih (k+1,last,len) rfl (rn _ (ml hf) ⟨hlen,lV⟩) (by simp only;omega) cF ad)
 refine ao (pj (mf hd) (mf (hd.drop 4)) aj aj) ?_
 rintro rl _ rfl
 refine eZ 0 rfl ?_
 intro hvh
 refine aN 0 rfl ?_
 rintro xa xc rfl
 refine go ?_
 refine aeb (Ea A (aK 5 1 (.slice xa (cq (mf hd) (mf (hd.drop 4))).length xc) (cq (mf hd) (mf (hd.drop 4))).length (bV (cq (mf hd) (mf (hd.drop 4))))) (.slice a1 16 (c-16*k)) (.slice xa (cq (mf hd) (mf (hd.drop 4))).length xc) hd (cq (mf hd) (mf (hd.drop 4))) hh2.1 hvh) ?_
 repeat'(first|(with_reducible intro k9)|refine g9 ?_|refine aB zr zr ?_ ?_)
 ·have hf:mj b k last=true:=by rw[k8];exact decide_eq_true (by refine⟨?_,?_,?_,?_,‹_›⟩ <;> (simp only at *;omega))
  refine go ?_
  refine aQ ih (k+1,mf hd,mf (hd.drop 4)) rfl (rn _ (nY hf) ⟨by simp only at *;omega,by simp only at *;omega⟩) (by simp only;omega) cF ad
 ·have hf:mj b k last=false:=by rw[k8];exact decide_eq_false (fun h=>‹¬_› h.2.2.2.2)
  refine aQ ih (k+1,last,len) rfl (rn _ (ml hf) ⟨hlen,lV⟩) (by simp only;omega) cF ad
attribute [local irreducible] cp
def tk(h:nj bs=some (k,n)):1≤k∧k≤2∧k≤bs.length∧n<16384:=by
 unfold nj at h
 split at h
 ·rename_i h1
  split at h
  ·rename_i m hm
   cases h
   exact⟨aj,aj,h1,pW hm (by rw[List.length_take];omega)⟩
  ·split at h
   ·rename_i h2
    cases hu:cH (bs.take 2)with
    | none=>rw[hu]at h;cases h
    | some m =>
     rw[hu]at h
     cases h
     exact⟨aj,aj,h2,pW hu (by rw[List.length_take];omega)⟩
   ·cases h
 ·cases h
def gR:Nat→List UInt8→List (List UInt8)
 | 0,_=>[]
 | f+1,bs=>match nj bs with
  | none=>[]
  | some (k,n)=>if n≤4096∧k+n≤bs.length then(bs.drop k).take n::gR f (bs.drop (k+n))else []
theorem tV:∀(f g:Nat) (bs:List UInt8),bs.length≤f→bs.length≤g→gR f bs=gR g bs
 | 0,0,_,_,_=>rfl
 | 0,g+1,bs,hf,_=>by
  have:bs=[]:=List.eq_nil_of_length_eq_zero aj
  subst this;rfl
 | f+1,0,bs,_,hg=>by
  have:bs=[]:=List.eq_nil_of_length_eq_zero aj
  subst this;rfl
 | f+1,g+1,bs,hf,hg=>by
  unfold gR
  split
  ·rfl
  ·rename_i k n hl
   have:=tk hl
   split
   ·rw[tV f g _ (by rw[List.length_drop];omega) (by rw[List.length_drop];omega)]
   ·rfl
def cC(bs:List UInt8):List (List UInt8):=gR bs.length bs
theorem tW(h:nj bs=none):cC bs=[]:=by
 unfold cC
 cases hl:bs.length with
 | zero=>rfl
 | succ f=>unfold gR;rw[h]
def vN(h:nj bs=some (k,n))(hb:¬(n≤4096∧k+n≤bs.length)):cC bs=[]:=by
 unfold cC
 cases hl:bs.length with
 | zero=>rfl
 | succ f=>unfold gR;rw[h];simp only;rw[if_neg hb]
theorem tX(h:nj bs=some (k,n))(hb:n≤4096∧k+n≤bs.length):cC bs=(bs.drop k).take n::cC (bs.drop (k+n)):=by
 have h1:=tk h
 unfold cC
 obtain⟨f,hf⟩:∃f,bs.length=f+1:=⟨bs.length-1,aj⟩
 grind [gR,tV]
def yH(a:Option Addr)(n c:Nat):aH Tryz.prog 108 [.slice a n c] [] (fun r H=>∃b,r = .func (.func 175) #[] #[ptr b]∧H=[ak b (cl [.slice a n c] 22)]):=by
 refine aH.aC Tryz.func108 Tryz.ntmps108 fun G F R hE=>?_
 refine go ?_
 refine bJ zr zr bO ?_
 intro b
 refine go ?_
 refine ah hE Tryz.func108 zr zr ⟨b,rfl,rfl⟩
theorem EA(A:HP)(l bx:Nat)(v:Value)(bs:List UInt8)(hv:eU A v bs)(hl:bs.length≤1000000000)(Lp:HP)(Inv:Nat→HP)(hy:∀i x,(cC bs)[i]?=some x→∀r,cp Tryz.prog l [r] [Lp,Inv i,aK 5 1 r x.length (bV x)] (fun v H=>v = .bool true∧H=[Lp,Inv (i+1)])) :
  aH Tryz.prog 175 [.func (.yield l) #[] #[],ptr bx] [Lp,ak bx (cl [v] 22),A,Inv 0] (fun _ H=>∃v',H=[Lp,ak bx (cl [v'] 22),A,Inv (cC bs).length]):=by
 refine aH.aC Tryz.func175 Tryz.ntmps175 fun G F R hE=>?_
 refine go ?_
 refine bF (fun y:Value × List UInt8 × Nat=>eU A y.1 y.2.1∧y.2.1.length≤bs.length∧cC y.2.1=(cC bs).drop y.2.2∧y.2.2≤(cC bs).length) (fun y=>y.2.1.length)
  (fun _=>[(0,.func (.yield l) #[] #[]),(1,ptr bx)])
  (fun y=>[Lp,ak bx (cl [y.1] 22),A,Inv y.2.2]++F) (v,bs,0) ⟨hv,Nat.le_refl _,by simp,Nat.zero_le _⟩ rfl cF ad ?_
 rintro⟨v1,rest,i⟩⟨ko,Dv,vu,LU⟩ ih
 simp only at ko Dv vu LU
 have ou:cC rest=[]→i=(cC bs).length:=fun h=>by
  rw[vu]at h
  have:(cC bs).length≤i:=by simpa using h
  omega
 obtain⟨a,c,rfl,hc⟩:=ko.2
 refine go ?_
 refine aeb (G5 A _ rest ko aj) ?_
 cases xX:nj rest with
 | none =>
  obtain rfl:=ou (tW xX)
  refine go ?_
  refine ah hE Tryz.func175 zr zr ⟨_,rfl⟩
 | some kn =>
  obtain⟨k,n⟩:=kn
  have hp:=tk xX
  by_cases hn:n≤4096
  case neg =>
   have eA:cC rest=[]:=vN xX aj
   obtain rfl:=ou eA
   have hd:decide (n≤4096)=false:=decide_eq_false hn
   simp only[hd]
   refine go ?_
   refine ah hE Tryz.func175 zr zr ⟨_,rfl⟩
  have hd:decide (n≤4096)=true:=decide_eq_true hn
  simp only[hd]
  refine go ?_
  by_cases hk:(rest.length:Int)<(k:Int)+n
  case pos =>
   obtain rfl:=ou (vN xX aj)
   have NZ:decide ((rest.length:Int)<(k:Int)+n)=true:=decide_eq_true hk
   simp only[NZ]
   refine go ?_
   refine ah hE Tryz.func175 zr zr ⟨_,rfl⟩
  have NZ:decide ((rest.length:Int)<(k:Int)+n)=false:=decide_eq_false hk
  simp only[NZ]
  have uf:=tX xX ⟨hn,aj⟩
  obtain⟨x,hx⟩:∃x,x=(rest.drop k).take n:=⟨_,rfl⟩
  have IX:x.length=n:=by rw[hx,List.length_take,List.length_drop];omega
  rw[← hx]at uf
  have Kd:(cC bs)[i]?=some x:=by
   have:=congrArg (fun l=>l[0]?) vu
   grind
  have rW:cC (rest.drop (k+n))=(cC bs).drop (i+1):=by
   have:=congrArg (fun l=>l.drop 1) vu
   simp only[uf,List.drop_drop]at this
   grind
  have VU:i+1≤(cC bs).length:=by
   grind
  have J7:=ko.piece k (k+n) aj aj
  rw[show k+n-k=n from by omega,← hx]at J7
  refine go ?_
  refine aU (p:=(k:Int)) (q:=((k+n:Nat):Int)) zr zr zr zr zr zr zr aj aj (.inr aj) ?_
  refine au 29 (.slice (sliceAt a c k 1) n (c-k)) rfl (by rw[show((k:Int)).toNat=k from by omega,show(((k+n:Nat):Int)).toNat=k+n from by omega,show k+n-k=n from by omega];rfl) ?_
  refine go ?_
  refine ao (iR A _ x J7.1 aj) ?_
  rintro r _ rfl
  refine go ?_
  refine jf zr zr zr (hy i x Kd r) ad ?_ bI
  rintro _ _⟨rfl,rfl⟩
  refine go ?_
  refine aU (p:=((k+n:Nat):Int)) (q:=(rest.length:Int)) zr zr zr zr zr zr zr aj aj (.inl rfl) ?_
  have kH:=ko.cut (k+n) aj
  refine au 38 (.slice (sliceAt a c (k+n) 1) (rest.length-(k+n)) (c-(k+n))) rfl (by rw[show(((k+n:Nat):Int)).toNat=k+n from by omega,show((rest.length:Int)).toNat=rest.length from by omega];rfl) ?_
  refine go ?_
  refine aQ ih (.slice (sliceAt a c (k+n) 1) (rest.length-(k+n)) (c-(k+n)),rest.drop (k+n),i+1) rfl (⟨kH,by simp only[List.length_drop];omega,rW,VU⟩) (by simp only[List.length_drop];omega) cF ad
end Go.Proofs.YtlionahpheehaaaGreatDoor
namespace Go.Proofs.YtlionahpheehaaaGreatDoor
open Go Go.SL
def PC{e:TypeId}{sz n c:Nat}{a:Option Addr}{cs:List Value}(H:List HP):aq (aK e sz (.slice a n c) n cs::H) (aK e sz (.slice (sliceAt a c 0 sz) 0 c) 0 []::H) :=
 aq.fold (A:=aK e sz (.slice (sliceAt a c 0 sz) 0 c) 0 []) (B:=[aK e sz (.slice a n c) n cs]) fun h hs=>by
  refine⟨h,sub.refl h,?_⟩
  obtain⟨hl,⟨a',he,hn,hem⟩|⟨b,o,cap,pre,junk,he,hp,hn,hc,Bc⟩⟩:=eO hs
  ·simp only[Value.slice.injEq]at he
   obtain⟨rfl,rfl,rfl⟩:=he
   exact⟨by simp,.inl ⟨_,rfl,rfl,hem⟩⟩
  ·simp only[Value.slice.injEq]at he
   obtain⟨rfl,-,rfl⟩:=he
   refine⟨by simp,.inr ⟨b,o,c,pre,cs++junk,?_,hp,Nat.zero_le _,by rw[List.length_append];simpa using hc,by simpa using Bc⟩⟩
   unfold sliceAt
   split
   ·rfl
   ·simp[Addr.add]
attribute [local irreducible] J K aH Ends ak aK aV bX bj aS bp bD cp
def Am(ls:List (List UInt8))(i:Nat):((ls.take i).flatten).length≤ls.flatten.length:=by
 conv=>rhs;rw[← List.take_append_drop i ls,List.flatten_append,List.length_append]
 omega
def ID(n:Nat)(hn:n≤1000000000):aH Tryz.prog 234 [.slice none 0 0,.int .i64 (n:Int)] [] (fun r H=>H=[aK 5 1 r 0 []]):=by
 refine aH.aC Tryz.func234 Tryz.ntmps234 fun G F R hE=>?_
 (repeat(first|refine g9 ?_|refine Sz (U:=bh) zr zr zr zr ?_))
 refine aE 1 ((.int .i64 (n:Int))) rfl ((congrArg (Value.int .i64) aj)) ?_
 refine aB zr zr ?_ ?_
 ·intro kY
  have hp:0<n:=by omega
  (repeat(first|refine g9 ?_|refine Sz (U:=bh) zr zr zr zr ?_))
  refine aU (p:=0) (q:=0) zr zr zr zr zr zr zr aj aj (.inr aj) ?_
  refine au 20 (.slice none 0 0) zr zr ?_
  refine aT (bS 5 1 none _) ?_
  refine eZ 0 rfl ?_
  intro kX
  refine go ?_
  refine D9 (U:=bh) (mm:=n) (cs:=[]) 0 zr zr zr zr zr zr zr zr zr zr zr zr kX rfl aj hp aj (by show _*1≤_;omega) (by show _*1≤_;omega) bO ?_
  intro v'
  refine aN 0 rfl ?_
  rintro a' c' rfl
  refine go ?_
  refine aU (p:=0) (q:=0) zr zr zr zr zr zr zr aj aj (.inr aj) ?_
  refine au 25 (.slice (sliceAt a' c' 0 1) 0 c') zr zr ?_
  refine aT (PC _) (go ?_)
  refine aG hE Tryz.func234 rfl _ zr zr ad
 ·intro hz
  have hz0:n=0:=by omega
  subst hz0
  refine go ?_
  refine al (bS 5 1 none _) ?_
  refine aG hE Tryz.func234 rfl _ zr zr ad
def K6(A:HP)(v:Value)(ls:List (List UInt8))(hv:xh A v ls)(hl:ls.flatten.length≤1000000000)(hn:ls.length≤1000000000):aH Tryz.prog 180 [v] [A] (fun r H=>H=[aK 5 1 r ls.flatten.length (bV ls.flatten),A]):=by
 obtain⟨cs,dH,kJ,⟨a,c,rfl,hc⟩,tq⟩:=hv
 refine aH.aC Tryz.func180 Tryz.ntmps180 fun G F R hE=>?_
 refine go ?_
 refine bF (fun i:Nat=>i≤ls.length) (fun i=>ls.length-i)
  (fun i=>[(0,.slice a ls.length c),(9,.slice a ls.length c),(10,.int .i64 (ls.length:Int)),(11,.int .i64 (i:Int)),(3,.int .i64 (((ls.take i).flatten.length:Nat):Int))])
  (fun _=>A::F) 0 (Nat.zero_le _) rfl cF ad ?_
 rintro i hi ih
 refine go ?_
 refine aB zr zr ?_ ?_
 ·intro dk
  have l9:i<ls.length:=by omega
  obtain⟨x,hx⟩:∃x,ls[i]?=some x:=⟨ls[i],List.getElem?_eq_getElem l9⟩
  obtain⟨cv,qP,hb⟩:=tq i x hx
  obtain⟨b0,o0,c0,tT⟩:=dH.some (by intro h;rw[h]at qP;simp at qP)
  simp only[Value.slice.injEq]at tT
  obtain⟨rfl,-,rfl⟩:=tT
  refine go ?_
  refine bW i zr zr zr zr zr zr zr zr l9 ?_
  obtain⟨ax,cx,rfl,hcx⟩:=hb.2
  have tM:(ls.take (i+1)).flatten.length=(ls.take i).flatten.length+x.length:=by rw[List.take_add_one,hx];simp
  have hle:=Am ls (i+1)
  refine aZ 0 i zr zr zr dH rfl qP zr zr (go ?_)
  refine aE 3 ((.int .i64 (((ls.take (i+1)).flatten.length:Nat):Int))) rfl ((congrArg (Value.int .i64) aj)) ?_
  refine aQ ih (i+1) rfl aj aj cF ad
 intro fO
 have e9:i=ls.length:=by omega
 subst e9
 rw[List.take_length]
 ((refine go ?_;(refine ao (ID ls.flatten.length hl) ?_)))
 rintro gv _ rfl
 refine aN 0 rfl ?_
 rintro ga gc rfl
 refine go ?_
 refine bF (fun i:Value × Nat=>i.2≤ls.length) (fun i=>ls.length-i.2)
  (fun i=>[(0,.slice a ls.length c),(25,.slice a ls.length c),(26,.int .i64 (ls.length:Int)),(27,.int .i64 (i.2:Int)),(6,i.1)])
  (fun i=>aK 5 1 i.1 (ls.take i.2).flatten.length (bV (ls.take i.2).flatten)::A::F) (.slice ga 0 gc,0) (Nat.zero_le _) rfl cF ad ?_
 rintro⟨v,i⟩ hi ih
 simp only at hi
 refine go ?_
 refine aB zr zr ?_ ?_
 ·intro dk
  simp only at dk
  have l9:i<ls.length:=by omega
  obtain⟨x,hx⟩:∃x,ls[i]?=some x:=⟨ls[i],List.getElem?_eq_getElem l9⟩
  obtain⟨cv,qP,hb⟩:=tq i x hx
  obtain⟨b0,o0,c0,tT⟩:=dH.some (by intro h;rw[h]at qP;simp at qP)
  simp only[Value.slice.injEq]at tT
  obtain⟨rfl,-,rfl⟩:=tT
  refine go ?_
  refine bW i zr zr zr zr zr zr zr zr l9 ?_
  obtain⟨ax,cx,rfl,hcx⟩:=hb.2
  have tM:(ls.take (i+1)).flatten=(ls.take i).flatten++x:=by rw[List.take_add_one,hx];simp
  have ez:(ls.take (i+1)).flatten.length=(ls.take i).flatten.length+x.length:=by rw[tM,List.length_append]
  have hle:=Am ls (i+1)
  refine aZ 1 i zr zr zr dH rfl qP zr zr ?_
  refine aN 0 rfl ?_
  intro av cv rk
  simp only at rk
  subst rk
  refine go ?_
  refine bg (mm:=x.length) (news:=bV x) 0 1 zr zr zr zr zr zr zr zr zr zr zr zr hb.1 (by show _=_*1;rw[bN];omega) (dR _) (by simp only;omega) (by show(_+_)*1≤_;simp only;omega) (fun _=>rfl) bO ?_
  intro v1
  simp only
  rw[show bV (ls.take i).flatten++bV x=bV (ls.take (i+1)).flatten from by rw[tM];simp[bV],← ez]
  refine go ?_
  refine aQ ih (v1,i+1) rfl (by simp only;omega) (by simp only;omega) cF ad
 intro fO
 simp only at fO
 have e9:i=ls.length:=by omega
 subst e9
 rw[List.take_length]
 refine aM 0 rfl ?_
 intro av cv rk
 simp only at rk
 subst rk
 refine go ?_
 refine aG hE Tryz.func180 rfl _ zr zr ad
end Go.Proofs.YtlionahpheehaaaGreatDoor
