import Derived.Test.YtjpboghdolfekaaGreatDoorQMQ3
import Derived.Test.YtjpboghdolfekaaGreatDoorQMQ6
import Derived.Test.YtjpboghdolfekaaGreatDoorQMQ7
import Derived.Test.YtjpboghdolfekaaGreatDoorQMQ8
import Derived.Test.YtjpboghdolfekaaGreatDoorQMQ9
set_option linter.unusedSimpArgs false
set_option linter.unusedVariables false
set_option maxHeartbeats 2000000
set_option maxRecDepth 20000
set_option linter.defProp false
namespace Go.Proofs.YtjpboghdolfekaaGreatDoor
open Go Go.SL
attribute [local irreducible] J K aw Ends ag aH au bE aW aJ a6 aZ bI aG
def Oq{ts:List Tk}{i:Nat}(h:i<ts.length):ts.map gn≠[]:=fun e=>by have:=congrArg List.length e;simp at this;rw[this]at h;simp at h
def Bb(A X:HP)(v:Value)(l:List Tk)(hv:Vw A v l.length (l.map gn))(hlen:l.length≤1000000)(g:FuncId)(cap:List Value)(p:Tk→Bool)(hf:∀x∈l,aw Tryz.prog g (ptr x.yb::cap) [X] (fun v H=>v = .bool (p x)∧H=[X])) :
  aw Tryz.prog 427 [v,.func (.func g) #[] cap.toArray] [A,X] (fun r H=>r = .int .i64 (iR p l)∧H=[A,X]):=by
 obtain⟨a,c0,rfl⟩:=hv.shape
 refine aw.enter Tryz.func427 ae rfl Tryz.ntmps427 zr zr ?_
 intro G F R hR
 refine go ?_
 refine bj (fun i:Nat=>i≤l.length∧∀y∈l.take i,p y=false) (fun i=>l.length-i) (fun i=>[(0,.slice a l.length c0),(1,.func (.func g) #[] cap.toArray),(7,.int .i64 l.length),(8,.int .i64 i)]) (fun _=>[A,X]++F) 0 ⟨by simp,by simp⟩ rfl bO (ak.refl _) ?_
 rintro i⟨hi,hb⟩ ih
 refine go ?_
 refine aD zr zr ?_ ?_
 ·intro cB
  refine go ?_
  have dP:i<l.length:=by omega
  obtain⟨x,hx⟩:∃x,l[i]?=some x:=⟨l[i],by simp[dP]⟩
  obtain⟨b,o,fX,eR⟩:=hv.some (Oq dP)
  simp only[Value.slice.injEq]at eR
  obtain⟨rfl,_,rfl⟩:=eR
  refine bD i zr zr zr zr zr zr zr zr dP ?_
  refine aS ?_
  refine aP 0 i zr zr zr hv rfl (qD hx) zr zr ?_
  refine bS [1] zr zr zr zr (hf x (List.mem_of_getElem? hx)) rfl iM ?_
  rintro _ _⟨rfl,rfl⟩
  refine go ?_
  refine ep zr zr ?_ ?_
  ·intro hp
   refine go ?_
   refine aL hR Tryz.func427 rfl _ rfl ⟨by rw[jq hx hp hb];rfl,rfl⟩ (ak.fin [1,0] 0 zr zr)
  ·intro hp
   refine go ?_
   refine aK ih (i+1) rfl ⟨aj,nE hb hx hp⟩ aj bO (ak.pick [1,0] rfl)
 ·intro eN
  refine go ?_
  have:i=l.length:=by omega
  subst this
  refine aL hR Tryz.func427 rfl _ rfl ⟨by rw[ki (fun x hx=>hb x (by simpa using hx))];rfl,rfl⟩ (ak.fin [0,1] 0 zr zr)
end Go.Proofs.YtjpboghdolfekaaGreatDoor
namespace Go.Proofs.YtjpboghdolfekaaGreatDoor
open Go Go.SL
def qL:Int→List (List UInt8)→List (Int × List UInt8)
 | _,[]=>[]
 | i,x::l=>(i,x)::qL (i+1) l
def EA(k:UInt8)(d:Dg)(ls:List (List UInt8)):List (Int × List UInt8):=(1,[k])::(2,d.bs)::qL 3 ls
def xL(k:UInt8)(d:Dg)(ls:List (List UInt8)):List UInt8:=eA (EA k d ls)
theorem BU:∀(i:Int) (l:List (List UInt8)) (x:List UInt8),qL i (l++[x])=qL i l++[(i+l.length,x)]
 | i,[],x=>by simp[qL]
 | i,y::l,x=>by
  simp only[List.cons_append,qL,BU (i+1) l x,List.length_cons,List.cons_append]
  grind
theorem yJ:∀(i:Int) (l:List (List UInt8)) (last:Int),last<i→i+l.length≤64→eP last (qL i l)=true
 | i,[],last,h,h2=>rfl
 | i,y::l,last,h,h2=>by
  simp only[qL,eP,List.length_cons]at h2 ⊢
  rw[decide_eq_true h,decide_eq_true (show i≤63 by omega),yJ (i+1) l i aj aj]
  rfl
theorem IV{n:Int}{b:List UInt8}(h:b.length≤32):(ly (n,b)).length≤34:=by
 grind [uv,gV,ly]
theorem BT:∀(i:Int) (l:List (List UInt8)) (z:Int × List UInt8),z∈qL i l→z.2∈l
 | i,[],z,h=>by cases h
 | i,y::l,z,h=>by
  rcases List.mem_cons.1 h with rfl|h
  ·grind
  ·exact List.mem_cons_of_mem _ (BT (i+1) l z h)
theorem vm:∀(i:Int) (l:List (List UInt8)),(qL i l).length=l.length
 | i,[]=>rfl
 | i,y::l=>by simp[qL,vm (i+1) l]
theorem GH:∀(l:List (Int × List UInt8)),(∀z∈l,z.2.length≤32)→(eA l).length≤34*l.length
 | [],_=>by simp[eA]
 | z::l,h=>by
  have h1:=GH l (fun w hw=>h w (List.mem_cons_of_mem _ hw))
  grind [IV,eA,ly]
theorem vo(k:UInt8)(d:Dg)(ls:List (List UInt8))(hl:ls.length≤20)(hx:∀x∈ls,x.length≤32):(xL k d ls).length≤748:=by
 have:=GH (EA k d ls) (fun z hz=>by
  unfold EA at hz
  rcases List.mem_cons.1 hz with rfl|hz
  ·simp
  rcases List.mem_cons.1 hz with rfl|hz
  ·simp only;rw[d.len];omega
  ·exact hx _ (BT 3 ls z hz))
 grind [EA,vm,xL]
theorem Ip(k:UInt8)(d:Dg)(ls:List (List UInt8))(hl:ls.length≤20):eP 0 (EA k d ls)=true:=by
 grind [EA,eP,yJ]
attribute [local irreducible] J K aw Ends ag aH au bE aW aJ a6 aZ bI aG
theorem vl(k:UInt8)(d:Dg)(Z:HP)(mv:Value)(ls:List (List UInt8))(hv:qx Z mv ls)(hl:ls.length≤20)(aey:∀x∈ls,x.length≤32) :
  aw Tryz.prog 321 [u8 k,dV d,mv] [Z] (fun r H=>H=[aH 5 1 r (xL k d ls).length (bV (xL k d ls)),Z]):=by
 have E8:=vo k d ls hl aey
 have hrr:=Ip k d ls hl
 obtain⟨cs,dt,jF,⟨a2,c2,rfl,hc2⟩,n5⟩:=hv
 unfold dV
 refine aw.ao Tryz.func321 Tryz.ntmps321 fun G F R hE=>?_
 refine aN rfl ?_
 refine bC zr zr bq ?_
 intro b4
 refine go ?_
 refine aq (cs:=bV [k]) zr zr zr zr zr zr zr zr zr bq ?_
 intro r0
 refine go ?_
 refine jw (U:=aY) zr zr zr zr zr (go ?_)
 obtain⟨tZ,vX⟩:∃tZ:List It,tZ=[⟨1,.slice (some ⟨r0,0,none⟩) 1 1,[k]⟩,⟨2,.slice (some ⟨b4,0,none⟩) 32 32,d.bs⟩]:=⟨_,rfl⟩
 have h2l:tZ.length=2:=by rw[vX];rfl
 refine aq (cs:=tZ.flatMap kf) zr zr zr zr zr zr zr zr (by rw[vX];rfl) bq ?_
 intro row
 refine go ?_
 obtain⟨Y,hY⟩:∃Y,Y=Sep [ag r0 (cl (bV [k]) 5),ag b4 (cl (dC d) 35),Z]:=⟨_,rfl⟩
 have hYZ:∀h,Y h→∃h',sub h' h∧Z h':=by rw[hY];exact bz (i:=2) rfl
 have hB0:∀z∈tZ,fb Y z.v z.b:=by
  intro z hz
  rw[vX]at hz
  simp only[List.mem_cons,List.not_mem_nil,or_false]at hz
  rcases hz with rfl|rfl
  ·rw[hY];exact fb.mono (⟨Vw.ag rfl,_,_,rfl,Nat.le_refl _⟩) (bz (i:=0) rfl)
  ·rw[hY];exact(fb.block d.len (eF d)).mono (bz (i:=1) rfl)
 have G6:tZ.map It.p=(1,[k])::(2,d.bs)::qL 3 (ls.take 0):=by rw[vX];rfl
 refine ai (H':=aH 247 2 (.slice (some ⟨row,0,none⟩) tZ.length 2) tZ.length (tZ.flatMap kf)::Y::F) ?_ ?_
 ·rw[hY]
  refine ak.trans (H2:=ag r0 (cl (bV [k]) 5)::ag b4 (cl (dC d) 35)::Z::ag row (cl (tZ.flatMap kf++[]) 247)::F) (by rw[List.append_nil];exact ah) ?_
  refine(ak.bT [_,_,_] _).trans ?_
  refine(ak.perm (List.Perm.swap ..)).trans ?_
  rw[h2l]
  exact eW 247 2 row 2 2 (tZ.flatMap kf) [] _ (by rw[vX];rfl) (Nat.le_refl _) (by rw[vX];simp[kf])
 refine bj (fun y:Nat × List It × Option Addr × Nat=>y.1≤ls.length∧y.2.1.map It.p=(1,[k])::(2,d.bs)::qL 3 (ls.take y.1)∧∀z∈y.2.1,fb Y z.v z.b) (fun y=>ls.length-y.1)
  (fun y=>[(7,.slice y.2.2.1 y.2.1.length y.2.2.2),(18,.slice a2 ls.length c2),(19,.int .i64 (ls.length:Int)),(20,.int .i64 (y.1:Int))])
  (fun y=>aH 247 2 (.slice y.2.2.1 y.2.1.length y.2.2.2) y.2.1.length (y.2.1.flatMap kf)::Y::F) (0,tZ,some ⟨row,0,none⟩,2) ⟨Nat.zero_le _,G6,hB0⟩ rfl (by rw[h2l];exact bO) ah ?_
 clear G6 hB0 h2l vX
 rintro⟨i,eJ,ia,ic⟩⟨hi,qf,uD⟩ ih
 simp only at hi qf uD
 dsimp only
 have adt:eJ.length=i+2:=by
  have:=congrArg List.length qf
  grind [vm]
 refine go ?_
 refine aD zr zr ?_ ?_
 ·intro cB
  have dP:i<ls.length:=by omega
  obtain⟨x,hx⟩:∃x,ls[i]?=some x:=⟨ls[i],by simp⟩
  obtain⟨cv,CP,tM⟩:=n5 i x hx
  obtain⟨xa,xc,rfl,hxc⟩:=tM.2
  obtain⟨b,o,fX,eR⟩:=dt.some (by intro h;rw[h]at jF;simp at jF;omega)
  simp only[Value.slice.injEq]at eR
  obtain⟨rfl,_,rfl⟩:=eR
  have aeC:=dt.mono hYZ
  refine go ?_
  refine bD i zr zr zr zr zr zr zr zr dP ?_
  refine aS ?_
  refine aP 1 i zr zr zr aeC rfl CP zr zr (go ?_)
  refine aq (cs:=kf ⟨3+(i:Int),.slice xa x.length xc,x⟩) zr zr zr zr zr zr zr zr zr bq ?_
  intro Ik
  refine go ?_
  refine aU (mm:=1) (news:=kf ⟨3+(i:Int),.slice xa x.length xc,x⟩) 1 0 rfl rfl rfl rfl rfl rfl rfl rfl rfl rfl rfl rfl (Vw.ag rfl) rfl (by intro v hv;simp[kf]at hv;rcases hv with rfl|rfl <;> rfl) aj (by show(_+_)*32≤_;omega) (fun _=>rfl) bq ?_
  intro v1
  rw[show eJ.flatMap kf++kf (⟨3+(i:Int),.slice xa x.length xc,x⟩:It)=(eJ++[(⟨3+(i:Int),.slice xa x.length xc,x⟩:It)]).flatMap kf from by simp,show eJ.length+1=(eJ++[(⟨3+(i:Int),.slice xa x.length xc,x⟩:It)]).length from by simp]
  refine aM 1 rfl ?_
  rintro ja jc rfl
  have MH:(eJ++[(⟨3+(i:Int),.slice xa x.length xc,x⟩:It)]).map It.p=(1,[k])::(2,d.bs)::qL 3 (ls.take (i+1)):=by
   rw[List.map_append,qf,List.take_add_one,hx,Option.toList_some,BU,List.length_take,Nat.min_eq_left aj]
   rfl
  refine go ?_
  refine aK ih (i+1,eJ++[(⟨3+(i:Int),.slice xa x.length xc,x⟩:It)],ja,jc) rfl ⟨by simp only;omega,MH,fun z hz=>(by rcases List.mem_append.1 hz with h|h;exact uD z h;rw[List.mem_singleton.1 h];exact tM.mono hYZ)⟩ (by simp only;omega) bO ah
 ·intro eN
  have tK:i=ls.length:=by omega
  subst tK
  rw[List.take_length]at qf
  have aaq:eJ.map It.p=EA k d ls:=qf
  clear ih
  refine dz 0 rfl ?_
  intro hvi
  have CJ:=lQ (Sep [aH 247 2 (.slice ia eJ.length ic) eJ.length (eJ.flatMap kf),Y]) (.slice ia eJ.length ic) eJ ⟨hvi.mono (bz (i:=0) rfl),fun z hz=>(uD z hz).mono (bz (i:=1) rfl)⟩ aj (by rw[aaq];exact hrr) (by rw[aaq];exact Nat.le_trans E8 aj)
  rw[aaq]at CJ
  refine go ?_
  refine aR (ak.bT [_,_] _) ?_
  refine az CJ ?_
  rintro _ _⟨rr,rfl,rfl⟩
  refine go ?_
  refine ai (ak.cons _ (ak.cL [_,_] _)) ?_
  refine ai (H':=Y::aH 5 1 rr (xL k d ls).length (bV (xL k d ls))::F) ah ?_
  rw[hY]
  refine ai (ak.cL [_,_,_] _) ?_
  refine ai (H':=aH 5 1 rr (xL k d ls).length (bV (xL k d ls))::Z::F) ah ?_
  refine aL hE Tryz.func321 rfl _ zr zr ah
def nC(x:Bl):List (List UInt8):=[uv x.size.toNat,uv x.piece.toNat,x.root.bs]
def eT(x:Bl):List UInt8:=xL 1 x.d (nC x)
theorem wU(x:Bl)(hs:x.size≤1000000000000)(hp:x.piece≤1000000000000):∀b∈nC x,b.length≤32:=fun b hb=>by
 simp only[nC,List.mem_cons,List.not_mem_nil,or_false]at hb
 rcases hb with rfl|rfl|rfl
 ·grind [om]
 ·grind [om]
 ·rw[x.root.len];omega
def ya(x:Bl)(hs:0≤x.size∧x.size≤1000000000000)(hp:0≤x.piece∧x.piece≤1000000000000) :
  aw Tryz.prog 204 [l7 x] [] (fun r H=>H=[aH 5 1 r (eT x).length (bV (eT x))]):=by
 obtain⟨sz,js⟩:∃m:Nat,x.size=m:=⟨x.size.toNat,aj⟩
 obtain⟨pc,QG⟩:∃m:Nat,x.piece=m:=⟨x.piece.toNat,aj⟩
 have hlen:=wU x hs.2 hp.2
 unfold l7
 refine aw.ao Tryz.func204 Tryz.ntmps204 fun G F R hE=>?_
 refine aN rfl ?_
 refine bC zr zr bq ?_
 intro b1
 refine go ?_
 refine aO (fun w=>Sat G w ([ag b1 (cl (dN x) 182)])) (cM 0 5 (cM 6 3 (.st 10 (.st 11 (.act 5 (.act 9 (.act 12 (.act 13 (.st 14 .nil))))))))) rfl ae ae ae dv ?_
 (repeat(first|refine eK ?_|refine cE (U:=aY) 0 zr zr zr zr zr zr ?_|refine jw (U:=aY) zr zr zr zr zr ?_))
 refine aC 7 ((.int .u64 (sz:Int))) rfl ((congrArg (Value.int .u64) js)) ?_
 refine aC 11 ((.int .u64 (pc:Int))) rfl ((congrArg (Value.int .u64) QG)) ?_
 refine cP (kR sz aj) ?_
 rintro r8 _ rfl
 refine aM 0 rfl ?_
 rintro a8 c8 rfl
 refine go ?_
 refine cP (kR pc aj) ?_
 rintro r9 _ rfl
 refine aM 0 rfl ?_
 rintro a9 c9 rfl
 refine iA (bs:=uv pc) 0 rfl ?_
 intro hb9
 refine iA (bs:=uv sz) 1 rfl ?_
 intro hb8
 refine go ?_
 obtain⟨cs,jy⟩:∃cs:List Value,cs=[.slice a8 (uv sz).length c8,.slice a9 (uv pc).length c9,.slice (some ⟨b1,34,none⟩) 32 32]:=⟨_,rfl⟩
 refine aq (cs:=cs) zr zr zr zr zr zr zr zr (by rw[jy];rfl) (fun _ _ hw=>hw.cp ah) ?_
 intro row
 have mz:qx (Sep [ag row (cl cs 37),aH 5 1 (.slice a8 (uv sz).length c8) (uv sz).length (bV (uv sz)),aH 5 1 (.slice a9 (uv pc).length c9) (uv pc).length (bV (uv pc)),ag b1 (cl (dN x) 182)]) (.slice (some ⟨row,0,none⟩) 3 3) (nC x):=by
  refine⟨cs,(Vw.ag (by rw[jy];rfl)).mono (bz (i:=0) rfl),by rw[jy];rfl,⟨_,_,rfl,Nat.le_refl _⟩,fun i y hy=>?_⟩
  have aeN:x.size.toNat=sz:=by omega
  have aeU:x.piece.toNat=pc:=by omega
  unfold nC at hy
  rw[aeN,aeU]at hy
  match i,hy with
  | 0,hy=>cases hy;exact⟨_,by rw[jy];rfl,hb8.mono (bz (i:=1) rfl)⟩
  | 1,hy=>cases hy;exact⟨_,by rw[jy];rfl,hb9.mono (bz (i:=2) rfl)⟩
  | 2,hy=>cases hy;exact⟨_,by rw[jy];rfl,(fb.ZS x.root.len (by rw[← eF];exact P3 x)).mono (bz (i:=3) rfl)⟩
  | i+3,hy=>simp at hy
 have O9:=vl 1 x.d _ _ (nC x) mz (by simp[nC]) hlen
 unfold dV at O9
 clear mz
 clear jy
 refine go ?_
 refine aR (ak.trans (H2:=ag row (cl cs 37)::aH 5 1 (.slice a8 (uv sz).length c8) (uv sz).length (bV (uv sz))::aH 5 1 (.slice a9 (uv pc).length c9) (uv pc).length (bV (uv pc))::ag b1 (cl (dN x) 182)::F) ah (ak.bT [_,_,_,_] _)) ?_
 refine dM rfl rfl rfl rfl O9 ah ?_ (fun _ _ w hp hw=>by obtain rfl:=hp;exact hw.cp (ak.trans (ak.pick [1] rfl) (ak.trans (ak.cL [_,_,_,_] _) ah)))
 rintro rr _ rfl
 refine go ?_
 refine ai (H':=aH 5 1 rr (eT x).length (bV (eT x))::F) ah ?_
 refine aL hE Tryz.func204 rfl _ zr zr ah
end Go.Proofs.YtjpboghdolfekaaGreatDoor
namespace Go.Proofs.YtjpboghdolfekaaGreatDoor
open Go Go.SL
def JG(e:TypeId)(H:List HP):ak H (a6 e []::H):=ak.jO H
attribute [local irreducible] J K aw Ends ag aH au bE aW aJ a6 aZ bI aG
def Jr(x:Bl):aw Tryz.prog 198 [l7 x] [] (fun r H=>∃y:Tk,r=ptr y.yb∧H=[pL y]∧y.x=x∧(y.n:Int)=fT x∧y.ws=List.replicate ((y.n+63)/64) 0#64∧y.pf=fun _=>none):=by
 have jF:=zk x
 obtain⟨n,hn⟩:∃n:Nat,fT x=n:=⟨(fT x).toNat,aj⟩
 have hc:=sX x
 rw[hn]at hc
 have Mx:=N7 n aj
 unfold l7 at hc ⊢
 unfold lI at Mx
 refine aw.ao Tryz.func198 Tryz.ntmps198 fun G F R hE=>?_
 refine aN rfl ?_
 refine bC zr zr bq ?_
 intro b1
 refine go ?_
 refine aV (U:=aY) (l:=dN x) 0 zr zr zr zr zr zr ?_
 refine aF hc ?_
 refine go ?_
 refine az Mx ?_
 rintro _ _⟨sb,wv,rfl,rfl⟩
 refine go ?_
 refine aR (H':=ag b1 (cl (dN x) 182)::ag sb (cl [.int .i64 (n:Int),wv] 460)::aH 38 1 wv (List.replicate ((n+63)/64) 0#64).length (qV (List.replicate ((n+63)/64) 0#64))::F) ah (go ?_)
 refine aV (U:=aY) (l:=dN x) 0 zr zr zr zr zr zr (go ?_)
 refine dA rfl bq ?_
 intro mb
 refine aR (ak.fold (B:=[_]) (A:=au (Value.int .i64) mb []) (fun h hs=>⟨h,sub.refl h,eX (Value.int .i64) mb h (cT hs)⟩)) ?_
 refine go ?_
 refine bC zr zr bq ?_
 intro yb
 refine go ?_
 obtain⟨y,hy⟩:∃y:Tk,y=⟨yb,sb,mb,x,n,List.replicate ((n+63)/64) 0#64,fun _=>none⟩:=⟨_,rfl⟩
 have hR:Hw (wv,[],[]) y:=fun k=>by rw[hy];rfl
 refine ai (H':=Bw y (wv,[],[])++F) ?_ ?_
 ·rw[hy]
  unfold Bw
  exact ak.trans (JG 35 _) ah
 refine ai (mP hR F) ?_
 ((refine ad hE Tryz.func198 zr zr ⟨y,by rw[hy];rfl,rfl,by rw[hy],by rw[hy];exact hn.symm,by rw[hy],by rw[hy]⟩))
def Tk.put(y:Tk)(i:Nat)(l:List Dg):Tk:=⟨y.yb,y.sb,y.mb,y.x,y.n,mZ y.ws i true,fun j=>if j=(i:Int)then some l else y.pf j⟩
def KP(y:Tk)(i:Nat)(hi:i<y.n)(hn:y.n≤65536)(hw:y.n≤y.ws.length*64)(P:HP)(pv:Value)(l:List Dg)(hv:Vw P pv l.length (l.flatMap dC))(hl:l.length≤1000000) :
  aw Tryz.prog 319 [ptr y.yb,.int .i64 (i:Int),pv] [pL y,P] (fun r H=>r = .tuple #[]∧H=[pL (y.put i l),P]):=by
 have jF:=xx P pv l hv hl
 obtain⟨a,c,rfl⟩:=hv.shape
 refine aw.ao Tryz.func319 Tryz.ntmps319 fun G F R hE=>?_
 refine cG (jz y) ?_
 rintro⟨wv,cs,M⟩ hz
 have xR:=DR y.sb y.n wv y.ws hn hw i hi true
 unfold lI at xR
 refine ai (H':=ag y.yb (cl (uu y) 221)::ag y.sb (cl [.int .i64 (y.n:Int),wv] 460)::aH 38 1 wv y.ws.length (qV y.ws)::au (Value.int .i64) y.mb cs::a6 35 M::P::F) (by unfold Bw;exact ah) ?_
 refine go ?_
 refine aF xR ?_
 refine go ?_
 refine aO (fun w=>Sat G w ([ag y.yb (cl (uu y) 221)])) (cM 0 6 (.act 6 (.act 7 .nil))) rfl ae ae ae dv ?_
 refine go ?_
 refine cP jF ?_
 rintro r8 _ rfl
 refine go ?_
 refine aR (H':=au (Value.int .i64) y.mb cs::aH 35 32 r8 l.length (l.flatMap dC)::a6 35 M::ag y.yb (cl (uu y) 221)::ag y.sb (cl [.int .i64 (y.n:Int),wv] 460)::aH 38 1 wv (mZ y.ws i true).length (qV (mZ y.ws i true))::P::F) ah ?_
 refine du (kv:=Value.int .i64) (es:=cs) (key:=(i:Int)) (v:=r8) 0 (qc Tryz.underlying3) fE zr zr zr zr zr zr zr zr (go ?_)
 refine ai (ak.perm (List.Perm.swap ..)) ?_
 refine ai (H':=aH 35 32 r8 l.length (l.flatMap dC)::a6 35 M::au (Value.int .i64) y.mb (gT cs (i:Int) r8)::ag y.yb (cl (uu y) 221)::ag y.sb (cl [.int .i64 (y.n:Int),wv] 460)::aH 38 1 wv (mZ y.ws i true).length (qV (mZ y.ws i true))::P::F) ah ?_
 refine ai (ak.join _ _ _) ?_
 refine cG (BN 35 32 l.length r8 (l.flatMap dC) M) ?_
 rintro M'⟨afA,cH⟩
 have hz':Hw (wv,gT cs (i:Int) r8,M') (y.put i l):=Hw.put hz (i:Int) r8 wv l M' cH afA _ rfl
 refine ai (H':=Bw (y.put i l) (wv,gT cs (i:Int) r8,M')++(P::F)) (by unfold Bw;exact ah) ?_
 refine ai (mP hz' _) ?_
 refine bB hE Tryz.func319 rfl _ rfl ⟨rfl,rfl⟩ ah
theorem yh(v:Value)(l:List Tk)(X:HP)(g:FuncId)(cap:List Value)(p:Tk→Bool)(hlen:l.length≤1000000)(hf:∀x∈l,aw Tryz.prog g (ptr x.yb::cap) [X] (fun v H=>v = .bool (p x)∧H=[X])) :
  aw Tryz.prog 314 [v,.func (.func g) #[] cap.toArray] [aH 217 1 v l.length (l.map gn),X]
   (fun r H=>H=[aH 217 1 r (l.filter fun x => !p x).length ((l.filter fun x => !p x).map gn),X]):=by
 refine aw.ao Tryz.func314 Tryz.ntmps314 fun G F R hE=>?_
 refine cU 0 rfl ?_
 rintro a0 c rfl
 refine go ?_
 refine eL 0 rfl ?_
 intro hv
 refine bS [0,1] zr zr zr zr (Bb _ X _ l hv hlen g cap p hf) rfl iM ?_
 rintro _ _⟨rfl,rfl⟩
 refine go ?_
 refine aD zr zr ?_ ?_
 ·intro h0
  have nZ:l.any p=false:=kJ.1 aj
  have q5:(l.filter fun x => !p x)=l:=List.filter_eq_self.2 fun x hx=>by
   grind
  rw[q5]at hE
  refine go ?_
  refine aL hE Tryz.func314 rfl _ zr zr (ak.fin [0,1] 0 zr zr)
 ·intro h0
  obtain⟨i0,x0,Jb,Z',G6,CQ⟩:=qd h0
  have adz:i0<l.length:=by
   grind
  rw[Jb]
  refine go ?_
  refine nG (fun a qu hn _=>by omega) ?_
  rintro b o c' pre junk vS gZ hnc fF jF
  simp only[Value.slice.injEq,true_and]at vS
  obtain⟨rfl,rfl⟩:=vS
  have h1:l.take (i0+1)=l.take i0++[x0]:=by rw[List.take_add_one,Z'];rfl
  have DX:(l.take i0).filter (fun x => !p x)=l.take i0:=List.filter_eq_self.2 fun x hx=>by simp[CQ x hx]
  refine bj (fun s:Nat × Nat × List Tk=>s.1<s.2.1∧s.2.1≤l.length∧s.2.2.length=l.length∧s.2.2.take s.1=(l.take s.2.1).filter (fun x => !p x)∧s.2.2.drop s.2.1=l.drop s.2.1) (fun s=>l.length-s.2.1)
   (fun s=>[(0,.slice (some ⟨b,o,none⟩) l.length c),(1,.func (.func g) #[] cap.toArray),(5,.int .i64 s.1),(6,.int .i64 s.2.1)])
   (fun s=>ag b (cl (pre++s.2.2.map gn++junk) 217)::X::F) (i0,i0+1,l) ⟨by simp,by simp only;omega,rfl,by simp only[h1,List.filter_append,DX];simp[G6],rfl⟩ rfl bO (ak.refl _) ?_
  rintro⟨i,j,E⟩⟨I',Ff,DY,tN,Hi⟩ ih
  simp only at I' Ff DY tN Hi
  have k4:(E.map gn).length=l.length:=by rw[List.length_map,DY]
  have hvE:Vw (ag b (cl (pre++E.map gn++junk) 217)) (.slice (some ⟨b,o,none⟩) l.length c) l.length (E.map gn):=Vw.ag (by rw[List.append_assoc,← gZ,List.drop_left,List.take_left])
  refine go ?_
  refine aD zr zr ?_ ?_
  ·intro cB
   simp only at cB
   have pG:j<l.length:=by omega
   obtain⟨x,hx⟩:∃x,l[j]?=some x:=⟨l[j],by simp[pG]⟩
   have hEx:E[j]?=some x:=by
    have:=congrArg (·[0]?) Hi
    grind
   have dU:=List.mem_of_getElem? hx
   have Ps:=hf _ dU
   refine go ?_
   refine bD j zr zr zr zr zr zr zr zr pG ?_
   refine aS ?_
   refine aP 0 j zr zr zr hvE rfl (qD hEx) zr zr (go ?_)
   refine bS [1] zr zr zr zr (Ps) rfl iM ?_
   rintro _ _⟨rfl,rfl⟩
   refine go ?_
   refine ep zr zr ?_ ?_
   ·intro hp
    have qv:p x=false:=by simpa using hp
    refine go ?_
    refine bD i zr zr zr zr zr zr zr zr aj ?_
    refine iz (U:=aY) (l':=pre++(E.set i x).map gn++junk) 1 fE zr zr zr zr zr zr zr ?_ ?_ rfl ?_
    ·show o+i+1≤_
     rw[List.length_append,List.length_append,k4];omega
    ·show _=List.take (o+i) (pre++E.map gn++junk)++[gn x]++List.drop (o+i+1) (pre++E.map gn++junk)
     have hs:=kD pre (E.map gn) junk [gn x] i (by rw[k4];simp only[List.length_singleton];omega)
     rw[← gZ]
     simp only[List.length_singleton]at hs
     rw[hs,List.map_set,List.set_eq_take_append_cons_drop,if_pos (by rw[k4];omega)]
     simp
    refine go ?_
    refine aK ih (i+1,j+1,E.set i x) rfl ⟨by simp only;omega,by simp only;omega,by simp only[List.length_set];exact DY,?_,?_⟩ (by simp only;omega) bO ah
    ·simp only
     rw[List.take_add_one,List.take_set_of_le (Nat.le_refl i),tN,List.take_add_one (l:=l),hx,List.getElem?_set_self aj]
     simp[List.filter_append,qv]
    ·simp only
     rw[List.drop_set_of_lt aj,← List.drop_drop,Hi,List.drop_drop]
   ·intro hp
    have qv:p x=true:=by simpa using hp
    refine go ?_
    refine aK ih (i,j+1,E) rfl ⟨by simp only;omega,by simp only;omega,DY,by simp only;rw[tN,List.take_add_one,hx];simp[List.filter_append,qv],by simp only;rw[← List.drop_drop,Hi,List.drop_drop]⟩ (by simp only;omega) bO ah
  ·intro eN
   refine go ?_
   simp only at eN
   have hjn:j=l.length:=by omega
   subst hjn
   rw[List.take_length]at tN
   have qY:(l.filter fun x => !p x).length=i:=by rw[← tN,List.length_take];omega
   refine iF zr zr zr zr zr zr zr aj aj (.inl rfl) ?_
   intro o1 G8 QH
   simp only[Int.toNat_natCast]at G8 QH
   have CA:i≠c→o1=o+i:=fun h=>by have h2:o1=o+i*1:=G8 h;omega
   have hL:(pre++E.map gn++junk).length=o+l.length+junk.length:=by rw[List.length_append,List.length_append,k4,gZ]
   obtain⟨kH,CG,adq⟩:∃kH,(pre++E.map gn++junk).take o1++(List.replicate (((l.length:Int).toNat-(i:Int).toNat)) [Value.pointer none]).flatten++(pre++E.map gn++junk).drop (o1+((l.length:Int).toNat-(i:Int).toNat)*1)=pre++(E.take i).map gn++kH∧c*1≤i*1+kH.length:=by
    have MJ:i≠c:=by omega
    rw[CA MJ,← gZ,List.append_assoc pre,List.take_length_add_append,List.take_append_of_le_length (by rw[k4];omega),List.map_take]
    grind [iU]
   refine A9 (U:=aY) (l':=pre++(E.take i).map gn++kH) 0 fE zr zr zr zr zr zr zr zr ?_ ?_ rfl ?_
   ·have MJ:i≠c:=by omega
    show o1+((l.length:Int).toNat-(i:Int).toNat)*1≤_
    rw[CA MJ,hL];omega
   ·rw[← CG];rfl
   refine go ?_
   refine iF zr zr zr zr zr zr zr aj aj (.inr aj) ?_
   intro o2 ho3 ho4
   have Mu:o2=o:=by
    grind
   subst Mu
   refine go ?_
   refine ai (fQ (sz:=1) (nn:=i) (c:=c) gZ aj (by rw[List.length_map,List.length_take,Nat.min_eq_left aj];omega) (by rw[List.length_map,List.length_take];omega) _) ?_
   rw[← tN,tN,qY,← tN]at hE
   refine aL hE Tryz.func314 rfl _ zr zr (ak.fin [0,1] 0 zr zr)
def BR(ts:List Tk)(d:Dg)(bx:Nat)(y:Tk)(hy:y∈ts):aw Tryz.prog 315 [ptr y.yb,ptr bx] [Sep [cD ts,ag bx (cl (dC d) 35)] ] (fun r H=>r = .bool (decide (y.x.d=d))∧H=[Sep [cD ts,ag bx (cl (dC d) 35)] ]):=by
 obtain⟨i,hi⟩:=List.mem_iff_getElem?.1 hy
 refine aw.ao Tryz.func315 Tryz.ntmps315 fun G F R hE=>?_
 refine ai (ak.cL [_,_] _) ?_
 refine ai (zL hi _) ?_
 refine cG (jz y) ?_
 rintro z hz
 refine ai (H':=ag y.yb (cl (uu y) 221)::ag bx (cl (dC d) 35)::ag y.sb (cl [.int .i64 (y.n:Int),z.1] 460)::aH 38 1 z.1 y.ws.length (qV y.ws)::au (Value.int .i64) y.mb z.2.1::a6 35 z.2.2::cD (ts.take i++ts.drop (i+1))::F) ah (go ?_)
 refine aO (fun w=>Sat G w ([ag y.yb (cl (uu y) 221),ag bx (cl (dC d) 35)])) (cM 0 8 .nil) rfl ae ae ae dv ?_
 refine go ?_
 refine cE (U:=aY) 0 zr zr zr zr zr zr (go ?_)
 refine cm (U:=aY) (l:=dC d) 1 zr zr zr zr zr zr (go ?_)
 refine nM (b:=decide (y.x.d=d)) zr zr zr Jl (fun w=>Jx y.x.d d w) ?_
 refine go ?_
 refine ai (H':=Bw y z++(cD (ts.take i++ts.drop (i+1))::ag bx (cl (dC d) 35)::F)) (by unfold Bw;exact ah) ?_
 refine ai (mP hz _) ?_
 refine ai (Gw hi _) ?_
 refine ai (ak.bT [_,_] _) ?_
 refine ad hE Tryz.func315 zr zr ⟨rfl,rfl⟩
end Go.Proofs.YtjpboghdolfekaaGreatDoor
namespace Go.Proofs.YtjpboghdolfekaaGreatDoor
open Go Go.SL
def p4(q:Tk→Bool):∀(ts:List Tk) (H:List HP),ak (cD ts::H) (cD (ts.filter q)::H)
 | [],H=>ak.refl _
 | y::ts,H=>by
  have h1:ak (cD (y::ts)::H) (pL y::cD ts::H):=zK [] ts y H
  by_cases hq:q y=true
  ·rw[List.filter_cons_of_pos hq]
   have h2:ak (pL y::cD (ts.filter q)::H) (cD (y::ts.filter q)::H):=uV [] (ts.filter q) y H
   exact h1.trans ((ak.cons _ (p4 q ts H)).trans h2)
  ·rw[List.filter_cons_of_neg hq]
   exact h1.trans ((ak.drop _ _).trans (p4 q ts H))
def OE(ts:List Tk)(d:Dg):List Tk:=ts.filter fun y => !decide (y.x.d=d)
attribute [local irreducible] J K aw Ends ag aH au bE aW aJ a6 aZ bI aG
def Ez(tb bs jb:Nat)(tv:Value)(br:Bool)(ts:List Tk)(d:Dg)(hl:ts.length≤1000000):aw Tryz.prog 195 [ptr tb,dV d] (kC tb bs jb tv ts br)
  (fun r H=>r = .tuple #[]∧∃HV,H=kC tb bs jb HV (OE ts d) br):=by
 refine aw.ao Tryz.func195 Tryz.ntmps195 fun G F R hE=>?_
 refine cU 1 rfl ?_
 rintro a c rfl
 refine aN rfl ?_
 refine bC zr zr bq ?_
 intro b3
 refine go ?_
 refine aR (ak.pick [1,2,3] rfl) ?_
 refine aR (ak.cons _ (ak.cons _ (ak.bT [_,_] _))) (go ?_)
 refine az (yh _ ts _ 315 [ptr b3] (fun y=>decide (y.x.d=d)) hl (fun y hy=>BR ts d b3 y hy)) ?_
 rintro r _ rfl
 refine aM 0 rfl ?_
 rintro a2 c2 rfl
 refine go ?_
 refine ai (ak.pick [1,2] rfl) ?_
 refine ai (ak.cL [_,_] _) ?_
 refine ai (p4 (fun y => !decide (y.x.d=d)) ts _) ?_
 refine bB hE Tryz.func195 rfl _ rfl ⟨rfl,_,rfl⟩ ah
end Go.Proofs.YtjpboghdolfekaaGreatDoor
namespace Go.Proofs.YtjpboghdolfekaaGreatDoor
open Go Go.SL
def l8(bs bd jb:Nat)(q:Int)(mb:Nat)(Xs:List HP)(x:SJ):HP:=Sep (p5 bs bd q mb x.1++(Md jb bd kZ x.2::Xs))
attribute [local irreducible] J K aw Ends ag aH au bE aW aJ a6 aZ bI aG
def eH(s:nV)(x:Bl)(i:Int):List UInt8 × Nat:=if vv s.cy x then(match qG x i with
 | none=>([],1)
 | some (a,n)=>s.A.read (eZ kS x.d) a n)else([],4)
def FX(bs bd:Nat)(q:Int)(mb:Nat)(s:nV)(x:Bl)(i:Int):aw Tryz.prog 207 [ptr bs,l7 x,.int .i64 i] (p5 bs bd q mb s)
  (fun r H=>∃rv,r = .tuple #[rv,.int .i64 ((eH s x i).2:Int)]∧H=aH 5 1 rv (eH s x i).1.length (bV (eH s x i).1)::p5 bs bd q mb s):=by
 obtain⟨A,cy,brk⟩:=s
 have ho:=LM bs bd q mb brk cy x
 have DV:=Dh x i
 have hf:=oR kS x.d (by decide)
 unfold l7 dV at *
 unfold p5
 dsimp only
 refine aw.ao Tryz.func207 Tryz.ntmps207 fun G F R hE=>?_
 refine aN rfl ?_
 refine bC zr zr bq ?_
 intro b4
 refine go ?_
 refine aV (U:=aY) (l:=dN x) 0 zr zr zr zr zr zr ?_
 refine aF ho ?_
 cases hh:vv cy x with
 | false =>
  have h1:eH ⟨A,cy,brk⟩ x i=([],4):=by unfold eH;rw[if_neg (by simp[hh])]
  rw[h1]at hE
  refine go ?_
  refine ai (bp 5 1 none _) ?_
  refine ai (H':=aH 5 1 (.slice none 0 0) 0 []::ag bs (cl (dR bd q mb brk) 209)::au dV mb (eB cy)::aG bd A::F) ah ?_
  refine ad hE Tryz.func207 zr zr ⟨_,rfl,rfl⟩
 | true =>
  refine go ?_
  refine aV (U:=aY) (l:=dN x) 2 zr zr zr zr zr zr ?_
  ((refine go ?_;(refine az DV ?_)))
  rintro _ _⟨rfl,rfl⟩
  cases hs:qG x i with
  | none =>
   have h1:eH ⟨A,cy,brk⟩ x i=([],1):=by unfold eH;rw[if_pos (by simp[hh]),hs]
   rw[h1]at hE
   refine go ?_
   refine ai (bp 5 1 none _) ?_
   refine ai (H':=aH 5 1 (.slice none 0 0) 0 []::ag bs (cl (dR bd q mb brk) 209)::au dV mb (eB cy)::aG bd A::F) ah ?_
   refine ad hE Tryz.func207 zr zr ⟨_,rfl,rfl⟩
  | some an =>
   obtain⟨a,n⟩:=an
   have h1:eH ⟨A,cy,brk⟩ x i=A.read (eZ kS x.d) a n:=by unfold eH;rw[if_pos (by simp[hh]),hs]
   rw[h1]at hE
   have xD:=AT bd A (eZ kS x.d) a n
   refine go ?_
   refine ai (H':=ag b4 (cl (dN x) 182)::ag bs (cl (dR bd q mb brk) 209)::au dV mb (eB cy)::aG bd A::F) ah ?_
   refine aO (fun w=>Sat G w ([ag b4 (cl (dN x) 182),ag bs (cl (dR bd q mb brk) 209)])) (cM 0 6 (.st 7 (.st 8 (.act 6 (.act 9 (cM 10 4 .nil)))))) rfl ae ae ae dv ?_
   refine go ?_
   refine cE (U:=aY) 0 zr zr zr zr zr zr (go ?_)
   refine bP hf ?_
   refine go ?_
   ((refine dM zr zr zr zr (xD) ah ?_ (fun _ _ w hp hw=>by obtain⟨r,rfl,rfl⟩:=hp;exact hw.cp ah)))
   rintro _ _⟨r,rfl,rfl⟩
   refine go ?_
   refine ai (H':=aH 5 1 r (A.read (eZ kS x.d) a n).1.length (bV (A.read (eZ kS x.d) a n).1)::ag bs (cl (dR bd q mb brk) 209)::au dV mb (eB cy)::aG bd A::F) ah ?_
   refine ad hE Tryz.func207 zr zr ⟨_,rfl,rfl⟩
attribute [local irreducible] LI tC
theorem DL(jb bd:Nat)(name:ByteArray)(G':name.size≤1000000000)(A:Ab)(x:JN)(V:HP)(lv:Value)(ls:List (List UInt8))(hv:qx V lv ls)(hl:(ls.flatMap eo).length≤100000000)(hn:ls.length≤1000000000)(dE:A.aI.length≤900000000)(Bj:A.writes.length≤900000000) :
    aw Tryz.prog 120 [ptr jb,lv] [aG bd A,Md jb bd name x,V]
      (fun r H=>∃(e:Nat) (A':Ab) (x':JN),r = .int .i64 (e:Int)∧H=[aG bd A',Md jb bd name x',V]∧rP name A x ls e A' x'):=by
  obtain⟨n,s,c,bk⟩:=x
  have qu:=hv
  obtain⟨cs,dt,jF,⟨a,cc,rfl,hcc⟩,rU⟩:=hv
  dsimp only [Md,jr]
  refine aw.ao Tryz.func120 Tryz.ntmps120 fun G F R hE=>?_
  unfold rP at hE
  cases bk with
  | true =>
    simp only[if_true]at hE
    refine go ?_
    refine ad hE Tryz.func120 zr zr ⟨10,_,⟨n,s,c,true⟩,rfl,rfl,rfl,rfl,rfl⟩
  | false =>
    simp only[Bool.false_eq_true,if_false]at hE
    refine go ?_
    refine bj (fun i:Nat=>i≤ls.length∧∀(j:Nat) (y:List UInt8),j<i→ls[j]?=some y→y.length≤4096) (fun i=>ls.length-i)
      (fun i=>[(0,ptr jb),(0+1,.slice a ls.length cc),(5,.int .i64 (((ls.take i).flatMap eo).length:Int)),(12,.slice a ls.length cc),(13,.int .i64 ls.length),(14,.int .i64 (i:Int))])
      (fun _=>aG bd A::ag jb (cl [ptr bd,.string name,.int .i64 n,.int .i64 s,.int .i64 c,.bool false] 327)::V::F) 0 ⟨Nat.zero_le _,fun j y hj=>by omega⟩ rfl bO ah ?_
    rintro i⟨hi,nu⟩ ih
    refine go ?_
    refine aD zr zr ?_ ?_
    case' refine_1 =>
      intro cB
      have xE:i<ls.length:=by omega
      obtain⟨y,hy⟩:∃y,ls[i]?=some y:=⟨ls[i],by simp⟩
      obtain⟨cv,n5,hby⟩:=rU i y hy
      obtain⟨b1,o1,k1,pF⟩:=dt.some (by intro e;rw[e]at n5;simp at n5)
      simp only[Value.slice.injEq,true_and]at pF
      obtain⟨rfl,rfl⟩:=pF
      obtain⟨ay,ky,rfl,hky⟩:=hby.2
      have DX:=zd hy
      have q5:((ls.take (i+1)).flatMap eo).length=((ls.take i).flatMap eo).length+(eo y).length:=by rw[DX,List.length_append]
      have hle:=Hj ls (i+1)
      refine go ?_
      refine bD i zr zr zr zr zr zr zr zr xE ?_
      refine aP 2 i zr zr zr dt rfl n5 zr zr (go ?_)
      refine aD zr zr ?_ ?_
      · intro Au
        have nZ:(ls.any fun b=>decide (4096<b.length))=true:=List.any_eq_true.2 ⟨y,List.mem_of_getElem? hy,decide_eq_true aj⟩
        simp only[if_pos nZ]at hE
        refine go ?_
        refine ad hE Tryz.func120 zr zr ⟨1,_,⟨n,s,c,false⟩,rfl,rfl,rfl,rfl,rfl⟩
      intro mL
      have agl:=CZ y aj
      refine go ?_
      refine az (tP V _ y hby aj) ?_
      rintro r _ rfl
      refine aM 0 rfl ?_
      rintro ra rc rfl
      refine go ?_
      ((refine aQ 5 ((.int .i64 (((ls.take (i+1)).flatMap eo).length:Int))) rfl ((congrArg (Value.int .i64) (by rw[q5];simp))) ?_))
      refine go ?_
      refine aK ih (i+1) rfl (⟨aj,fun j z hj hz=>by
        rcases Nat.lt_or_ge j i with h|h
        · exact nu j z h hz
        · have:j=i:=by omega
          subst this
          rw[hy]at hz;cases hz;omega⟩) aj bO ah
    intro eN
    have tK:i=ls.length:=by omega
    subst tK
    rw[List.take_length]
    have nZ:¬(ls.any fun b=>decide (4096<b.length))=true:=fun h=>by
      obtain⟨y,hy,hb⟩:=List.any_eq_true.1 h
      obtain⟨j,hj,rfl⟩:=List.getElem_of_mem hy
      have:=nu j _ aj (List.getElem?_eq_getElem hj)
      grind
    simp only[if_neg nZ]at hE
    refine go ?_
    refine aD zr zr ?_ ?_
    · intro Au
      have pR:524288<(ls.flatMap eo).length:=by omega
      simp only[if_pos pR]at hE
      refine go ?_
      refine ad hE Tryz.func120 zr zr ⟨3,_,⟨n,s,c,false⟩,rfl,rfl,rfl,rfl,rfl⟩
    intro mL
    have pR:¬524288<(ls.flatMap eo).length:=by omega
    simp only[if_neg pR]at hE
    refine go ?_
    refine az (GJ jb bd name n s c false A V _ ls qu aj hn G' dE Bj) ?_
    rintro _ _⟨e,⟨A',n',s',c'⟩,rfl,rfl,xR⟩
    refine go ?_
    refine aF (FI jb bd name n' s' c' false e) ?_
    refine go ?_
    refine ad hE Tryz.func120 zr zr ⟨e,A',⟨n',s',c',decide (e≠0)⟩,rfl,rfl,_,xR,rfl,rfl⟩
end Go.Proofs.YtjpboghdolfekaaGreatDoor
namespace Go.Proofs.YtjpboghdolfekaaGreatDoor
open Go Go.SL
def jf(b:List UInt8):Option (UInt8 × Dg × List (List UInt8)):=match pB b with
 | some (x1::x2::l)=>if((x1::x2::l).getLast?.map (·.1))=some ((2+l.length:Nat):Int)∧x1.2.length=1∧x2.2.length=32 then some (x1.2.headD 0,uk x2.2,l.map (·.2))else none
 | _=>none
def qa(b:List UInt8):Option Nat:=(dj b).bind fun n=>if n≤1048576 then some n else none
def gC(b:List UInt8):Option Dg:=if b.length=32 then some (uk b)else none
def Ck(n:Nat):Int:=IntKind.u64.wrap ((BitVec.ofInt IntKind.u64.bits (n:Int) &&& BitVec.ofInt IntKind.u64.bits 4294967295).toNat:Int)
theorem yP(n:Nat):∃k:Nat,Ck n=k∧k<4294967296∧(n≤1048576→k=n):=by
 have e1:(BitVec.ofInt IntKind.u64.bits (4294967295:Int)).toNat=4294967295:=by decide
 obtain⟨k,hk⟩:∃k,k=(BitVec.ofInt IntKind.u64.bits (n:Int) &&& BitVec.ofInt IntKind.u64.bits 4294967295).toNat:=⟨_,rfl⟩
 have hle:k≤4294967295:=by
  rw[hk,BitVec.toNat_and,e1]
  exact Nat.and_le_right
 refine⟨k,?_,aj,fun hn=>?_⟩
 ·grind [Ck,cz,fZ]
 ·rw[hk,BitVec.toNat_and,e1]
  have e2:(BitVec.ofInt IntKind.u64.bits (n:Int)).toNat=n:=by
   grind
  rw[e2,show(4294967295:Nat)=2 ^ 32-1 from rfl,Nat.and_two_pow_sub_one_eq_mod]
  grind
attribute [local irreducible] J K aw Ends ag aH au bE aW aJ a6 aZ bI Sha.chunks Sha.chunk Sha.rounds Sha.sched ff cI fA Ck
def oA(X:HP)(v:Value)(b:List UInt8)(hb:fb X v b)(hl:b.length≤1000000) :
  aw Tryz.prog 196 [v] [X] (fun r H=>H=[X]∧∃k:Nat,k<4294967296∧r = .tuple #[.int .i64 (k:Int),.bool (qa b).isSome]∧∀m,qa b=some m→k=m):=by
 have htu:=kT X v b hb aj
 refine aw.ao Tryz.func196 Tryz.ntmps196 fun G F R hE=>?_
 refine go ?_
 refine aF htu ?_
 unfold qa at hE
 cases hu:dj b with
 | none =>
  rw[hu]at hE
  obtain⟨k,Kv,Bk,_⟩:=yP 0
  refine go ?_
  ((refine aC 12 ((.int .u64 (k:Int))) rfl ((congrArg (Value.int .u64) (by rw[← Kv];unfold Ck;rfl))) ?_))
  refine go ?_
  (refine ad hE Tryz.func196 zr zr ⟨rfl,k,Bk,rfl,fun m h=>by cases h⟩)
 | some n =>
  rw[hu]at hE
  simp only[Option.bind_some]at hE ⊢
  obtain⟨k,Kv,Bk,hk3⟩:=yP n
  refine go ?_
  ((refine aC 12 ((.int .u64 (k:Int))) rfl ((congrArg (Value.int .u64) (by rw[← Kv];unfold Ck;rfl))) ?_))
  refine go ?_
  by_cases hn:n≤1048576
  ·rw[if_pos hn]at hE
   refine aQ 3 ((.bool true)) rfl ((congrArg Value.bool (decide_eq_true aj))) (go ?_)
   ((refine ad hE Tryz.func196 zr zr ⟨rfl,k,Bk,rfl,fun m h=>by injection h with h;rw[← h];exact hk3 hn⟩))
  ·rw[if_neg hn]at hE
   refine aQ 3 ((.bool false)) rfl ((congrArg Value.bool (decide_eq_false aj))) (go ?_)
   (refine ad hE Tryz.func196 zr zr ⟨rfl,k,Bk,rfl,fun m h=>by cases h⟩)
def su(X:HP)(v:Value)(b:List UInt8)(hb:fb X v b)(hl:b.length≤1000000) :
  aw Tryz.prog 197 [v] [X] (fun r H=>H=[X]∧r = .tuple #[dV ((gC b).getD Dg.zero),.bool (gC b).isSome]):=by
 obtain⟨dt,a,c,rfl,hc⟩:=hb
 refine aw.ao Tryz.func197 Tryz.ntmps197 fun G F R hE=>?_
 refine aN rfl ?_
 refine aB zr zr zr bq ?_
 intro b2
 unfold gC at hE
 refine go ?_
 refine aD zr zr ?_ ?_
 ·intro gf
  rw[if_neg aj]at hE
  refine go ?_
  refine fY (U:=aY) zr zr zr zr zr (go ?_)
  (refine bh hE ?_;apply a7 (U:=aY) hE Tryz.func197 rfl (ak.refl _);(repeat(first|exact aT.nil|apply aT.tmp rfl|apply aT.agg 0 zr zr zr zr zr));exact⟨rfl,rfl⟩;exact ah)
 ·intro heq
  have h32:b.length=32:=by omega
  rw[if_pos h32]at hE
  rw[wE h32]at dt
  obtain⟨bb,oo,cc,he⟩:=dt.some (by intro h;have:=congrArg List.length h;rw[eE]at this;cases this)
  obtain⟨rfl,rfl⟩:=he
  refine go ?_
  refine zC (U:=aY) zr zr zr zr aj (go ?_)
  refine aS ?_
  refine bZ (U:=aY) (es:=dC (uk b)) 1 0 zr zr zr dt rfl (fun j v hj=>by rw[Nat.zero_add];exact hj) zr zr zr ?_
  refine go ?_
  (refine bh hE ?_;apply a7 (U:=aY) hE Tryz.func197 rfl (ak.refl _);(repeat(first|exact aT.nil|apply aT.tmp rfl|apply aT.agg 0 zr zr zr zr zr));exact⟨rfl,rfl⟩;exact ah)
def EB{b:List UInt8}(h:pB b=none):jf b=none:=by unfold jf;rw[h]
theorem BX{b:List UInt8}{xs:List (Int × List UInt8)}(h:pB b=some xs)(hl:xs.length<2):jf b=none:=by
 grind [jf]
theorem Iq{b:List UInt8}{n1 n2:Int}{b1 b2:List UInt8}{l:List (Int × List UInt8)}{n:Int}(h:pB b=some ((n1,b1)::(n2,b2)::l))(hn:(((n1,b1)::(n2,b2)::l).getLast?.map (·.1))=some n) :
  jf b=if n=((2+l.length:Nat):Int)∧b1.length=1∧b2.length=32 then some (b1.headD 0,uk b2,l.map (·.2))else none:=by
 grind [jf]
def qx.ofP{X:HP}{a:Option Addr}{c:Nat}{ls:List (List UInt8)}{cs:List Value}(hv:Vw (aH 37 1 (.slice a ls.length c) ls.length cs) (.slice a ls.length c) ls.length cs)(hc:ls.length≤c)(hl:cs.length=ls.length)(jy:∀(j:Nat) (z:List UInt8),ls[j]?=some z→∃cv,cs[j]?=some cv∧fb X cv z):qx (Sep [aH 37 1 (.slice a ls.length c) ls.length cs,X]) (.slice a ls.length c) ls :=
  ⟨cs,hv.mono (bz (i:=0) rfl),hl,⟨a,c,rfl,hc⟩,fun i x hx=>by
    obtain⟨cv,h1,h2⟩:=jy i x hx
    exact⟨cv,h1,h2.mono (bz (i:=1) rfl)⟩⟩
def CX(l:List It):l.map It.v=l.flatMap fun x=>[x.v]:=by induction l with|nil=>rfl|cons x l ih=>simp[ih]
theorem Is(X:HP)(v:Value)(b:List UInt8)(hb:fb X v b)(hl:b.length≤1000000) :
  aw Tryz.prog 194 [v] [X] (fun r H=>(jf b=none∧(∃(k:UInt8) (d:Dg) (a:Option Addr) (n c:Nat),r = .tuple #[u8 k,dV d,.slice a n c,.bool false])∧H=[X]) ∨
   ∃k d more mv Z,jf b=some (k,d,more)∧qx Z mv more∧(∀x∈more,x.length≤65536)∧more.length≤65536∧r = .tuple #[u8 k,dV d,mv,.bool true]∧H=[Z,X]):=by
 have O7:=lR X v b hb aj
 obtain⟨a,c,rfl,hc⟩:=hb.2
 refine aw.ao Tryz.func194 Tryz.ntmps194 fun G F R hE=>?_
 refine aN rfl (go ?_)
 refine aB zr zr zr bq ?_
 intro b3
 refine go ?_
 refine az O7 ?_
 rintro _ _ (⟨hn,rfl,rfl⟩|⟨xs,eJ,Z0,rv,hs,qf,⟨dt,uD⟩,rfl,rfl,ra,rc,rfl,Og⟩)
 ·have hd:=EB hn
  refine go ?_
  refine fY (U:=aY) zr zr zr zr zr (go ?_)
  (refine bh hE ?_;apply a7 (U:=aY) hE Tryz.func194 rfl (ak.refl _);(repeat(first|exact aT.nil|apply aT.tmp rfl|apply aT.agg 1 zr zr zr zr zr));exact(.inl ⟨hd,⟨0,Dg.zero,none,0,0,rfl⟩,rfl⟩);exact ah)
 have hxm:=qC hs
 have Cu:eJ.length≤65536:=by
  have h1:xs.length≤65536:=by
   unfold pB at hs
   split at hs
   ·cases hs
   ·split at hs
    ·cases hs
     have:=qB _ b (Nat.le_refl _)
     grind [dY]
    ·cases hs
  grind
 by_cases h2:eJ.length<2
 ·have hd:=BX hs (by rw[← qf,List.length_map];exact h2)
  refine go ?_
  refine aC 25 ((.bool true)) rfl ((congrArg Value.bool (decide_eq_true aj))) (go ?_)
  refine fY (U:=aY) zr zr zr zr zr (go ?_)
  (refine bh hE ?_;apply a7 (U:=aY) hE Tryz.func194 rfl (ak.refl _);(repeat(first|exact aT.nil|apply aT.tmp rfl|apply aT.agg 2 zr zr zr zr zr));exact(.inl ⟨hd,⟨0,Dg.zero,none,0,0,rfl⟩,rfl⟩);exact ah)
 obtain⟨i1,i2,rest,xT⟩:∃i1 i2 rest,eJ=i1::i2::rest:=by
  match eJ,h2 with
  | i1::i2::rest,_=>exact⟨i1,i2,rest,rfl⟩
  | [],h=>exact absurd (by simp) h
  | [_],h=>exact absurd (by simp) h
 have hlen:eJ.length=rest.length+2:=by rw[xT];rfl
 obtain⟨lst,aam⟩:∃x,eJ[rest.length+1]?=some x:=⟨eJ[rest.length+1]' aj,by simp⟩
 have lB:((eJ.map It.p).getLast?.map (·.1))=some lst.n:=by
  rw[List.getLast?_eq_getElem?,List.length_map,List.getElem?_map,show eJ.length-1=rest.length+1 from by omega,aam]
  rfl
 obtain⟨rb,ro,rcc,he⟩:=dt.some (by rw[xT];intro h;simp[kf]at h)
 simp only[Value.slice.injEq,true_and]at he
 obtain⟨rfl,rfl⟩:=he
 have Pr:eJ[0]?=some i1:=by rw[xT];rfl
 have Pq:eJ[1]?=some i2:=by rw[xT];rfl
 have pH:=uD i1 (List.mem_of_getElem? Pr)
 have pR:=uD i2 (List.mem_of_getElem? Pq)
 have yU:(eJ.flatMap kf)[0*2+1]?=some i1.v:=cd ij Pr 1 aj
 have hw2:(eJ.flatMap kf)[1*2+1]?=some i2.v:=cd ij Pq 1 aj
 have k4:(eJ.flatMap kf)[(rest.length+1)*2+0]?=some (.int .i64 lst.n):=cd ij aam 0 aj
 have hm2:=hxm i2.p (by rw[← qf];exact List.mem_map.2 ⟨_,List.mem_of_getElem? Pq,rfl⟩)
 obtain⟨n1,v1,b1⟩:=i1
 obtain⟨n2,v2,b2⟩:=i2
 simp only at pH pR yU hw2
 obtain⟨a1,c1,rfl,CP⟩:=pH.2
 obtain⟨a2,c2,rfl,hc2⟩:=pR.2
 simp only[It.p]at hm2
 have hre:=Iq (n1:=n1) (b1:=b1) (n2:=n2) (b2:=b2) (l:=rest.map It.p) (n:=lst.n) (by rw[hs,← qf,xT];rfl) (by rw[xT]at lB;exact lB)
 rw[List.length_map]at hre
 refine go ?_
 refine aC 25 ((.bool false)) rfl ((congrArg Value.bool (decide_eq_false aj))) (go ?_)
 refine bM (rest.length+1) 2 zr zr zr zr zr zr zr aj aj (go ?_)
 refine aS ?_
 refine aP 0 ((rest.length+1)*2+0) zr zr zr dt (Nat.add_assoc _ _ _) k4 zr zr (go ?_)
 by_cases Ku:lst.n=((2+rest.length:Nat):Int)
 case neg =>
  have hd:jf b=none:=by rw[hre,if_neg (fun h=>Ku h.1)]
  refine aC 37 ((.bool true)) rfl ((congrArg Value.bool (decide_eq_true aj))) (go ?_)
  refine fY (U:=aY) zr zr zr zr zr (go ?_)
  (refine bh hE ?_;apply a7 (U:=aY) hE Tryz.func194 rfl (ak.refl _);(repeat(first|exact aT.nil|apply aT.tmp rfl|apply aT.agg 2 zr zr zr zr zr));exact(.inl ⟨hd,⟨0,Dg.zero,none,0,0,rfl⟩,rfl⟩);exact ah)
 refine aC 37 ((.bool false)) rfl ((congrArg Value.bool (decide_eq_false aj))) (go ?_)
 refine bM 0 2 zr zr zr zr zr zr zr zr aj (go ?_)
 refine aS ?_
 refine aP 0 (0*2+1) zr zr zr dt (Nat.add_assoc _ _ _) yU zr zr (go ?_)
 by_cases h1l:b1.length=1
 case neg =>
  have hd:jf b=none:=by rw[hre,if_neg (fun h=>h1l h.2.1)]
  refine aQ 44 ((.bool true)) rfl ((congrArg Value.bool (decide_eq_true aj))) (go ?_)
  refine fY (U:=aY) zr zr zr zr zr (go ?_)
  (refine bh hE ?_;apply a7 (U:=aY) hE Tryz.func194 rfl (ak.refl _);(repeat(first|exact aT.nil|apply aT.tmp rfl|apply aT.agg 2 zr zr zr zr zr));exact(.inl ⟨hd,⟨0,Dg.zero,none,0,0,rfl⟩,rfl⟩);exact ah)
 obtain⟨kb,rfl⟩:∃k,b1=[k]:=by
  match b1,h1l with
  | [k],_=>exact⟨k,rfl⟩
 refine aQ 44 ((.bool false)) rfl ((congrArg Value.bool (decide_eq_false (by simp)))) (go ?_)
 refine bM 1 2 zr zr zr zr zr zr zr zr aj (go ?_)
 refine aS ?_
 refine aP 0 (1*2+1) zr zr zr dt (Nat.add_assoc _ _ _) hw2 zr zr (go ?_)
 refine aF (su Z0 _ b2 pR aj) ?_
 unfold dV
 refine go ?_
 refine aB zr zr zr bq ?_
 intro b8
 refine go ?_
 refine bo (p:=2) (q:=(eJ.length:Int)) zr zr zr zr zr zr zr aj aj (.inl rfl) ?_
 ((refine aC 55 ((.slice (sliceAt (some ⟨rb,ro,none⟩) rc 2 2) rest.length (rc-2))) rfl ((by rw[show(eJ.length:Int).toNat=rest.length+2 from by omega,show(2:Int).toNat=2 from rfl,show rest.length+2-2=rest.length by omega];rfl)) ?_))
 have Cx:=dt.JA (s:=2) (bt ij _) Og 2 aj
 have hdr:(eJ.flatMap kf).drop (2*2)=rest.flatMap kf:=by rw[xT];rfl
 rw[hdr,show eJ.length-2=rest.length from by omega]at Cx
 have ady:∀x∈rest,fb Z0 x.v x.b:=fun x hx=>uD x (by rw[xT];simp[hx])
 have hxr:∀x∈rest,x.b.length≤65536:=fun x hx=>hxm x.p (by rw[← qf,xT];simp;right;right;exact⟨x,hx,rfl⟩)
 clear hw2 k4 aam lB Pr Pq hs qf uD hxm xT
 refine go ?_
 refine ai (bp 37 1 none _) ?_
 obtain⟨dh,hdh⟩:∃d,d=(gC b2).getD Dg.zero:=⟨_,rfl⟩
 rw[← hdh]
 refine bj (fun y:Nat × Option Addr × Nat=>y.1≤rest.length) (fun y=>rest.length-y.1)
  (fun y=>[(3,ptr b3),(6,.slice (some ⟨rb,ro,none⟩) eJ.length rc),(8,ptr b8),(9,.bool (gC b2).isSome),(10,.slice y.2.1 y.1 y.2.2),(55,.slice (sliceAt (some ⟨rb,ro,none⟩) rc 2 2) rest.length (rc-2)),(56,.int .i64 (rest.length:Int)),(57,.int .i64 (y.1:Int))])
  (fun y=>aH 37 1 (.slice y.2.1 y.1 y.2.2) y.1 ((rest.take y.1).flatMap fun x=>[x.v])::Z0::X::ag b3 (cl (dC Dg.zero) 35)::ag b8 (cl (dC dh) 35)::F) (0,none,0) (Nat.zero_le _) rfl bO ah ?_
 rintro⟨j,ma,mc⟩ hj ih
 simp only at hj
 dsimp only
 refine go ?_
 refine aD zr zr ?_ ?_
 ·intro cB
  have pG:j<rest.length:=by omega
  obtain⟨it,I9⟩:∃x,rest[j]?=some x:=⟨rest[j],by simp⟩
  have Jf:=ady it (List.mem_of_getElem? I9)
  obtain⟨xn,xv,xb⟩:=it
  simp only at Jf
  obtain⟨va,vc,rfl,_⟩:=Jf.2
  have hsa:sliceAt (some ⟨rb,ro,none⟩) rc 2 2=some ⟨rb,ro+4,none⟩:=by
   unfold sliceAt
   rw[if_neg aj]
   rfl
  rw[hsa]at Cx
  refine aQ 55 (.slice (some ⟨rb,ro+4,none⟩) rest.length (rc-2)) rfl (by rw[hsa]) (go ?_)
  refine bM j 2 zr zr zr zr zr zr zr zr pG ?_
  refine aS ?_
  refine bZ (U:=aY) (es:=kf ⟨xn,.slice va xb.length vc,xb⟩) 1 (j*2) zr zr zr Cx rfl (fun q v hq=>?_) zr zr zr ?_
  ·rw[cd ij I9 q (by rcases Nat.lt_or_ge q 2 with h|h;exact h;rw[List.getElem?_eq_none (by rw[ij];exact h)]at hq;cases hq)];exact hq
  refine aB zr zr zr bq ?_
  intro b12
  refine go ?_
  refine aq (cs:=[.slice va xb.length vc]) zr zr zr zr zr zr zr zr zr bq ?_
  intro row
  refine go ?_
  have l6:(rest.take (j+1)).flatMap (fun x=>[x.v])=(rest.take j).flatMap (fun x=>[x.v])++[.slice va xb.length vc]:=by rw[List.take_add_one,I9];simp
  refine aU (mm:=1) (news:=[.slice va xb.length vc]) 2 0 rfl rfl rfl rfl rfl rfl rfl rfl rfl rfl rfl rfl (Vw.ag rfl) rfl (by intro v hv;simp at hv;rw[hv];rfl) aj (by show(_+_)*24≤_;omega) (fun _=>rfl) bq ?_
  intro v1
  rw[← l6]
  refine aM 2 rfl ?_
  rintro ja jc rfl
  refine go ?_
  refine aQ 55 ((.slice (sliceAt (some ⟨rb,ro,none⟩) rc 2 2) rest.length (rc-2))) rfl ((by rw[hsa])) ?_
  refine aK ih (j+1,ja,jc) rfl (by simp only;omega) (by simp only;omega) bO ah
 ·intro eN
  have MF:j=rest.length:=by omega
  subst MF
  rw[List.take_length]
  clear ih
  obtain⟨bb1,oo1,cc1,QT⟩:=pH.1.some (by simp[bV])
  simp only[Value.slice.injEq,true_and]at QT
  obtain⟨rfl,rfl⟩:=QT
  have k6:Vw Z0 (.slice (some ⟨bb1,oo1,none⟩) 1 c1) 1 (bV [kb]):=pH.1
  have uh:(rest.map It.b).length=rest.length:=List.length_map ..
  refine oY 0 rfl ?_
  intro fF
  refine dz 0 rfl ?_
  intro Mj
  have mz:qx (Sep [aH 37 1 (.slice ma rest.length mc) rest.length (rest.flatMap fun x=>[x.v]),Z0]) (.slice ma rest.length mc) (rest.map It.b):=by
   rw[← uh]at Mj fF ⊢
   refine qx.ofP Mj fF (by rw[← CX];simp) (fun i z hz=>?_)
   rw[List.getElem?_map]at hz
   cases hx:rest[i]? with
   | none=>rw[hx]at hz;cases hz
   | some y =>
    rw[hx]at hz
    injection hz with hz
    subst hz
    exact⟨y.v,by rw[← CX,List.getElem?_map,hx];rfl,ady y (List.mem_of_getElem? hx)⟩
  have hmb:(rest.map It.p).map (·.2)=rest.map It.b:=by rw[List.map_map];rfl
  rw[hmb]at hre
  have hdd:∀d,gC b2=some d→jf b=some (kb,d,rest.map It.b):=fun d hd=>by
   grind [gC]
  have nx:gC b2=none→jf b=none:=fun hd=>by
   grind [gC]
  refine go ?_
  refine aO (fun w=>Sat G w ([Z0,ag b8 (cl (dC dh) 35)])) (cM 0 10 (.act 10 (.st 11 (.st 12 .nil)))) rfl ae ae ae dv ?_
  refine go ?_
  refine bM 0 2 zr zr zr zr zr zr zr zr aj (go ?_)
  refine aS ?_
  refine cV 0 (0*2+1) zr zr zr dt (Nat.add_assoc _ _ _) yU zr zr (go ?_)
  refine bD 0 zr zr zr zr zr zr zr zr (by simp) (go ?_)
  refine aS ?_
  refine cV 0 0 zr zr zr k6 zr zr zr zr (go ?_)
  refine cm (U:=aY) (l:=dC dh) 1 zr zr zr zr zr zr (go ?_)
  refine aX ?_
  refine eb (U:=aY) (l':=dC dh) 3 dv rfl rfl rfl rfl (by intro e;cases e) (by rw[eF];exact jv _) rfl rfl rfl ?_
  refine go ?_
  refine ai (H':=Sep [aH 37 1 (.slice ma rest.length mc) rest.length (rest.flatMap fun x=>[x.v]),Z0]::X::ag b3 (cl (dC dh) 35)::ag b8 (cl (dC dh) 35)::F) (ak.trans ah (ak.bT [aH 37 1 (.slice ma rest.length mc) rest.length (rest.flatMap fun x=>[x.v]),Z0] _)) ?_
  cases hhb:gC b2 with
  | none =>
   simp only[Option.isSome_none]
   (refine bh hE ?_;apply a7 (U:=aY) hE Tryz.func194 rfl (ak.refl _);(repeat(first|exact aT.nil|apply aT.tmp rfl|apply aT.agg 2 zr zr zr zr zr));exact(.inl ⟨nx hhb,⟨kb,dh,_,_,_,rfl⟩,rfl⟩);exact ah)
  | some d =>
   rw[hhb]at hdh
   simp only[Option.getD_some]at hdh
   subst hdh
   simp only[Option.isSome_some]
   (refine bh hE ?_;apply a7 (U:=aY) hE Tryz.func194 rfl (ak.refl _);(repeat(first|exact aT.nil|apply aT.tmp rfl|apply aT.agg 2 rfl rfl rfl rfl rfl));exact(.inr ⟨kb,dh,_,_,_,hdd dh hhb,mz,(fun x hx=>by obtain⟨y,hy,rfl⟩:=List.mem_map.1 hx;exact hxr y hy),aj,rfl,rfl⟩);exact ah)
end Go.Proofs.YtjpboghdolfekaaGreatDoor
namespace Go.Proofs.YtjpboghdolfekaaGreatDoor
open Go Go.SL
def u5(n i:Nat):Int:=match jQ n i with
 | some s=>(s:Int)
 | none => -1
theorem KC(n:Nat):n ^^^ 1=if n%2=1 then n-1 else n+1:=by
 have h1:=Nat.xor_div_two (a:=n) (b:=1)
 have h2:(n ^^^ 1)%2=(n+1)%2:=by
  rcases Nat.mod_two_eq_zero_or_one n with h|h
  ·have:=(Nat.xor_mod_two_eq_one (a:=n) (b:=1)).2 (by simp[h])
   omega
  ·have:=(Nat.xor_mod_two_eq_one (a:=n) (b:=1))
   grind
 grind
theorem KD(n:Nat)(h:n<1000000000):IntKind.i64.wrap ((BitVec.ofInt IntKind.i64.bits (n:Int) ^^^ BitVec.ofInt IntKind.i64.bits 1).toNat:Int)=((if n%2=1 then n-1 else n+1:Nat):Int):=by
 grind [uB,KC,cz,fZ]
def bH:Nat→Nat→Nat→List (Nat × Nat)
 | 0,_,_=>[]
 | f+1,n,i=>if n≤1 then []else(n,i)::bH f ((n+1)/2) (i/2)
def qM:∀(f g n i:Nat),n≤f→n≤g→bH f n i=bH g n i
 | 0,0,_,_,_,_=>rfl
 | 0,g+1,n,i,hf,_=>by
  obtain rfl:n=0:=by omega
  rfl
 | f+1,0,n,i,_,hg=>by
  obtain rfl:n=0:=by omega
  rfl
 | f+1,g+1,n,i,hf,hg=>by
  unfold bH
  split
  ·rfl
  ·rw[qM f g ((n+1)/2) (i/2) aj aj]
theorem Ac(f n i:Nat)(hf:n≤f)(hn:1<n):bH f n i=(n,i)::bH f ((n+1)/2) (i/2):=by
 rw[qM f (f+1) n i hf aj]
 grind [bH]
def B0(f n i:Nat)(hn:n≤1):bH f n i=[]:=by
 cases f with
 | zero=>rfl
 | succ f=>unfold bH;rw[if_pos hn]
theorem p':∀(f n i:Nat),i<n→∀p∈bH f n i,p.2<p.1∧p.1≤n
 | 0,_,_,_,p,h=>by cases h
 | f+1,n,i,hi,p,h=>by
  unfold bH at h
  split at h
  ·cases h
  ·rcases List.mem_cons.1 h with rfl|h
   ·grind
   ·obtain⟨h1,h2⟩:=p' f ((n+1)/2) (i/2) aj p h
    grind
def mF(l:List (Nat × Nat)):Nat:=(l.filter fun p=>(jQ p.1 p.2).isSome).length
theorem C5(l:List (Nat × Nat))(p:Nat × Nat):mF (l++[p])=mF l+if(jQ p.1 p.2).isSome then 1 else 0:=by
 grind [mF,jQ]
theorem sI:∀(f n i:Nat),oS f n i=mF (bH f n i)
 | 0,_,_=>rfl
 | f+1,n,i=>by
  unfold oS bH
  split
  ·rfl
  ·rw[sI f]
   grind [mF,jQ]
def uZ(z:Dg × List Dg)(p:Nat × Nat):Dg × List Dg:=match jQ p.1 p.2 with
 | none=>z
 | some s=>(if s<p.2 then jR (z.2.headD Dg.zero) z.1 else jR z.1 (z.2.headD Dg.zero),z.2.tail)
def oU(l:List (Nat × Nat))(z:Dg × List Dg):Dg × List Dg:=l.foldl uZ z
def M5(l:List (Nat × Nat))(p:Nat × Nat)(z:Dg × List Dg):oU (l++[p]) z=uZ (oU l z) p:=by unfold oU;rw[List.foldl_append];rfl
theorem sL:∀(f n i:Nat) (x:Dg) (p:List Dg),wM f n i x p=(oU (bH f n i) (x,p)).1
 | 0,_,_,_,_=>rfl
 | f+1,n,i,x,p=>by
  unfold wM bH
  split
  ·rfl
  ·unfold oU
   rw[List.foldl_cons]
   unfold uZ
   cases h:jQ n i with
   | none=>simp only;exact sL f _ _ _ _
   | some s=>simp only;exact sL f _ _ _ _
theorem C8:∀(l:List (Nat × Nat)) (z:Dg × List Dg),(oU l z).2.length=z.2.length-mF l
 | [],z=>rfl
 | p::l,z=>by
  have:=C8 l (uZ z p)
  grind [oU,uZ,mF,jQ]
theorem Hv(l:List (Nat × Nat))(j:Nat):mF (l.take j)≤mF l:=by
 conv=>rhs;rw[← List.take_append_drop j l]
 grind [mF]
attribute [local irreducible] J K aw Ends ag aH au bE aW aJ a6 aZ bI Sha.chunks Sha.chunk Sha.rounds Sha.sched ff cI fA jR
def kE(n i:Int):Bool:=decide (1≤n∧n≤1024∧0≤i∧i<n)
def vC(n i:Int):aw Tryz.prog 428 [.int .i64 n,.int .i64 i] [] (fun r H=>r = .bool (kE n i)∧H=[]):=by
 have hF:(¬(1≤n∧n≤1024∧0≤i))→Value.bool false = .bool (kE n i):=fun h=>by unfold kE;rw[decide_eq_false aj]
 have hT:(1≤n∧n≤1024∧0≤i)→Value.bool (decide (i<n)) = .bool (kE n i):=fun h=>by unfold kE;exact congrArg Value.bool (decide_eq_decide.2 aj)
 refine aw.ao Tryz.func428 Tryz.ntmps428 fun G F R hE=>?_
 repeat'(first|(with_reducible intro kQ)|refine eK ?_|refine ew zr zr zr zr ?_ ?_|fail)
 all_goals(first|((refine ad hE Tryz.func428 zr zr ⟨hF aj,rfl⟩))|((refine ad hE Tryz.func428 zr zr ⟨hT aj,rfl⟩)))
theorem wT(n i:Nat)(hi:i<n)(hn:n≤1000000):aw Tryz.prog 336 [.int .i64 (n:Int),.int .i64 (i:Int)] [] (fun r H=>r = .int .i64 (u5 n i)∧H=[]):=by
 refine aw.ao Tryz.func336 Tryz.ntmps336 fun G F R hE=>?_
 have hx:=KD i aj
 refine go ?_
 refine aD zr zr ?_ ?_
 ·intro cB
  have hs:u5 n i=((if i%2=1 then i-1 else i+1:Nat):Int):=by
   grind [u5,jQ]
  refine go ?_
  refine ad hE Tryz.func336 zr zr ⟨congrArg (Value.int .i64) (hx.trans hs.symm),rfl⟩
 ·intro eN
  have hs:u5 n i = -1:=by
   grind [u5,jQ]
  refine go ?_
  refine ad hE Tryz.func336 zr zr ⟨congrArg (Value.int .i64) hs.symm,rfl⟩
def vr(n i:Int):aw Tryz.prog 429 [.int .i64 n,.int .i64 i] [] (fun r H=>∃b1 b2,r = .func (.func 502) #[] #[ptr b1,ptr b2]∧H=[ag b1 (cl [.int .i64 n] 3),ag b2 (cl [.int .i64 i] 3)]):=by
 refine aw.ao Tryz.func429 Tryz.ntmps429 fun G F R hE=>?_
 refine aN rfl ?_
 refine bC zr zr bq ?_
 intro b1
 refine bC zr zr bq ?_
 intro b2
 refine go ?_
 refine ad hE Tryz.func429 zr zr ⟨b1,b2,rfl,rfl⟩
theorem tr(b1 b2 n i:Nat)(hn:n≤1000000)(hi:i≤1000000)(l:Nat)(Lp:HP)(Inv:Nat→HP)(hy:∀j p,(bH n n i)[j]?=some p→bI Tryz.prog l [.int .i64 (p.1:Int),.int .i64 (p.2:Int)] [Lp,Inv j] (fun v H=>v = .bool true∧H=[Lp,Inv (j+1)])) :
  aw Tryz.prog 502 [.func (.yield l) #[] #[],ptr b1,ptr b2] [Lp,Inv 0,ag b1 (cl [.int .i64 (n:Int)] 3),ag b2 (cl [.int .i64 (i:Int)] 3)] (fun _ H=>H=[Lp,Inv (bH n n i).length]):=by
 refine aw.ao Tryz.func502 Tryz.ntmps502 fun G F R hE=>?_
 refine bj (fun y:Nat × Nat × Nat=>y.1≤n∧y.2.1≤i∧(bH n n i).drop y.2.2=bH n y.1 y.2.1∧y.2.2≤(bH n n i).length) (fun y=>y.1)
  (fun _=>[(0,.func (.yield l) #[] #[]),(1,ptr b1),(2,ptr b2)])
  (fun y=>Lp::Inv y.2.2::ag b1 (cl [.int .i64 (y.1:Int)] 3)::ag b2 (cl [.int .i64 (y.2.1:Int)] 3)::F) (n,i,0) ⟨Nat.le_refl _,Nat.le_refl _,rfl,Nat.zero_le _⟩ rfl bO ah ?_
 rintro⟨m,k,j⟩⟨hm,hk,hd,hj⟩ ih
 simp only at hm hk hd hj
 refine go ?_
 refine aD zr zr ?_ ?_
 ·intro Kx
  have MK:1<m:=by omega
  rw[Ac n m k hm MK]at hd
  have hx:(bH n n i)[j]?=some (m,k):=by
   have:=congrArg (fun l=>l[0]?) hd
   grind
  have Ff:=(List.getElem?_eq_some_iff.1 hx).1
  have CL:(bH n n i).drop (j+1)=bH n ((m+1)/2) (k/2):=by
   have:=congrArg (fun l=>l.drop 1) hd
   simpa[List.drop_drop]using this
  refine go ?_
  refine gQ zr zr zr (hy j (m,k) hx) ah ?_ iM
  rintro _ _⟨rfl,rfl⟩
  refine go ?_
  refine ai (H':=ag b1 (cl [.int .i64 (m:Int)] 3)::ag b2 (cl [.int .i64 (k:Int)] 3)::Lp::Inv (j+1)::F) ah ?_
  refine aO (fun w=>Sat G w ([])) (.fork (.act 0 (.st 1 (.st 2 (.fork (.act 3 (.st 4 (.act 5 (.act 6 .nil)))) (.act 5 (.act 3 (.st 4 (.act 6 .nil)))))))) (.act 3 (.st 4 (.act 0 (.st 1 (.st 2 (.act 5 (.act 6 .nil)))))))) rfl ae ae ae dv ?_
  repeat'(first|refine eK ?_|refine nL ?_ ?_|(refine nJ ?_;refine fL zr zr zr aj ?_;first|(refine aC 8 (.int .i64 (((m+1)/2:Nat):Int)) rfl (congrArg (Value.int .i64) (by show((m:Int)+1)/2 ^ 1=_;omega)) ?_)|(refine aC 10 (.int .i64 ((k/2:Nat):Int)) rfl (congrArg (Value.int .i64) (by show(k:Int)/2 ^ 1=_;omega)) ?_))|(refine aX ?_;(refine bG 0 dv zr zr zr zr zr zr zr zr zr ?_)))
  all_goals(
   refine aK ih ((m+1)/2,k/2,j+1) rfl ⟨by simp only;omega,by simp only;omega,CL,by simp only;omega⟩ (by simp only;omega) bO ah)
 ·intro eN
  have hz:bH n m k=[]:=B0 n m k aj
  have MF:j=(bH n n i).length:=by
   have:=congrArg List.length hd
   grind
  subst MF
  refine go ?_
  refine bB hE Tryz.func502 rfl _ zr zr ah
theorem zG(n i:Int):aw Tryz.prog 318 [.int .i64 n,.int .i64 i] [] (fun r H=>r = .int .i64 (iX n i:Int)∧H=[]):=by
 refine aw.ao Tryz.func318 Tryz.ntmps318 fun G F R hE=>?_
 refine go ?_
 refine aB zr zr zr bq ?_
 intro b5
 refine go ?_
 refine aF (vC n i) ?_
 cases hr:kE n i with
 | false =>
  have hd:iX n i=0:=by
   grind [iX,kE]
  rw[hd]at hE
  refine go ?_
  refine ad hE Tryz.func318 zr zr ⟨rfl,rfl⟩
 | true =>
  have O':1≤n∧n≤1024∧0≤i∧i<n:=by unfold kE at hr;simpa using hr
  obtain⟨m,rfl⟩:∃m:Nat,n=m:=⟨n.toNat,aj⟩
  obtain⟨k,rfl⟩:∃m:Nat,i=m:=⟨i.toNat,aj⟩
  have hd:iX (m:Int) (k:Int)=mF (bH m m k):=by
   grind [iX,sI]
  have Aq:=p' m m k aj
  have QV:=sJ (m:Int) (k:Int)
  rw[hd]at hE QV
  refine go ?_
  refine az (vr (m:Int) (k:Int)) ?_
  rintro _ _⟨b1,b2,rfl,rfl⟩
  refine go ?_
  refine gG rfl ?_
  have sF:mF ((bH m m k).take 0)=0:=rfl
  refine o4 (Fr:=F) (Pre:=fun _ _=>[ag b5 (cl [.int .i64 (mF ((bH m m k).take 0):Int)] 3),ag b1 (cl [.int .i64 (m:Int)] 3),ag b2 (cl [.int .i64 (k:Int)] 3)]) (fun _ _ Lp v H=>H=[Lp .ready none,ag b5 (cl [.int .i64 (mF ((bH m m k).take (bH m m k).length):Int)] 3)]) rfl hE.1.1 rfl ?c (fun l r=>ah) ?fR
  case c =>
   intro l r
   refine tr b1 b2 m k aj aj l _ (fun j=>ag b5 (cl [.int .i64 (mF ((bH m m k).take j):Int)] 3)) ?_
   rintro j⟨p,q⟩ hp
   obtain⟨h1,h2⟩:=Aq _ (List.mem_of_getElem? hp)
   have l6:(bH m m k).take (j+1)=(bH m m k).take j++[(p,q)]:=by rw[List.take_add_one,hp];rfl
   have QX:mF ((bH m m k).take (j+1))=mF ((bH m m k).take j)+if(jQ p q).isSome then 1 else 0:=by rw[l6,C5]
   have jF:=Hv (bH m m k) j
   refine bI.Af zr zr ?_
   intro G2 F2 R2 hY
   refine go ?_
   refine er rfl hY (go ?_)
   refine aF (wT p q h1 aj) ?_
   unfold u5
   cases hs:jQ p q with
   | none =>
    rw[hs]at QX
    rw[QX]at hY
    refine go ?_
    refine ea hY rfl ah ⟨rfl,rfl⟩
   | some s =>
    rw[hs]at QX
    rw[QX]at hY
    refine go ?_
    refine ea hY rfl ah ⟨rfl,rfl⟩
  rintro l r v H' rfl
  refine⟨_,_,_,rfl,by decide,?_⟩
  rw[hE.1.2,List.take_length]
  refine go ?_
  (apply a7 (U:=aY) hE Tryz.func318 rfl ah;(repeat(first|exact aT.nil|apply aT.tmp rfl));exact⟨rfl,rfl⟩;exact ah)
end Go.Proofs.YtjpboghdolfekaaGreatDoor
namespace Go.Proofs.YtjpboghdolfekaaGreatDoor
open Go Go.SL
def CkI(b8 b9:Nat)(X:HP)(z:Dg × List Dg):HP:=fun h=>∃v:Value,Ql X v z.2∧Sep [ag b8 (cl (dC z.1) 35),ag b9 (cl [v] 43),X] h
def DN(b8 b9:Nat)(X:HP)(z:Dg × List Dg):∀h,CkI b8 b9 X z h→∃v:Value,Ql X v z.2∧Sep [ag b8 (cl (dC z.1) 35),ag b9 (cl [v] 43),X] h:=fun h hs=>hs
def Bf{b8 b9:Nat}{X:HP}{z:Dg × List Dg}{v:Value}(hv:Ql X v z.2)(H:List HP):ak (ag b8 (cl (dC z.1) 35)::ag b9 (cl [v] 43)::X::H) (CkI b8 b9 X z::H) :=
 ak.fold (A:=CkI b8 b9 X z) (B:=[ag b8 (cl (dC z.1) 35),ag b9 (cl [v] 43),X]) fun h hs=>⟨h,sub.refl h,v,hv,hs⟩
def Ql.tail{X:HP}{a:Option Addr}{c:Nat}{x:Dg}{l:List Dg}(h:Ql X (.slice a (x::l).length c) (x::l)):Ql X (.slice (sliceAt a c 1 32) l.length (c-1)) l:=by
 obtain⟨hv,a',c',he,hc⟩:=h
 obtain⟨rfl,rfl⟩:=he
 have:=hv.JA (s:=32) (bt eE _) hc 1 (by simp)
 exact⟨this,_,_,rfl,by simp only[List.length_cons]at hc;omega⟩
attribute [local irreducible] J K aw Ends ag aH au bE aW aJ a6 aZ bI Sha.chunks Sha.chunk Sha.rounds Sha.sched ff cI fA jR CkI
theorem Ki(X:HP)(hK:lL X)(root leaf:Dg)(n i:Int)(pv:Value)(proof:List Dg)(hp:Ql X pv proof) :
  aw Tryz.prog 323 [dV root,.int .i64 n,.int .i64 i,dV leaf,pv] [X] (fun r H=>r = .bool (nA root n i leaf proof)∧H=[X]):=by
 have G6:=hp
 obtain⟨hv,a,c,rfl,hc⟩:=hp
 refine aw.ao Tryz.func323 Tryz.ntmps323 fun G F R hE=>?_
 refine aN rfl ?_
 refine bC zr zr bq ?_
 intro b5
 refine bC zr zr bq ?_
 intro b8
 refine bC zr zr bq ?_
 intro b9
 refine go ?_
 refine aO (fun w=>Sat G w ([ag b9 (cl [.slice a proof.length c] 43)])) (.st 0 (.st 1 (.act 2 (cM 3 6 (.act 9 (.st 10 (.st 11 .nil))))))) rfl ae ae ae dv ?_
 refine go ?_
 refine bP (vC n i) ?_
 cases hr:kE n i with
 | false =>
  have hcf:nA root n i leaf proof=false:=by
   grind [nA,kE]
  rw[hcf]at hE
  refine go ?_
  (refine bh hE ?_;apply a7 (U:=aY) hE Tryz.func323 rfl (ak.refl _);(repeat(first|exact aT.nil|apply aT.tmp rfl));exact⟨rfl,rfl⟩;exact ah)
 | true =>
  have O':1≤n∧n≤1024∧0≤i∧i<n:=by unfold kE at hr;simpa using hr
  refine go ?_
  refine bP (zG n i) ?_
  refine go ?_
  refine ep zr zr ?_ ?_
  ·intro gf
   have hcf:nA root n i leaf proof=false:=by
    grind [nA]
   rw[hcf]at hE
   refine go ?_
   (refine bh hE ?_;apply a7 (U:=aY) hE Tryz.func323 rfl (ak.refl _);(repeat(first|exact aT.nil|apply aT.tmp rfl));exact⟨rfl,rfl⟩;exact ah)
  intro heq
  have Jc:proof.length=iX n i:=by
   grind
  obtain⟨m,rfl⟩:∃m:Nat,n=m:=⟨n.toNat,aj⟩
  obtain⟨k,rfl⟩:∃m:Nat,i=m:=⟨i.toNat,aj⟩
  have hd:iX (m:Int) (k:Int)=mF (bH m m k):=by
   grind [iX,sI]
  have Aq:=p' m m k aj
  have hck:nA root (m:Int) (k:Int) leaf proof=decide ((oU (bH m m k) (leaf,proof)).1=root):=by
   grind [nA,sL]
  rw[hck]at hE
  refine go ?_
  refine az (vr (m:Int) (k:Int)) ?_
  rintro _ _⟨b1,b2,rfl,rfl⟩
  refine go ?_
  refine gG rfl ?_
  refine ai (ak.pick [3,2,5] rfl) ?_
  refine ai (Bf (z:=oU ((bH m m k).take 0) (leaf,proof)) G6 _) ?_
  refine o4 (Fr:=ag b5 (cl (dC root) 35)::F) (Pre:=fun _ _=>[CkI b8 b9 X (oU ((bH m m k).take 0) (leaf,proof)),ag b1 (cl [.int .i64 (m:Int)] 3),ag b2 (cl [.int .i64 (k:Int)] 3)]) (fun _ _ Lp v H=>H=[Lp .ready none,CkI b8 b9 X (oU ((bH m m k).take (bH m m k).length) (leaf,proof))]) rfl hE.1.1 rfl ?c (fun l r=>ah) ?fR
  case c =>
   intro l r
   refine tr b1 b2 m k aj aj l _ (fun j=>CkI b8 b9 X (oU ((bH m m k).take j) (leaf,proof))) ?_
   rintro j⟨p,q⟩ Kt
   obtain⟨h1,h2⟩:=Aq _ (List.mem_of_getElem? Kt)
   have l6:(bH m m k).take (j+1)=(bH m m k).take j++[(p,q)]:=by rw[List.take_add_one,Kt];rfl
   have hcz:oU ((bH m m k).take (j+1)) (leaf,proof)=uZ (oU ((bH m m k).take j) (leaf,proof)) (p,q):=by rw[l6,M5]
   have hzl:=C8 ((bH m m k).take j) (leaf,proof)
   have QX:mF ((bH m m k).take (j+1))=mF ((bH m m k).take j)+if(jQ p q).isSome then 1 else 0:=by rw[l6,C5]
   have jF:=Hv (bH m m k) (j+1)
   rw[hcz]
   obtain⟨z,hz⟩:∃z,z=oU ((bH m m k).take j) (leaf,proof):=⟨_,rfl⟩
   rw[← hz]at hzl ⊢
   refine bI.Af zr zr ?_
   intro G F2 R2 hY
   unfold uZ at hY
   obtain⟨x,prf⟩:=z
   refine go ?_
   refine er rfl hY ?_
   refine ai (ak.pick [1] rfl) ?_
   refine cG (DN b8 b9 X (x,prf)) ?_
   rintro v hdv
   refine go ?_
   refine aF (wT p q h1 aj) ?_
   unfold u5
   cases hs:jQ p q with
   | none =>
    rw[hs]at QX hY
    refine go ?_
    refine ai (Bf (z:=(x,prf)) hdv _) ?_
    refine ea hY rfl ah ⟨rfl,rfl⟩
   | some s =>
    rw[hs]at QX hY
    simp only[Option.isSome_some,if_true]at QX
    simp only at hY ⊢
    simp only at hzl
    obtain⟨p0,rest,rfl⟩:∃p0 rest,prf=p0::rest:=by
     cases prf with
     | nil=>rw[List.length_nil]at hzl;exfalso;omega
     | cons p0 rest=>exact⟨p0,rest,rfl⟩
    obtain⟨dt,a1,c1,rfl,CP⟩:=hdv
    obtain⟨bb,oo,cc,he⟩:=dt.some (by rw[List.flatMap_cons];intro h;simp[dC]at h)
    obtain⟨rfl,rfl⟩:=he
    have xQ:=Ql.tail ⟨dt,_,_,rfl,CP⟩
    have eN:∀(q':Nat) (v:Value),(dC p0)[q']?=some v→((p0::rest).flatMap dC)[0+q']?=some v:=fun q' v hq=>by
     grind
    refine go ?_
    refine aD zr zr ?_ ?_
    ·intro cB
     have ui:s<q:=by omega
     rw[if_pos ui]at hY
     refine go ?_
     refine aO (fun w=>Sat G w ([ag b8 (cl (dC x) 35),ag b9 (cl [.slice (some ⟨bb,oo,none⟩) (p0::rest).length c1] 43),X])) (cM 0 4 (.act 4 (.act 5 .nil))) rfl ae ae ae dv ?_
     (repeat(first|refine eK ?_|refine bM 0 32 zr zr zr zr zr zr zr zr (by simp) ?_|refine cm (U:=aY) (l:=dC x) 0 zr zr zr zr zr zr ?_|(refine aS ?_;refine gH (U:=aY) (es:=dC p0) 2 0 zr zr zr dt rfl eN zr zr zr ?_)))
     refine bP (w7 X hK p0 x) ?_
     refine aX ?_
     refine eb (U:=aY) (l':=dC (jR p0 x)) 1 fE rfl rfl rfl rfl (by intro e;cases e) (by rw[eF];exact jv _) rfl rfl rfl ?_
     refine go ?_
     refine bo (p:=1) (q:=((p0::rest).length:Int)) zr zr zr zr zr zr zr aj (by simp only[List.length_cons];omega) (.inl rfl) ?_
     ((refine aC 52 ((.slice (sliceAt (some ⟨bb,oo,none⟩) c1 1 32) rest.length (c1-1))) rfl ((by rw[show((p0::rest).length:Int).toNat=rest.length+1 from by simp[List.length_cons],show(1:Int).toNat=1 from rfl,show rest.length+1-1=rest.length by omega];rfl)) ?_))
     refine go ?_
     refine ai (ak.trans ah (Bf (z:=(jR p0 x,rest)) xQ _)) ?_
     refine ea hY rfl ah ⟨rfl,rfl⟩
    ·intro cB
     have ui:¬s<q:=by omega
     rw[if_neg ui]at hY
     refine go ?_
     refine aO (fun w=>Sat G w ([ag b8 (cl (dC x) 35),ag b9 (cl [.slice (some ⟨bb,oo,none⟩) (p0::rest).length c1] 43),X])) (cM 0 4 (.act 4 (.act 5 .nil))) rfl ae ae ae dv ?_
     (repeat(first|refine eK ?_|refine bM 0 32 zr zr zr zr zr zr zr zr (by simp) ?_|refine cm (U:=aY) (l:=dC x) 0 zr zr zr zr zr zr ?_|(refine aS ?_;refine gH (U:=aY) (es:=dC p0) 2 0 zr zr zr dt rfl eN zr zr zr ?_)))
     refine bP (w7 X hK x p0) ?_
     refine aX ?_
     refine eb (U:=aY) (l':=dC (jR x p0)) 1 fE rfl rfl rfl rfl (by intro e;cases e) (by rw[eF];exact jv _) rfl rfl rfl ?_
     refine go ?_
     refine bo (p:=1) (q:=((p0::rest).length:Int)) zr zr zr zr zr zr zr aj (by simp only[List.length_cons];omega) (.inl rfl) ?_
     ((refine aC 52 ((.slice (sliceAt (some ⟨bb,oo,none⟩) c1 1 32) rest.length (c1-1))) rfl ((by rw[show((p0::rest).length:Int).toNat=rest.length+1 from by simp[List.length_cons],show(1:Int).toNat=1 from rfl,show rest.length+1-1=rest.length by omega];rfl)) ?_))
     refine go ?_
     refine ai (ak.trans ah (Bf (z:=(jR x p0,rest)) xQ _)) ?_
     refine ea hY rfl ah ⟨rfl,rfl⟩
  rintro l r v H' rfl
  refine⟨_,_,_,rfl,by decide,?_⟩
  rw[hE.1.2,List.take_length]
  refine cG (DN b8 b9 X _) ?_
  rintro v -
  refine go ?_
  refine aV (U:=aY) (l:=dC (oU (bH m m k) (leaf,proof)).1) 0 zr zr zr zr zr zr (go ?_)
  refine aV (U:=aY) (l:=dC root) 4 zr zr zr zr zr zr (go ?_)
  refine nM (b:=decide ((oU (bH m m k) (leaf,proof)).1=root)) zr zr zr Jl (fun w=>Jx _ root w) ?_
  refine go ?_
  (apply a7 (U:=aY) hE Tryz.func323 rfl ah;(repeat(first|exact aT.nil|apply aT.tmp rfl));exact⟨rfl,rfl⟩;exact ah)
def E2(X:HP)(hK:lL X)(x:Bl)(i:Int)(bv:Value)(b:List UInt8)(hb:fb X bv b)(uj:b.length≤900000000)(pv:Value)(proof:List Dg)(hp:Ql X pv proof) :
  aw Tryz.prog 208 [l7 x,.int .i64 i,bv,pv] [X] (fun r H=>r = .bool (lU x i b proof)∧H=[X]):=by
 have ac2:=Dh x i
 have aaz:=sX x
 have hck:=Ki X hK x.root (fA b) (fT x) i pv proof hp
 have hlf:=Dq X hK bv b hb uj
 obtain⟨ba,bc,rfl,hbc⟩:=hb.2
 refine aw.ao Tryz.func208 Tryz.ntmps208 fun G F R hE=>?_
 refine aN rfl ?_
 refine bC zr zr bq ?_
 intro b4
 refine go ?_
 refine aV (U:=aY) (l:=dN x) 0 zr zr zr zr zr zr (go ?_)
 refine aF ac2 ?_
 unfold lU at hE
 cases DV:qG x i with
 | none =>
  rw[DV]at hE
  refine go ?_
  refine aO (fun w=>Sat G w ([ag b4 (cl (dN x) 182)])) (cM 0 12 (.st 13 (.st 14 (.st 16 (.act 12 (.act 15 (.act 17 (.st 18 (.st 19 .nil))))))))) rfl ae ae ae dv ?_
  refine go ?_
  refine ad hE Tryz.func208 zr zr ⟨rfl,rfl⟩
 | some w =>
  obtain⟨at_,n⟩:=w
  rw[DV]at hE
  simp only at hE ⊢
  refine go ?_
  refine aO (fun w=>Sat G w ([ag b4 (cl (dN x) 182)])) (cM 0 12 (.st 13 (.st 14 (.st 16 (.act 12 (.act 15 (.act 17 (.st 18 (.st 19 .nil))))))))) rfl ae ae ae dv ?_
  refine go ?_
  by_cases hl:(b.length:Int)=n
  case neg =>
   rw[decide_eq_false hl,Bool.false_and]at hE
   refine aC 27 ((.bool false)) rfl ((congrArg Value.bool (decide_eq_false hl))) (go ?_)
   refine ad hE Tryz.func208 zr zr ⟨rfl,rfl⟩
  rw[decide_eq_true hl,Bool.true_and]at hE
  refine aC 27 ((.bool true)) rfl ((congrArg Value.bool (decide_eq_true hl))) (go ?_)
  refine cE (U:=aY) (cs:=dC x.root) 0 zr zr zr zr zr zr (go ?_)
  refine cm (U:=aY) (l:=dN x) 0 zr zr zr zr zr zr (go ?_)
  refine bP aaz ?_
  refine go ?_
  refine bP hlf ?_
  refine go ?_
  refine bP hck ?_
  refine go ?_
  refine ad hE Tryz.func208 zr zr ⟨rfl,rfl⟩
end Go.Proofs.YtjpboghdolfekaaGreatDoor
namespace Go.Proofs.YtjpboghdolfekaaGreatDoor
open Go Go.SL
structure TC where
 x:Bl
 n:Nat
 ws:List od
 pf:Int→Option (List Dg)
def Tk.c(y:Tk):TC:=⟨y.x,y.n,y.ws,y.pf⟩
def kq(ts:List Tk):List TC:=ts.map Tk.c
namespace TC
def put(c:TC)(i:Nat)(l:List Dg):TC:=⟨c.x,c.n,mZ c.ws i true,fun j=>if j=(i:Int)then some l else c.pf j⟩
def drop(c:TC)(i:Nat):TC:=⟨c.x,c.n,mZ c.ws i false,fun j=>if j=(i:Int)then none else c.pf j⟩
end TC
def sG(x:Bl):TC:=⟨x,(fT x).toNat,List.replicate (((fT x).toNat+63)/64) 0#64,fun _=>none⟩
def pr:List (List UInt8)→Option (List Dg)
 | []=>some []
 | b::l=>match gC b,pr l with
  | some d,some ds=>some (d::ds)
  | _,_=>none
def oB(cs:List TC)(d:Dg)(m:List UInt8)(l:List (List UInt8)):List TC:=match qa m,pr l with
 | some i,some p=>cs.map fun y=>if y.x.d=d∧i<y.n∧p.length=iX y.n i then y.put i p else y
 | _,_=>cs
def OF(cs:List TC)(d:Dg):List TC:=cs.filter fun y => !decide (y.x.d=d)
def fI(cs:List TC)(b:List UInt8):List TC:=match jf b with
 | none=>cs
 | some (k,d,more) =>
  if k=3∧more=[]then OF cs d
  else match more with
   | [s,p,r]=>if k=1 then(match qa s,qa p,gC r with
     | some s,some p,some r=>if bY ⟨d,s,p,r⟩then OF cs d++[sG ⟨d,s,p,r⟩]else cs
     | _,_,_=>cs)
    else if k=2 then oB cs d s [p,r]else cs
   | m::l=>if k=2 then oB cs d m l else cs
   | []=>cs
def cO(d:Dg)(i:Nat)(p:List Dg):List UInt8:=xL 2 d (uv i::p.map Dg.bs)
def my(s:nV)(z:TC × List (List UInt8))(i:Nat):TC × List (List UInt8) :=
 if q8 z.1.ws z.1.n (i:Int)then(if(eH s z.1.x i).2≠0∨lU z.1.x i (eH s z.1.x i).1 ((z.1.pf i).getD [])=false then(z.1.drop i,z.2)else(z.1,z.2++[cO z.1.x.d i ((z.1.pf i).getD [])]))else z
def hD(s:nV)(c:TC)(k:Nat):TC × List (List UInt8):=(List.range k).foldl (my s) (c,[eT c.x])
def jS(s:nV)(c:TC):TC × List (List UInt8):=hD s c c.n
def rE(q:Int):List TC→nV→List TC→List (List UInt8)→Nat→nV→List TC→List (List UInt8)→Prop
 | [],s,cs,rs,e,t,wH,GB=>e=0∧t=s∧wH=cs∧GB=rs
 | c::l,s,cs,rs,e,t,wH,GB=>∃e1 s1,gJ q c.x s e1 s1 ∧
  if e1=5∨e1=11 then rE q l s1 cs rs e t wH GB
  else if e1≠0 then e=e1∧t=s1
  else rE q l s1 (cs++[(jS s1 c).1]) (rs++(jS s1 c).2) e t wH GB
def AV(q:Int)(s:nV)(e:Nat)(t:nV)(jn:JN)(cs:List TC):Prop :=
 ∃e1 A1 j1,pV s.A kZ e1 A1 j1∧if e1≠0 then e=e1∧t=⟨A1,s.cy,s.brk⟩else
  ∃e2 s2 rs,rE q ((kM s.A kZ).foldl fI []) ⟨A1,s.cy,s.brk⟩ [] [] e2 s2 cs rs∧if e2≠0 then e=e2∧t=s2 else
   ∃A3,rP kZ s2.A j1 rs e A3 jn∧t=⟨A3,s2.cy,s2.brk⟩
def nw(s:nV)(c:TC)(k:Nat):hD s c (k+1)=my s (hD s c k) k:=by
 unfold hD
 rw[List.range_succ,List.foldl_append]
 rfl
theorem Pf(s:nV)(z:TC × List (List UInt8))(i:Nat):(my s z i).1.x=z.1.x∧(my s z i).1.n=z.1.n∧(my s z i).1.ws.length=z.1.ws.length:=by
 unfold my
 split
 ·split
  ·exact⟨rfl,rfl,mq _ _ _⟩
  grind
 grind
theorem G7(s:nV)(c:TC):∀k,(hD s c k).1.x=c.x∧(hD s c k).1.n=c.n∧(hD s c k).1.ws.length=c.ws.length
 | 0=>⟨rfl,rfl,rfl⟩
 | k+1=>by
  rw[nw]
  obtain⟨h1,h2,h3⟩:=Pf s (hD s c k) k
  obtain⟨g1,g2,g3⟩:=G7 s c k
  grind
theorem Ht(ts:List Tk):(kq ts).length=ts.length:=by simp[kq]
def jo(i:Nat)(l:List Dg):List (List UInt8):=uv i::l.map Dg.bs
def vt(i:Nat)(hi:i≤1000000000000)(l:List Dg):∀b∈jo i l,b.length≤32:=fun b hb=>by
  rcases List.mem_cons.1 hb with rfl|hb
  · have := uP 5 i (by have : (128 : Nat) ^ 6 = 4398046511104 := by decide
                       omega)
    omega
  · obtain⟨d,_,rfl⟩:=List.mem_map.1 hb
    rw[d.len];omega
def B3(i:Nat){l:List Dg}{j:Nat}{d:Dg}(h:l[j]?=some d):jo i (l.take (j+1))=jo i (l.take j)++[d.bs]:=by
 unfold jo
 rw[List.take_add_one,h]
 simp
structure Rws where
 cs:List Value
 Z:HP
def AR(M:Rws)(ls:List (List UInt8)):Prop:=M.cs.length=ls.length∧∀(i:Nat) (x:List UInt8),ls[i]?=some x→∃cv,M.cs[i]?=some cv∧fb M.Z cv x
theorem AR.add{M:Rws}{ls:List (List UInt8)}(h:AR M ls){A:HP}{cv:Value}{x:List UInt8}(hx:fb A cv x):AR ⟨M.cs++[cv],Sep [A,M.Z]⟩ (ls++[x]):=by
 obtain⟨h1,h2⟩:=h
 refine⟨by simp[h1],fun i y hy=>?_⟩
 rw[List.getElem?_append]at hy ⊢
 rw[h1]
 split at hy
 ·rename_i cB
  rw[if_pos cB]
  obtain⟨cv',h3,h4⟩:=h2 i y hy
  exact⟨cv',h3,h4.mono (bz (i:=1) rfl)⟩
 ·rename_i eN
  rw[if_neg eN]
  have h0:i-ls.length=0:=by
   grind
  rw[h0]at hy ⊢
  cases hy
  exact⟨cv,rfl,hx.mono (bz (i:=0) rfl)⟩
attribute [local irreducible] J K aw Ends ag aH au bE aW aJ a6 aZ bI aG
theorem Iu(d:Dg)(i:Nat)(hi:i≤1000000000000)(P:HP)(pv:Value)(l:List Dg)(hp:Vw P pv l.length (l.flatMap dC))(hl:l.length≤16) :
  aw Tryz.prog 210 [dV d,.int .i64 (i:Int),pv] [P] (fun r H=>H=[aH 5 1 r (cO d i l).length (bV (cO d i l)),P]):=by
 obtain⟨a,c,rfl⟩:=hp.shape
 have hlen:=vt i hi l
 refine aw.ao Tryz.func210 Tryz.ntmps210 fun G F R hE=>?_
 refine aN rfl ?_
 refine bC zr zr bq ?_
 intro b3
 refine go ?_
 refine az (kR i aj) ?_
 rintro r8 _ rfl
 refine aM 0 rfl ?_
 rintro a8 c8 rfl
 refine iA (bs:=uv i) 0 rfl ?_
 intro hb8
 refine go ?_
 refine aq (cs:=[.slice a8 (uv i).length c8]) zr zr zr zr zr zr zr zr zr bq ?_
 intro row
 refine go ?_
 refine ai (eW 37 1 row 1 1 [.slice a8 (uv i).length c8] [] _ rfl (Nat.le_refl _) (by simp)) ?_
 refine bj (fun y:Nat × Rws × Option Addr × Nat=>y.1≤l.length∧AR y.2.1 (jo i (l.take y.1))) (fun y=>l.length-y.1)
  (fun y=>[(3,ptr b3),(7,.slice y.2.2.1 (y.1+1) y.2.2.2),(14,.slice a l.length c),(15,.int .i64 (l.length:Int)),(16,.int .i64 (y.1:Int))])
  (fun y=>aH 37 1 (.slice y.2.2.1 (y.1+1) y.2.2.2) (y.1+1) y.2.1.cs::y.2.1.Z::ag b3 (cl (dC d) 35)::P::F) (0,⟨[.slice a8 (uv i).length c8],aH 5 1 (.slice a8 (uv i).length c8) (uv i).length (bV (uv i))⟩,some ⟨row,0,none⟩,1) ⟨Nat.zero_le _,?_⟩ rfl bO ah ?_
 ·refine⟨rfl,fun j x hx=>?_⟩
  grind [jo]
 rintro⟨j,M,ma,mc⟩⟨hj,hM⟩ ih
 refine go ?_
 refine aD zr zr ?_ ?_
 ·intro cB
  have pG:j<l.length:=by omega
  obtain⟨x,hx⟩:∃x,l[j]?=some x:=⟨l[j],by simp⟩
  have l6:=B3 i hx
  obtain⟨bb,oo,cc,he⟩:=hp.some (by intro h;have:=congrArg List.length h;rw[bt eE]at this;simp at this;omega)
  obtain⟨rfl,rfl⟩:=he
  refine go ?_
  refine bM j 32 zr zr zr zr zr zr zr zr pG ?_
  refine aS ?_
  refine bZ (U:=aY) (es:=dC x) 3 (j*32) zr zr zr hp rfl (fun q v hq=>?_) zr zr zr ?_
  ·rw[cd eE hx q (by rcases Nat.lt_or_ge q 32 with h|h;exact h;rw[List.getElem?_eq_none (by rw[eE];exact h)]at hq;cases hq)];exact hq
  refine aB zr zr zr bq ?_
  intro b9
  refine go ?_
  refine jw (U:=aY) zr zr zr zr zr ?_
  have tM:fb (ag b9 (cl (dC x) 35)) (.slice (some ⟨b9,0,none⟩) 32 32) x.bs:=fb.block x.len (eF x)
  have jF:=gI (ag b9 (cl (dC x) 35)) (.slice (some ⟨b9,0,none⟩) x.bs.length 32) x.bs (by have:=tM.1;rw[x.len]at this ⊢;exact this) (by rw[x.len];omega)
  rw[show(Value.slice (some ⟨b9,0,none⟩) x.bs.length 32)=Value.slice (some ⟨b9,0,none⟩) 32 32 from by rw[x.len]]at jF
  refine az jF ?_
  rintro r9 _ rfl
  refine aM 0 rfl ?_
  rintro a9 c9 rfl
  refine iA (bs:=x.bs) 0 rfl ?_
  intro hb9
  refine go ?_
  refine aq (cs:=[.slice a9 x.bs.length c9]) zr zr zr zr zr zr zr zr zr bq ?_
  intro Ik
  refine go ?_
  refine aU (mm:=1) (news:=[.slice a9 x.bs.length c9]) 3 0 rfl rfl rfl rfl rfl rfl rfl rfl rfl rfl rfl rfl (Vw.ag rfl) rfl (by intro v hv;simp at hv;rw[hv];rfl) aj (by show(_+_)*24≤_;omega) (fun _=>rfl) bq ?_
  intro v1
  refine aM 3 rfl ?_
  rintro ja jc rfl
  refine go ?_
  refine ai (ak.pick [1,4,3,5,6] rfl) ?_
  refine ai (ak.bT [aH 5 1 (.slice a9 x.bs.length c9) x.bs.length (bV x.bs),M.Z] _) ?_
  have CU:=hM.add hb9
  rw[← l6]at CU
  refine aK ih (j+1,⟨M.cs++[.slice a9 x.bs.length c9],Sep [aH 5 1 (.slice a9 x.bs.length c9) x.bs.length (bV x.bs),M.Z]⟩,ja,jc) rfl ⟨by simp only;omega,CU⟩ aj bO ah
 ·intro eN
  have MF:j=l.length:=by omega
  subst MF
  rw[List.take_length]at hM
  have uh:(jo i l).length=l.length+1:=by simp[jo]
  refine oY 0 rfl ?_
  intro fF
  refine dz 0 rfl ?_
  intro Mj
  have mz:qx (Sep [aH 37 1 (.slice ma (l.length+1) mc) (l.length+1) M.cs,M.Z]) (.slice ma (l.length+1) mc) (jo i l):=by
   rw[← uh]at Mj fF ⊢
   exact qx.ofP Mj fF hM.1 hM.2
  have O9:=vl 2 d _ _ (jo i l) mz aj hlen
  refine ai (ak.bT [aH 37 1 (.slice ma (l.length+1) mc) (l.length+1) M.cs,M.Z] _) (go ?_)
  refine aV (U:=aY) (l:=dC d) 1 zr zr zr zr zr zr ?_
  ((refine go ?_;(refine az O9 ?_)))
  rintro rr _ rfl
  refine go ?_
  refine aL hE Tryz.func210 rfl _ zr zr ah
def H0{ts:List Tk}{i:Nat}{y:Tk}(h:ts[i]?=some y):((ts.take (i+1)).map Tk.x).flatMap dN=((ts.take i).map Tk.x).flatMap dN++dN y.x:=by rw[List.take_add_one,h];simp
def Gm(tb bs jb:Nat)(tv:Value)(br:Bool)(ts:List Tk)(hl:ts.length≤1000000) :
  aw Tryz.prog 61 [ptr tb] (kC tb bs jb tv ts br) (fun r H=>H=aH 182 66 r ts.length ((ts.map Tk.x).flatMap dN)::kC tb bs jb tv ts br):=by
 unfold kC
 refine aw.ao Tryz.func61 Tryz.ntmps61 fun G F R hE=>?_
 refine cU 1 rfl ?_
 rintro a c rfl
 refine dz 1 rfl ?_
 intro dt
 refine go ?_
 refine ai (bp 182 66 none _) ?_
 refine bj (fun y:Nat × Option Addr × Nat=>y.1≤ts.length) (fun y=>ts.length-y.1) (fun y=>[(3,.slice y.2.1 y.1 y.2.2),(9,.slice a ts.length c),(10,.int .i64 (ts.length:Int)),(11,.int .i64 (y.1:Int))])
  (fun y=>aH 182 66 (.slice y.2.1 y.1 y.2.2) y.1 (((ts.take y.1).map Tk.x).flatMap dN)::aH 217 1 (.slice a ts.length c) ts.length (ts.map gn)::cD ts::ag tb (cl [ptr bs,ptr jb,.slice a ts.length c,.bool br] 216)::F) (0,none,0) (Nat.zero_le _) rfl bO ah ?_
 rintro⟨i,oa,oc⟩ hi ih
 simp only at hi
 dsimp only
 refine go ?_
 refine aD zr zr ?_ ?_
 ·intro cB
  have dP:i<ts.length:=by omega
  obtain⟨y,hx⟩:∃x,ts[i]?=some x:=⟨ts[i],by simp[dP]⟩
  have l6:=H0 hx
  have uj:(dN y.x).length=66:=rfl
  obtain⟨b,o,fX,eR⟩:=dt.some (Oq dP)
  simp only[Value.slice.injEq]at eR
  obtain⟨rfl,_,rfl⟩:=eR
  refine go ?_
  refine bD i zr zr zr zr zr zr zr zr dP ?_
  refine aS ?_
  refine aP 1 i zr zr zr dt rfl (qD hx) zr zr (go ?_)
  refine aR (H':=cD ts::aH 182 66 (.slice oa i oc) i (((ts.take i).map Tk.x).flatMap dN)::aH 217 1 (.slice (some ⟨b,o,none⟩) ts.length c) ts.length (ts.map gn)::ag tb (cl [ptr bs,ptr jb,.slice (some ⟨b,o,none⟩) ts.length c,.bool br] 216)::F) ah ?_
  refine aR (zL hx _) ?_
  refine Ga (jz y) ?_
  rintro z hz
  refine aR (H':=ag y.yb (cl (uu y) 221)::aH 182 66 (.slice oa i oc) i (((ts.take i).map Tk.x).flatMap dN)::ag y.sb (cl [.int .i64 (y.n:Int),z.1] 460)::aH 38 1 z.1 y.ws.length (qV y.ws)::au (Value.int .i64) y.mb z.2.1::a6 35 z.2.2::cD (ts.take i++ts.drop (i+1))::aH 217 1 (.slice (some ⟨b,o,none⟩) ts.length c) ts.length (ts.map gn)::ag tb (cl [ptr bs,ptr jb,.slice (some ⟨b,o,none⟩) ts.length c,.bool br] 216)::F) ah (go ?_)
  refine cC (cs:=dN y.x) 0 zr zr zr zr zr zr ?_
  refine aq (cs:=dN y.x) zr zr zr zr zr zr zr zr zr bq ?_
  intro row
  refine go ?_
  refine aU (mm:=1) (news:=dN y.x) 2 0 zr zr zr zr zr zr zr zr zr zr zr zr (Vw.ag rfl) rfl (by have:=uG [y.x];simpa using this) aj (by show(_+_)*80≤_;omega) (fun _=>rfl) bq ?_
  intro v1
  rw[← l6]
  refine aM 2 rfl ?_
  rintro ja jc rfl
  refine go ?_
  refine ai (H':=Bw y z++(cD (ts.take i++ts.drop (i+1))::aH 182 66 (.slice ja (i+1) jc) (i+1) (((ts.take (i+1)).map Tk.x).flatMap dN)::aH 217 1 (.slice (some ⟨b,o,none⟩) ts.length c) ts.length (ts.map gn)::ag tb (cl [ptr bs,ptr jb,.slice (some ⟨b,o,none⟩) ts.length c,.bool br] 216)::F)) (by unfold Bw;exact ah) ?_
  refine ai (mP hz _) ?_
  refine ai (Gw hx _) ?_
  refine aK ih (i+1,ja,jc) rfl (by simp only;omega) (by simp only;omega) bO ah
 ·intro eN
  have tK:i=ts.length:=by omega
  subst tK
  rw[List.take_length]
  clear ih
  refine go ?_
  refine aL hE Tryz.func61 rfl _ zr zr ah
end Go.Proofs.YtjpboghdolfekaaGreatDoor
namespace Go.Proofs.YtjpboghdolfekaaGreatDoor
open Go Go.SL
def F0(bs bd jb:Nat)(q:Int)(mb:Nat)(x:SJ)(F:List HP):ak (l8 bs bd jb q mb [] x::F) (p5 bs bd q mb x.1++(Md jb bd kZ x.2::F)):=by
 refine(ak.cL _ _).trans ?_
 exact ak.refl _
def w6(bs bd jb:Nat)(q:Int)(mb:Nat)(x:SJ)(F:List HP):ak (p5 bs bd q mb x.1++(Md jb bd kZ x.2::F)) (l8 bs bd jb q mb [] x::F):=by
 refine ak.trans ?_ (ak.bT _ _)
 exact ak.refl _
theorem Hw.look{z:Value × List (Int × Value) × eG}{y:Tk}(h:Hw z y)(i:Int):∃v,(cF z.2.1 i).getD (.slice none 0 0)=v∧Bo z.2.2 32 v ((y.pf i).getD []).length (((y.pf i).getD []).flatMap dC):=by
 have:=h i
 cases hx:cF z.2.1 i with
 | none =>
  grind [Bo.nil]
 | some v =>
  grind
attribute [local irreducible] J K aw Ends ag aH au bE aW aJ a6 aZ bI aG l8
end Go.Proofs.YtjpboghdolfekaaGreatDoor
namespace Go.Proofs.YtjpboghdolfekaaGreatDoor
open Go Go.SL
def hz(b:List UInt8):Dg:=(gC b).getD Dg.zero
def EJ(m:List UInt8)(l:List (List UInt8)):Bool:=(qa m).isSome && l.all fun b=>(gC b).isSome
def OP(m:List UInt8)(l:List (List UInt8))(b:List UInt8):EJ m (l++[b])=(EJ m l && (gC b).isSome):=by unfold EJ;simp[Bool.and_assoc]
theorem q6:∀(l:List (List UInt8)),(l.all fun b=>(gC b).isSome)=true→pr l=some (l.map hz)
 | [],_=>rfl
 | b::l,h=>by
  rw[List.all_cons,Bool.and_eq_true]at h
  unfold pr
  rw[q6 l h.2]
  grind [hz,gC]
def q7:∀(l:List (List UInt8)),(l.all fun b=>(gC b).isSome)=false→pr l=none
 | [],h=>by cases h
 | b::l,h=>by
  unfold pr
  cases hb:gC b with
  | none=>rfl
  | some d =>
   rw[List.all_cons,hb]at h
   rw[q7 l (by simpa using h)]
def fP(ok:Bool)(d:Dg)(i:Nat)(p:List Dg)(y:Tk):Tk:=if ok=true∧y.x.d=d∧i<y.n∧p.length=iX y.n i then y.put i p else y
def adR(ok:Bool)(d:Dg)(i:Nat)(p:List Dg)(y:Tk):(fP ok d i p y).yb=y.yb:=by unfold fP;split <;> rfl
def jJ(f:Tk→Tk)(j:Nat)(ts:List Tk):List Tk:=(ts.take j).map f++ts.drop j
theorem L4(f:Tk→Tk)(j:Nat)(ts:List Tk):(jJ f j ts)[j]?=ts[j]? := by
 grind [jJ]
def L3(f:Tk→Tk){j:Nat}{ts:List Tk}{y:Tk}(h:ts[j]?=some y):(jJ f j ts).set j (f y)=jJ f (j+1) ts:=by
 obtain⟨hj,rfl⟩:=List.getElem?_eq_some_iff.1 h
 unfold jJ
 rw[List.set_append_right _ _ (by rw[List.length_map,List.length_take];omega),List.length_map,List.length_take,Nat.min_eq_left aj,Nat.sub_self,List.drop_eq_getElem_cons hj,List.set_cons_zero,List.take_add_one,h,Option.toList_some,List.map_append,List.append_assoc]
 rfl
def Cl(f:Tk→Tk)(ts:List Tk):jJ f ts.length ts=ts.map f:=by unfold jJ;simp
theorem L2(f:Tk→Tk)(hf:∀y,(f y).yb=y.yb)(j:Nat)(ts:List Tk):(jJ f j ts).map gn=ts.map gn:=by
 unfold jJ
 conv=>rhs;rw[← List.take_append_drop j ts]
 rw[List.map_append,List.map_append,List.map_map]
 congr 1
 refine List.map_congr_left fun y _=>?_
 grind [gn]
theorem ED(ts:List Tk)(d:Dg)(m:List UInt8)(l:List (List UInt8))(k:Nat)(hk:∀n,qa m=some n→k=n):kq (ts.map (fP (EJ m l) d k (l.map hz)))=oB (kq ts) d m l:=by
 unfold oB EJ
 cases hm:qa m with
 | none =>
  simp only[Option.isSome_none,Bool.false_and]
  have:ts.map (fP false d k (l.map hz))=ts:=by
   conv=>rhs;rw[← List.map_id ts]
   refine List.map_congr_left fun y _=>?_
   grind [fP]
  rw[this]
 | some n =>
  obtain rfl:=hk n hm
  simp only[Option.isSome_some,Bool.true_and]
  cases ha:l.all (fun b=>(gC b).isSome)with
  | false =>
   rw[q7 l ha]
   have:ts.map (fP false d k (l.map hz))=ts:=by
    conv=>rhs;rw[← List.map_id ts]
    refine List.map_congr_left fun y _=>?_
    grind [fP]
   rw[this]
  | true =>
   rw[q6 l ha]
   unfold kq
   simp only
   rw[List.map_map,List.map_map]
   refine List.map_congr_left fun y _=>?_
   unfold fP
   simp only[true_and,Function.comp]
   split
   ·rename_i h
    exact(if_pos (α:=TC) (t:=y.c.put k (l.map hz)) (e:=y.c) h).symm
   ·rename_i h
    exact(if_neg (α:=TC) (t:=y.c.put k (l.map hz)) (e:=y.c) h).symm
attribute [local irreducible] J K aw Ends ag aH au bE aW aJ a6 aZ bI aG
def H4(Z:HP)(tb bs jb:Nat)(tv:Value)(br:Bool)(ts:List Tk)(d:Dg)(mv:Value)(m:List UInt8)(l:List (List UInt8))(hv:qx Z mv (m::l))(hm:∀x∈m::l,x.length≤65536)(uh:(m::l).length≤65536)(hl:ts.length≤1000000)(hn:∀y∈ts,y.n≤65536)(hw:∀y∈ts,y.n≤y.ws.length*64) :
  aw Tryz.prog 199 [ptr tb,dV d,mv] (kC tb bs jb tv ts br++[Z]) (fun r H=>r = .tuple #[]∧∃k:Nat,(∀n,qa m=some n→k=n)∧H=kC tb bs jb tv (ts.map (fP (EJ m l) d k (l.map hz))) br++[Z]):=by
 obtain⟨cs,dt,jF,⟨ma,mc,rfl,hmc⟩,rU⟩:=hv
 obtain⟨c0,sF,CQ⟩:=rU 0 m rfl
 have ae3:=oA Z c0 m CQ (by have:=hm m (List.mem_cons_self ..);omega)
 obtain⟨bb,oo,cc,he⟩:=dt.some (by intro h;rw[h]at jF;simp at jF)
 obtain⟨rfl,rfl⟩:=he
 refine aw.ao Tryz.func199 Tryz.ntmps199 fun G F R hE=>?_
 refine aN rfl ?_
 refine bC zr zr bq ?_
 intro b4
 refine aR (ak.pick [4] rfl) (go ?_)
 refine bD 0 zr zr zr zr zr zr zr zr (by simp) ?_
 refine aS ?_
 refine aP 0 0 zr zr zr dt rfl sF zr zr ?_
 refine az ae3 ?_
 rintro _ _⟨rfl,k,Kv,rfl,Bk⟩
 refine go ?_
 refine bo (p:=1) (q:=((m::l).length:Int)) zr zr zr zr zr zr zr aj (by simp only[List.length_cons];omega) (.inl rfl) ?_
 ((refine aC 23 ((.slice (sliceAt (some ⟨bb,oo,none⟩) mc 1 1) l.length (mc-1))) rfl ((by rw[show((m::l).length:Int).toNat=l.length+1 from by simp[List.length_cons],show(1:Int).toNat=1 from rfl,show l.length+1-1=l.length by omega];rfl)) ?_))
 have Cx:=dt.JA (s:=1) (by rw[jF];simp) hmc 1 (by simp)
 simp only[List.length_cons]at uh hmc
 have afn:∀(j:Nat) (x:List UInt8),l[j]?=some x→∃cv,(cs.drop (1*1))[j]?=some cv∧fb Z cv x:=fun j x hx=>by
  simp_all
 have hmr:∀x∈l,x.length≤65536:=fun x hx=>hm x (List.mem_cons_of_mem _ hx)
 have aeZ:EJ m (l.take 0)=(qa m).isSome:=by unfold EJ;simp
 refine go ?_
 refine ai (bp 35 32 none _) ?_
 rw[← aeZ]
 refine bj (fun y:Nat × Option Addr × Nat=>y.1≤l.length) (fun y=>l.length-y.1)
  (fun y=>[(0,ptr tb),(4,ptr b4),(6,.int .i64 (k:Int)),(7,.bool (EJ m (l.take y.1))),(8,.slice y.2.1 ((l.take y.1).map hz).length y.2.2),(23,.slice (sliceAt (some ⟨bb,oo,none⟩) mc 1 1) l.length (mc-1)),(24,.int .i64 (l.length:Int)),(25,.int .i64 (y.1:Int))])
  (fun y=>aH 35 32 (.slice y.2.1 ((l.take y.1).map hz).length y.2.2) ((l.take y.1).map hz).length (((l.take y.1).map hz).flatMap dC)::Z::ag b4 (cl (dC d) 35)::ag tb (cl [ptr bs,ptr jb,tv,.bool br] 216)::aH 217 1 tv ts.length (ts.map gn)::cD ts::F) (0,none,0) (Nat.zero_le _) rfl bO ah ?_
 rintro⟨j,pa,pc⟩ hj ih
 dsimp only
 refine go ?_
 refine aD zr zr ?_ ?_
 ·intro cB
  have pG:j<l.length:=by omega
  obtain⟨x,hx⟩:∃x,l[j]?=some x:=⟨l[j],by simp⟩
  obtain⟨cv,n5,tM⟩:=afn j x hx
  have hph:=su Z cv x tM (by have:=hmr x (List.mem_of_getElem? hx);omega)
  have l6:l.take (j+1)=l.take j++[x]:=by rw[List.take_add_one,hx];rfl
  have uf:((l.take j).map hz).length=j:=by rw[List.length_map,List.length_take];omega
  have hp1:((l.take j).map hz).flatMap dC++dC (hz x)=((l.take (j+1)).map hz).flatMap dC:=by rw[l6];simp
  have hp2:((l.take j).map hz).length+1=((l.take (j+1)).map hz).length:=by rw[l6];simp
  have mL:EJ m (l.take (j+1))=(EJ m (l.take j) && (gC x).isSome):=by rw[l6,OP]
  have hsa:sliceAt (some ⟨bb,oo,none⟩) mc 1 1=some ⟨bb,oo+1,none⟩:=by
   unfold sliceAt
   rw[if_neg aj]
   rfl
  have acV:=Cx
  rw[hsa]at acV
  refine aQ 23 (.slice (some ⟨bb,oo+1,none⟩) l.length (mc-1)) rfl (by rw[hsa]) (go ?_)
  refine bD j zr zr zr zr zr zr zr zr pG ?_
  refine aS ?_
  refine aP 1 j zr zr zr acV rfl n5 zr zr (go ?_)
  refine aF hph ?_
  refine go ?_
  refine aB zr zr zr bq ?_
  intro b11
  cases hoj:EJ m (l.take j)
  all_goals(
   rw[hoj]at mL
   refine go ?_
   ((refine aC 7 ((.bool (EJ m (l.take (j+1))))) rfl ((congrArg Value.bool (by rw[mL];rfl))) ?_))
   refine go ?_
   refine aV (U:=aY) (l:=dC (hz x)) 0 zr zr zr zr zr zr ?_
   refine aq (cs:=dC (hz x)) zr zr zr zr zr zr zr zr zr bq ?_
   intro row
   refine go ?_
   refine aU (mm:=1) (news:=dC (hz x)) 3 0 zr zr zr zr zr zr zr zr zr zr zr zr (Vw.ag rfl) rfl (by rw[eF];exact dL _) aj (by show(((l.take j).map hz).length+1)*32≤_;omega) (fun _=>rfl) bq ?_
   intro v1
   rw[hp1,hp2]
   refine aM 3 rfl ?_
   rintro ja jc rfl
   refine go ?_
   refine aQ 23 ((.slice (sliceAt (some ⟨bb,oo,none⟩) mc 1 1) l.length (mc-1))) rfl ((by rw[hsa])) ?_
   refine aK ih (j+1,ja,jc) rfl (by simp only;omega) (by simp only;omega) bO ah)
 ·intro eN
  have MF:j=l.length:=by omega
  subst MF
  rw[List.take_length]
  obtain⟨p,hp⟩:∃p,p=l.map hz:=⟨_,rfl⟩
  obtain⟨ok,mL⟩:∃ok,ok=EJ m l:=⟨_,rfl⟩
  have uf:p.length≤65536:=by rw[hp,List.length_map];omega
  rw[← hp,← mL]at hE ⊢
  have hfy:=adR ok d k p
  refine ai (ak.pick [4] rfl) ?_
  refine cU 0 rfl ?_
  rintro ta tc rfl
  refine dz 0 rfl ?_
  intro hvt
  refine go ?_
  refine bj (fun j:Nat=>j≤ts.length) (fun j=>ts.length-j)
   (fun j=>[(0,ptr tb),(4,ptr b4),(6,.int .i64 (k:Int)),(7,.bool ok),(8,.slice pa p.length pc),(46,.slice ta ts.length tc),(47,.int .i64 (ts.length:Int)),(48,.int .i64 (j:Int))])
   (fun j=>ag tb (cl [ptr bs,ptr jb,.slice ta ts.length tc,.bool br] 216)::aH 217 1 (.slice ta ts.length tc) ts.length (ts.map gn)::cD (jJ (fP ok d k p) j ts)::aH 35 32 (.slice pa p.length pc) p.length (p.flatMap dC)::ag b4 (cl (dC d) 35)::Z::F) 0 (Nat.zero_le _) rfl bO ah ?_
  intro j hj ih
  refine go ?_
  refine aD zr zr ?_ ?_
  ·intro cB
   have pG:j<ts.length:=by omega
   obtain⟨y,hy⟩:∃y,ts[j]?=some y:=⟨ts[j],by simp⟩
   have hym:=List.mem_of_getElem? hy
   have hyn:=hn y hym
   have hyw:=hw y hym
   have hgy:(jJ (fP ok d k p) j ts)[j]?=some y:=by rw[L4,hy]
   have jL:=L3 (fP ok d k p) hy
   obtain⟨b9,o9,c9,he9⟩:=hvt.some (Oq pG)
   obtain⟨rfl,rfl⟩:=he9
   refine go ?_
   refine bD j zr zr zr zr zr zr zr zr pG ?_
   refine aS ?_
   refine aP 1 j zr zr zr hvt rfl (qD hy) zr zr (go ?_)
   refine ai (ak.pick [2] rfl) ?_
   refine ai (zL hgy _) ?_
   have jW:∀H,ak (pL (fP ok d k p y)::cD ((jJ (fP ok d k p) j ts).take j++(jJ (fP ok d k p) j ts).drop (j+1))::H) (cD (jJ (fP ok d k p) (j+1) ts)::H):=fun H=>by rw[← jL];exact Oo hgy _ H
   refine cG (jz y) ?_
   rintro⟨wv,Kz,M⟩ hz2
   have mA:∀H,ak (ag y.yb (cl (uu y) 221)::ag y.sb (cl [.int .i64 (y.n:Int),wv] 460)::aH 38 1 wv y.ws.length (qV y.ws)::au (Value.int .i64) y.mb Kz::a6 35 M::cD ((jJ (fP ok d k p) j ts).take j++(jJ (fP ok d k p) j ts).drop (j+1))::H) (pL y::cD ((jJ (fP ok d k p) j ts).take j++(jJ (fP ok d k p) j ts).drop (j+1))::H):=fun H=>ak.trans (H2:=Bw y (wv,Kz,M)++(cD ((jJ (fP ok d k p) j ts).take j++(jJ (fP ok d k p) j ts).drop (j+1))::H)) ah (mP hz2 _)
   have tJ:fP ok d k p y=y→∀H,ak (ag y.yb (cl (uu y) 221)::ag y.sb (cl [.int .i64 (y.n:Int),wv] 460)::aH 38 1 wv y.ws.length (qV y.ws)::au (Value.int .i64) y.mb Kz::a6 35 M::cD ((jJ (fP ok d k p) j ts).take j++(jJ (fP ok d k p) j ts).drop (j+1))::H) (cD (jJ (fP ok d k p) (j+1) ts)::H):=fun h H=>by
    have:=jW H
    rw[h]at this
    exact(mA H).trans this
   refine aO (fun w=>Sat G w ([ag y.yb (cl (uu y) 221),ag b4 (cl (dC d) 35)])) (cM 0 16 (.act 16 (cM 17 9 (.st 27 (.act 26 (.act 28 (.st 29 (.st 30 .nil)))))))) rfl ae ae ae dv ?_
   cases ok with
   | false =>
    have Pv:fP false d k p y=y:=by unfold fP;rw[if_neg (by simp)]
    refine go ?_
    refine ai (ak.trans ah (tJ Pv (ag tb (cl [ptr bs,ptr jb,.slice (some ⟨b9,o9,none⟩) ts.length tc,.bool br] 216)::aH 217 1 (.slice (some ⟨b9,o9,none⟩) ts.length tc) ts.length (ts.map gn)::aH 35 32 (.slice pa p.length pc) p.length (p.flatMap dC)::ag b4 (cl (dC d) 35)::Z::F))) ?_
    refine aK ih (j+1) rfl aj aj bO ah
   | true =>
   refine go ?_
   refine cE (U:=aY) (cs:=dC y.x.d) 0 zr zr zr zr zr zr (go ?_)
   refine cm (U:=aY) (l:=dC d) 1 zr zr zr zr zr zr (go ?_)
   refine nM (b:=decide (y.x.d=d)) zr zr zr Jl (fun w=>Jx y.x.d d w) ?_
   by_cases hyd:y.x.d=d
   case neg =>
    rw[decide_eq_false hyd]
    have Pv:fP true d k p y=y:=by unfold fP;rw[if_neg (fun h=>hyd h.2.1)]
    refine go ?_
    refine ai (ak.trans ah (tJ Pv (ag tb (cl [ptr bs,ptr jb,.slice (some ⟨b9,o9,none⟩) ts.length tc,.bool br] 216)::aH 217 1 (.slice (some ⟨b9,o9,none⟩) ts.length tc) ts.length (ts.map gn)::aH 35 32 (.slice pa p.length pc) p.length (p.flatMap dC)::ag b4 (cl (dC d) 35)::Z::F))) ?_
    refine aK ih (j+1) rfl aj aj bO ah
   rw[decide_eq_true hyd]
   refine go ?_
   refine bP (xz y.sb y.n wv) ?_
   refine go ?_
   by_cases hkn:k<y.n
   case neg =>
    have Pv:fP true d k p y=y:=by unfold fP;rw[if_neg (fun h=>hkn h.2.2.1)]
    refine aC 71 ((.bool false)) rfl ((congrArg Value.bool (decide_eq_false aj))) (go ?_)
    refine ai (ak.trans ah (tJ Pv (ag tb (cl [ptr bs,ptr jb,.slice (some ⟨b9,o9,none⟩) ts.length tc,.bool br] 216)::aH 217 1 (.slice (some ⟨b9,o9,none⟩) ts.length tc) ts.length (ts.map gn)::aH 35 32 (.slice pa p.length pc) p.length (p.flatMap dC)::ag b4 (cl (dC d) 35)::Z::F))) ?_
    refine aK ih (j+1) rfl aj aj bO ah
   refine aC 71 ((.bool true)) rfl ((congrArg Value.bool (decide_eq_true aj))) (go ?_)
   refine bP (xz y.sb y.n wv) ?_
   refine go ?_
   refine bP (zG (y.n:Int) (k:Int)) ?_
   refine go ?_
   by_cases hpd:p.length=iX y.n k
   case neg =>
    have Pv:fP true d k p y=y:=by unfold fP;rw[if_neg (fun h=>hpd h.2.2.2)]
    refine aQ 82 ((.bool false)) rfl ((congrArg Value.bool (decide_eq_false aj))) (go ?_)
    refine ai (ak.trans ah (tJ Pv (ag tb (cl [ptr bs,ptr jb,.slice (some ⟨b9,o9,none⟩) ts.length tc,.bool br] 216)::aH 217 1 (.slice (some ⟨b9,o9,none⟩) ts.length tc) ts.length (ts.map gn)::aH 35 32 (.slice pa p.length pc) p.length (p.flatMap dC)::ag b4 (cl (dC d) 35)::Z::F))) ?_
    refine aK ih (j+1) rfl aj aj bO ah
   refine aQ 82 ((.bool true)) rfl ((congrArg Value.bool (decide_eq_true aj))) ?_
   have Pv:fP true d k p y=y.put k p:=by unfold fP;rw[if_pos ⟨rfl,hyd,hkn,hpd⟩]
   rw[Pv]at jW
   refine ai (ak.trans ah (mA (ag tb (cl [ptr bs,ptr jb,.slice (some ⟨b9,o9,none⟩) ts.length tc,.bool br] 216)::aH 217 1 (.slice (some ⟨b9,o9,none⟩) ts.length tc) ts.length (ts.map gn)::aH 35 32 (.slice pa p.length pc) p.length (p.flatMap dC)::ag b4 (cl (dC d) 35)::Z::F))) ?_
   refine ai (H':=aH 35 32 (.slice pa p.length pc) p.length (p.flatMap dC)::pL y::cD ((jJ (fP true d k p) j ts).take j++(jJ (fP true d k p) j ts).drop (j+1))::ag tb (cl [ptr bs,ptr jb,.slice (some ⟨b9,o9,none⟩) ts.length tc,.bool br] 216)::aH 217 1 (.slice (some ⟨b9,o9,none⟩) ts.length tc) ts.length (ts.map gn)::ag b4 (cl (dC d) 35)::Z::F) ah ?_
   refine dz 0 rfl ?_
   intro ud
   have xR:=KP y k hkn hyn hyw _ (.slice pa p.length pc) p ud aj
   refine go ?_
   refine aF xR ?_
   refine go ?_
   refine ai (ak.pick [0,2,3,4] rfl) ?_
   refine ai (jW _) ?_
   refine aK ih (j+1) rfl aj aj bO ah
  ·intro eN
   have MF:j=ts.length:=by omega
   subst MF
   rw[Cl]
   have hmp:(ts.map (fP ok d k p)).map gn=ts.map gn:=by rw[← Cl];exact L2 _ hfy _ _
   have ae7:(ts.map (fP ok d k p)).length=ts.length:=List.length_map ..
   refine go ?_
   refine ai (H':=ag tb (cl [ptr bs,ptr jb,.slice ta ts.length tc,.bool br] 216)::aH 217 1 (.slice ta ts.length tc) (ts.map (fP ok d k p)).length ((ts.map (fP ok d k p)).map gn)::cD (ts.map (fP ok d k p))::Z::F) (by rw[hmp,ae7];exact ah) ?_
   refine bB hE Tryz.func199 rfl _ rfl ⟨rfl,k,Bk,rfl⟩ ah
end Go.Proofs.YtjpboghdolfekaaGreatDoor
namespace Go.Proofs.YtjpboghdolfekaaGreatDoor
open Go Go.SL
variable{d:Dg}{b:List UInt8}
def M4(ts:List Tk)(d:Dg):kq (OE ts d)=OF (kq ts) d:=by
 unfold kq OE OF
 rw[List.filter_map]
 rfl
def Hu(ts:List Tk)(y:Tk):kq (ts++[y])=kq ts++[y.c]:=by simp[kq]
def abc(k:UInt8)(n:Nat)(hn:n<256):decide ((k.toNat:Int)=(n:Int))=decide (k=UInt8.ofNat n):=by
 rw[decide_eq_decide]
 constructor
 ·intro h
  have h2:k.toNat=n:=by omega
  rw[← h2]
  exact(UInt8.ofNat_toNat).symm
 ·rintro rfl
  rw[UInt8.toNat_ofNat']
  omega
def D6{cs:List TC}(h:jf b=none):fI cs b=cs:=by unfold fI;rw[h]
def KV{cs:List TC}(h:jf b=some (3,d,[])):fI cs b=OF cs d:=by unfold fI;rw[h];simp
theorem Bx{cs:List TC}{m:List UInt8}{l:List (List UInt8)}(h:jf b=some (2,d,m::l)):fI cs b=oB cs d m l:=by
 grind [fI]
theorem By{cs:List TC}{s p r:List UInt8}(h:jf b=some (1,d,[s,p,r])):fI cs b=(match qa s,qa p,gC r with
  | some s,some p,some r=>if bY ⟨d,s,p,r⟩then OF cs d++[sG ⟨d,s,p,r⟩]else cs
  | _,_,_=>cs):=by
 grind [fI]
theorem mQ{cs:List TC}{k:UInt8}{l:List (List UInt8)}(h:jf b=some (k,d,l))(h3:¬(k=3∧l.length=0))(h1:¬(k=1∧l.length=3))(h2:¬(k=2∧0<l.length)):fI cs b=cs:=by
 grind [fI]
attribute [local irreducible] J K aw Ends ag aH au bE aW aJ a6 aZ bI aG
theorem KU(X:HP)(tb bs jb:Nat)(tv:Value)(br:Bool)(ts:List Tk)(bv:Value)(b:List UInt8)(hb:fb X bv b)(uj:b.length≤1000000)(hl:ts.length≤900000)(hn:∀y∈ts,y.n≤65536)(hw:∀y∈ts,y.n≤y.ws.length*64) :
  aw Tryz.prog 117 [ptr tb,bv] (kC tb bs jb tv ts br++[X]) (fun r H=>r = .tuple #[]∧∃(KO:List Tk) (HV:Value),kq KO=fI (kq ts) b∧H=kC tb bs jb HV KO br++[X]):=by
 have xD:=Is X bv b hb uj
 have hrm:=fun d=>Ez tb bs jb tv br ts d aj
 refine aw.ao Tryz.func117 Tryz.ntmps117 fun G F R hE=>?_
 refine go ?_
 refine az xD ?_
 rintro _ _ (⟨hn0,⟨k,d,ma,mn,mc,rfl⟩,rfl⟩|⟨k,d,more,mv,Z,hr,mz,hm1,hm2,rfl,rfl⟩)
 ·refine go ?_
  refine aB zr zr zr bq ?_
  intro b5
  refine go ?_
  refine bB hE Tryz.func117 rfl _ rfl ⟨rfl,ts,tv,(D6 hn0).symm,rfl⟩ ah
 have adn:=mz
 obtain⟨cs,dt,jF,⟨ma,mc,rfl,hmc⟩,rU⟩:=mz
 refine go ?_
 refine aB zr zr zr bq ?_
 intro b5
 refine go ?_
 have gf:∀j:Nat,j<256→k≠UInt8.ofNat j→decide ((k.toNat:Int)=(j:Int))=false:=fun j hj h=>by rw[abc k j hj];exact decide_eq_false h
 have fR:fI (kq ts) b=kq ts→∃(KO:List Tk) (HV:Value),kq KO=fI (kq ts) b∧[ag tb (cl [ptr bs,ptr jb,tv,.bool br] 216),aH 217 1 tv ts.length (ts.map gn),cD ts]++[X]=[ag tb (cl [ptr bs,ptr jb,HV,.bool br] 216),aH 217 1 HV KO.length (KO.map gn),cD KO]++[X]:=fun h=>⟨ts,tv,h.symm,rfl⟩
 by_cases h3:k=3
 ·subst h3
  by_cases h0:more.length=0
  ·have hmn:more=[]:=List.eq_nil_of_length_eq_zero h0
   subst hmn
   have rT:=KV (cs:=kq ts) hr
   refine go ?_
   refine aV (U:=aY) (l:=dC d) 0 zr zr zr zr zr zr ?_
   refine az (hrm d) ?_
   rintro _ _⟨rfl,HV,rfl⟩
   refine go ?_
   (refine bB hE Tryz.func117 rfl _ rfl ⟨rfl,OE ts d,HV,by rw[M4,rT],rfl⟩ ah)
  ·have rT:=mQ (cs:=kq ts) hr (fun h=>h0 h.2) (fun h=>absurd h.1 (by decide)) (fun h=>absurd h.1 (by decide))
   refine go ?_
   refine aQ 25 ((.bool false)) rfl ((congrArg Value.bool (decide_eq_false aj))) (go ?_)
   refine bB hE Tryz.func117 rfl _ rfl ⟨rfl,fR rT⟩ ah
 have hn3:=gf 3 aj h3
 refine aC 28 ((.bool false)) rfl ((congrArg Value.bool hn3)) ?_
 by_cases h1:k=1
 ·subst h1
  by_cases h0:more.length=3
  case neg =>
   have rT:=mQ (cs:=kq ts) hr (fun h=>absurd h.1 (by decide)) (fun h=>h0 h.2) (fun h=>absurd h.1 (by decide))
   refine go ?_
   refine aQ 36 ((.bool false)) rfl ((congrArg Value.bool (decide_eq_false aj))) (go ?_)
   refine bB hE Tryz.func117 rfl _ rfl ⟨rfl,fR rT⟩ ah
  obtain⟨ms,mp,mr,rfl⟩:∃ms mp mr,more=[ms,mp,mr]:=by
   match more,h0 with
   | [ms,mp,mr],_=>exact⟨ms,mp,mr,rfl⟩
  have rT:=By (cs:=kq ts) hr
  obtain⟨c0,sF,CQ⟩:=rU 0 ms rfl
  obtain⟨c1,CP,pH⟩:=rU 1 mp rfl
  obtain⟨c2,hc2,pR⟩:=rU 2 mr rfl
  have hq0:=oA Z c0 ms CQ (by have:=hm1 ms (by simp);omega)
  have hq1:=oA Z c1 mp pH (by have:=hm1 mp (by simp);omega)
  have hq2:=su Z c2 mr pR (by have:=hm1 mr (by simp);omega)
  obtain⟨bb,oo,cc,he⟩:=dt.some (by intro h;rw[h]at jF;simp at jF)
  obtain⟨rfl,rfl⟩:=he
  refine aR (H':=ag b5 (cl (dC d) 35)::Z::ag tb (cl [ptr bs,ptr jb,tv,.bool br] 216)::aH 217 1 tv ts.length (ts.map gn)::cD ts::X::F) ah (go ?_)
  refine bD 0 zr zr zr zr zr zr zr zr (by simp) ?_
  refine aS ?_
  refine aP 1 0 zr zr zr dt rfl sF zr zr ?_
  refine az hq0 ?_
  rintro _ _⟨rfl,k1,Kv,rfl,afd⟩
  refine go ?_
  refine bD 1 zr zr zr zr zr zr zr zr (by simp) ?_
  refine aS ?_
  refine aP 0 1 zr zr zr dt rfl CP zr zr ?_
  refine az hq1 ?_
  rintro _ _⟨rfl,k2,Bk,rfl,afb⟩
  refine go ?_
  refine bD 2 zr zr zr zr zr zr zr zr (by simp) ?_
  refine aS ?_
  refine aP 0 2 zr zr zr dt rfl hc2 zr zr ?_
  refine aF hq2 ?_
  refine go ?_
  refine aB zr zr zr bq ?_
  intro b12
  refine go ?_
  refine aV (U:=aY) (l:=dC d) 2 zr zr zr zr zr zr (go ?_)
  refine aV (U:=aY) (l:=dC (hz mr)) 0 zr zr zr zr zr zr (go ?_)
  obtain⟨x,hx⟩:∃x:Bl,x=⟨d,(k1:Int),(k2:Int),hz mr⟩:=⟨_,rfl⟩
  refine aB zr zr zr bq ?_
  intro b14
  refine go ?_
  ((refine aR (H':=ag b14 (cl (dN x) 182)::ag b5 (cl (dC d) 35)::ag tb (cl [ptr bs,ptr jb,tv,.bool br] 216)::aH 217 1 tv ts.length (ts.map gn)::cD ts::X::F) ((by rw[hx];exact ah)) ?_))
  have vU:=mH x
  cases e0:qa ms with
  | none =>
   rw[e0]at rT
   refine go ?_
   refine bB hE Tryz.func117 rfl _ rfl ⟨rfl,fR rT⟩ ah
  | some v0 =>
  obtain rfl:=afd v0 e0
  rw[e0]at rT
  cases e1:qa mp with
  | none =>
   rw[e1]at rT
   refine go ?_
   refine bB hE Tryz.func117 rfl _ rfl ⟨rfl,fR rT⟩ ah
  | some v1 =>
  obtain rfl:=afb v1 e1
  rw[e1]at rT
  cases e2:gC mr with
  | none =>
   rw[e2]at rT
   refine go ?_
   refine bB hE Tryz.func117 rfl _ rfl ⟨rfl,fR rT⟩ ah
  | some v2 =>
  have qX:hz mr=v2:=by unfold hz;rw[e2];rfl
  rw[e2]at rT
  simp only at rT
  rw[qX]at hx
  rw[← hx]at rT
  refine go ?_
  refine aV (U:=aY) (l:=dN x) 0 zr zr zr zr zr zr ?_
  ((refine go ?_;(refine az vU ?_)))
  rintro _ _⟨rfl,rfl⟩
  cases QB:bY x with
  | false =>
   rw[QB]at rT
   refine go ?_
   refine bB hE Tryz.func117 rfl _ rfl ⟨rfl,fR rT⟩ ah
  | true =>
  rw[QB]at rT
  simp only[if_true]at rT
  have Hc:=Jr x
  refine aR (H':=ag b5 (cl (dC d) 35)::ag tb (cl [ptr bs,ptr jb,tv,.bool br] 216)::aH 217 1 tv ts.length (ts.map gn)::cD ts::X::ag b14 (cl (dN x) 182)::F) ah (go ?_)
  refine aV (U:=aY) (l:=dC d) 0 zr zr zr zr zr zr ?_
  refine az (hrm d) ?_
  rintro _ _⟨rfl,HV,rfl⟩
  refine aR (H':=ag tb (cl [ptr bs,ptr jb,HV,.bool br] 216)::aH 217 1 HV (OE ts d).length ((OE ts d).map gn)::cD (OE ts d)::X::ag b14 (cl (dN x) 182)::F) ah ?_
  have E8:(OE ts d).length≤ts.length:=List.length_filter_le _ _
  obtain⟨us,Oe⟩:∃us,us=OE ts d:=⟨_,rfl⟩
  rw[← Oe]at E8 ⊢
  have hcu:kq us=OF (kq ts) d:=by rw[Oe,M4]
  refine go ?_
  refine cU 1 rfl ?_
  rintro ua uc rfl
  refine aO (fun w=>Sat G w ([ag tb (cl [ptr bs,ptr jb,.slice ua us.length uc,.bool br] 216),ag b14 (cl (dN x) 182)])) (cM 0 6 (.act 6 (.act 7 (.act 8 (.st 9 (.st 10 (.act 11 .nil))))))) rfl ae ae ae dv ?_
  refine go ?_
  refine cm (U:=aY) (l:=dN x) 1 zr zr zr zr zr zr (go ?_)
  refine cP Hc ?_
  rintro _ _⟨y,rfl,rfl,hy1,O6,hy3,hy4⟩
  refine go ?_
  refine aq (cs:=[ptr y.yb]) zr zr zr zr zr zr zr zr zr (fun _ w hw=>hw.cp ah) ?_
  intro r1
  refine go ?_
  refine aU (mm:=1) (news:=[ptr y.yb]) 3 0 rfl rfl rfl rfl rfl rfl rfl rfl rfl rfl rfl rfl (Vw.ag rfl) rfl (by intro v hv;simp at hv;rw[hv];rfl) aj (by show(_+_)*8≤_;omega) (fun _=>rfl) (fun _ w hw=>hw.cp ah) ?_
  intro v1
  refine aM 3 rfl ?_
  rintro ka kc rfl
  refine go ?_
  have hmp:us.map gn++[ptr y.yb]=(us++[y]).map gn:=by simp[gn]
  have uh:us.length+1=(us++[y]).length:=by simp
  have Aq:=uV us [] y
  rw[List.append_nil]at Aq
  rw[hmp,uh]
  refine ai (ak.pick [1,4,2,3,5] rfl) ?_
  refine ai (Aq _) ?_
  have Z7:y.c=sG x:=by
   grind [Tk.c,sG]
  (refine bB hE Tryz.func117 rfl _ rfl ⟨rfl,us++[y],_,by rw[Hu,hcu,Z7,rT],rfl⟩ ah)
 have hn1:=gf 1 aj h1
 by_cases h2:k=2
 ·subst h2
  by_cases h0:0<more.length
  case neg =>
   have rT:=mQ (cs:=kq ts) hr (fun h=>absurd h.1 (by decide)) (fun h=>absurd h.1 (by decide)) (fun h=>h0 h.2)
   refine go ?_
   refine aQ 95 ((.bool false)) rfl ((congrArg Value.bool (decide_eq_false aj))) (go ?_)
   refine bB hE Tryz.func117 rfl _ rfl ⟨rfl,fR rT⟩ ah
  obtain⟨m,l,rfl⟩:∃m l,more=m::l:=by
   match more,h0 with
   | m::l,_=>exact⟨m,l,rfl⟩
  have rT:=Bx (cs:=kq ts) hr
  have htp:=H4 Z tb bs jb tv br ts d _ m l adn hm1 hm2 aj hn hw
  refine go ?_
  refine aQ 95 ((.bool true)) rfl ((congrArg Value.bool (decide_eq_true aj))) (go ?_)
  refine aV (U:=aY) (l:=dC d) 0 zr zr zr zr zr zr ?_
  ((refine go ?_;(refine az htp ?_)))
  rintro _ _⟨rfl,kk,hkk,rfl⟩
  refine go ?_
  (refine bB hE Tryz.func117 rfl _ rfl ⟨rfl,ts.map (fP (EJ m l) d kk (l.map hz)),tv,by rw[ED ts d m l kk hkk,rT],rfl⟩ ah)
 have hn2:=gf 2 aj h2
 have rT:=mQ (cs:=kq ts) hr (fun h=>h3 h.1) (fun h=>h1 h.1) (fun h=>h2 h.1)
 refine go ?_
 refine aC 39 ((.bool false)) rfl ((congrArg Value.bool hn1)) (go ?_)
 refine aC 98 ((.bool false)) rfl ((congrArg Value.bool hn2)) (go ?_)
 refine bB hE Tryz.func117 rfl _ rfl ⟨rfl,fR rT⟩ ah
end Go.Proofs.YtjpboghdolfekaaGreatDoor
