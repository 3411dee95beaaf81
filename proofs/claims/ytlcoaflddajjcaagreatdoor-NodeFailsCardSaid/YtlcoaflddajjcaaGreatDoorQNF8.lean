import Derived.Test.YtlcoaflddajjcaaGreatDoorQNF3
import Derived.Test.YtlcoaflddajjcaaGreatDoorQNF4
import Derived.Test.YtlcoaflddajjcaaGreatDoorQNF5
import Derived.Test.YtlcoaflddajjcaaGreatDoorQNF6
import Derived.Test.YtlcoaflddajjcaaGreatDoorQNF7
set_option linter.unusedSimpArgs false
set_option linter.unusedVariables false
set_option maxRecDepth 20000
set_option linter.defProp false
namespace Go.Proofs.YtlcoaflddajjcaaGreatDoor
open Go Go.SL
variable{bs:List UInt8}{k n:Nat}
attribute [local irreducible] J K au Ends ae aB aI bB aW aS a7 aX
def wj(n:Nat)(h:n<9223372036854775808):au Tryz.prog 336 [.int .i64 (n:Int)] [] (fun v H=>∃b,v = .slice (some ⟨b,0,none⟩) 4 4∧H=[ae b (cl (bV (CB n)) 5)]):=by
 refine au.ak Tryz.func336 Tryz.ntmps336 fun G F R hE=>?_
 (repeat(first|refine er ?_|refine gR zr zr zr zr zr zr ?_|refine iI zr zr zr ai ?_))
 refine aG 4 (u8 (UInt8.ofNat n)) rfl (kA n) ?_
 refine aG 7 (u8 (UInt8.ofNat (n/256))) rfl (by rw[show(n:Int)/2 ^ (min (Int.toNat 8) IntKind.i64.bits)=((n/256:Nat):Int)from by show(n:Int)/256=_;omega];exact kA _) ?_
 refine aG 10 (u8 (UInt8.ofNat (n/65536))) rfl (by rw[show(n:Int)/2 ^ (min (Int.toNat 16) IntKind.i64.bits)=((n/65536:Nat):Int)from by show(n:Int)/65536=_;omega];exact kA _) ?_
 refine aG 13 (u8 (UInt8.ofNat (n/16777216))) rfl (by rw[show(n:Int)/2 ^ (min (Int.toNat 24) IntKind.i64.bits)=((n/16777216:Nat):Int)from by show(n:Int)/16777216=_;omega];exact kA _) ?_
 refine aj (cs:=bV (CB n)) zr zr zr zr zr zr zr zr zr bh ?_
 intro b
 refine go ?_
 refine ad hE Tryz.func336 zr zr ⟨b,rfl,rfl⟩
def BL(A:HP)(v:Value)(bs:List UInt8)(hv:Vw A v bs.length (bV bs))(h:4≤bs.length):au Tryz.prog 231 [v] [A] (fun r H=>r = .int .i64 (pK bs:Int)∧H=[A]):=by
 obtain⟨b,o,c,rfl⟩:=Nt hv ai
 have hx:∀x:UInt8,x.toNat<256:=fun x=>x.toNat_lt
 have h0:=hx (bs.getD 0 0);have h1:=hx (bs.getD 1 0);have h2:=hx (bs.getD 2 0);have h3:=hx (bs.getD 3 0)
 refine au.ak Tryz.func231 Tryz.ntmps231 fun G F R hE=>?_
 refine go ?_
 refine aL (fun w=>Sat G w ([A])) (mz 0 23 .nil) rfl ah ah ah dv ?_
 refine go ?_
 refine bp 0 zr zr zr zr zr zr zr zr ai ?_
 refine cO 0 0 zr zr zr hv rfl (ve ai) zr zr (go ?_)
 refine bp 1 zr zr zr zr zr zr zr zr ai ?_
 refine cO 0 1 zr zr zr hv rfl (ve ai) zr zr (go ?_)
 refine pt zr zr zr ai ?_
 refine aG 11 (.int .i64 (((bs.getD 1 0).toNat*2 ^ 8:Nat):Int)) rfl (vO (q:=8) _ rfl ai) (go ?_)
 refine aG 12 (.int .i64 (((bs.getD 0 0).toNat+(bs.getD 1 0).toNat*2 ^ 8:Nat):Int)) rfl (congrArg (Value.int .i64) (EU ai ai)) ?_
 refine bp 2 zr zr zr zr zr zr zr zr ai ?_
 refine cO 0 2 zr zr zr hv rfl (ve ai) zr zr (go ?_)
 refine pt zr zr zr ai ?_
 refine aG 17 (.int .i64 (((bs.getD 2 0).toNat*2 ^ 16:Nat):Int)) rfl (vO (q:=16) _ rfl ai) (go ?_)
 refine aG 18 (.int .i64 (((bs.getD 0 0).toNat+(bs.getD 1 0).toNat*2 ^ 8+(bs.getD 2 0).toNat*2 ^ 16:Nat):Int)) rfl (congrArg (Value.int .i64) (EU ai ai)) ?_
 refine bp 3 zr zr zr zr zr zr zr zr ai ?_
 refine cO 0 3 zr zr zr hv rfl (ve ai) zr zr (go ?_)
 refine pt zr zr zr ai ?_
 refine aG 23 (.int .i64 (((bs.getD 3 0).toNat*2 ^ 24:Nat):Int)) rfl (vO (q:=24) _ rfl ai) (go ?_)
 refine bq 2 (.int .i64 (pK bs:Int)) rfl (congrArg (Value.int .i64) (EU ai ai)) ?_
 refine ad hE Tryz.func231 zr zr ⟨rfl,rfl⟩
def Kt(A B:HP)(v1 v2:Value)(b1 b2:List UInt8)(h1:Vw A v1 b1.length (bV b1))(h2:Vw B v2 b2.length (bV b2)):au Tryz.prog 232 [v1,v2] [A,B] (fun r H=>r = .bool (decide (b1=b2))∧H=[A,B]):=by
 obtain⟨a1,c1,rfl⟩:=h1.shape
 obtain⟨a2,c2,rfl⟩:=h2.shape
 refine au.ak Tryz.func232 Tryz.ntmps232 fun G F R hE=>?_
 refine go ?_
 refine Br (U:=aU) 0 zr zr zr zr zr zr zr zr zr h1 (go ?_)
 refine Br (U:=aU) 1 zr zr zr zr zr zr zr zr zr h2 (go ?_)
 rw[zF]
 refine ad hE Tryz.func232 zr zr ⟨rfl,rfl⟩
theorem Kk(a b:Nat)(ha:a<4294967296)(hb:b<4294967296):au Tryz.prog 174 [.int .u64 (a:Int),.int .u64 (b:Int)] [] (fun r H=>r = .tuple #[.int .u64 0,.int .u64 ((a*b:Nat):Int)]∧H=[]):=by
 have hab:a*b<18446744073709551616:=Nat.lt_of_lt_of_le (Nat.mul_lt_mul'' ha hb) ai
 have hw:∀x:Nat,x<18446744073709551616→IntKind.u64.wrap (x:Int)=(x:Int):=fun x hx=>dx (by simp only[fz];omega)
 have hm:∀x:Nat,x<4294967296→IntKind.u64.wrap ((BitVec.ofInt IntKind.u64.bits (x:Int) &&& BitVec.ofInt IntKind.u64.bits 4294967295).toNat:Int)=(x:Int):=fun x hx=>by
  have:=sd x 32 ai ai
  grind
 have hs:∀x:Nat,x<4294967296→(x:Int)/2 ^ (min (Int.toNat 32) IntKind.u64.bits)=0:=fun x hx=>by show(x:Int)/4294967296=0;omega
 refine au.ak Tryz.func174 Tryz.ntmps174 fun G F R hE=>?_
 refine go ?_
 refine aG 6 (.int .u64 (a:Int)) rfl (congrArg (Value.int .u64) (hm a ha)) ?_
 refine iI zr zr zr ai ?_
 refine aG 17 (.int .u64 0) rfl (congrArg (Value.int .u64) (hs a ha)) (go ?_)
 refine aG 8 (.int .u64 (b:Int)) rfl (congrArg (Value.int .u64) (hm b hb)) ?_
 refine iI zr zr zr ai ?_
 refine aG 21 (.int .u64 0) rfl (congrArg (Value.int .u64) (hs b hb)) (go ?_)
 refine eN zr zr zr (by rw[← Int.natCast_mul];simp only[fz];omega) ?_
 refine aG 24 (.int .u64 ((a*b:Nat):Int)) rfl (by rw[Int.natCast_mul]) (go ?_)
 refine eN zr zr zr (by simp[fz]) ?_
 refine aG 27 (.int .u64 0) rfl (by simp) (go ?_)
 refine iI zr zr zr ai ?_
 refine aG 29 (.int .u64 ((a*b/4294967296:Nat):Int)) rfl (congrArg (Value.int .u64) (by show((a*b:Nat):Int)/4294967296=_;omega)) ?_
 refine go ?_
 refine aG 11 (.int .u64 ((a*b/4294967296:Nat):Int)) rfl (congrArg (Value.int .u64) ai) (go ?_)
 have hq:a*b/4294967296<4294967296:=by omega
 refine aG 12 (.int .u64 ((a*b/4294967296:Nat):Int)) rfl (congrArg (Value.int .u64) (by rw[show(0:Int)+((a*b/4294967296:Nat):Int)=((a*b/4294967296:Nat):Int)from by omega];exact hm _ hq)) ?_
 refine iI zr zr zr ai ?_
 refine aG 34 (.int .u64 0) rfl (congrArg (Value.int .u64) (by simp only[Int.zero_add,Int.add_zero];exact hs _ hq)) ?_
 refine go ?_
 refine eN zr zr zr (by simp[fz]) ?_
 refine aG 38 (.int .u64 0) rfl (by simp) (go ?_)
 refine eN zr zr zr (by simp[fz]) ?_
 refine aG 42 (.int .u64 0) rfl (by simp) (go ?_)
 refine iI zr zr zr ai ?_
 refine aG 46 (.int .u64 0) rfl (congrArg (Value.int .u64) (by rw[show((a*b/4294967296:Nat):Int)+0=((a*b/4294967296:Nat):Int)from by omega];exact hs (a*b/4294967296) hq)) ?_
 refine go ?_
 refine eN zr zr zr (by rw[← Int.natCast_mul];simp only[fz];omega) ?_
 refine aG 50 (.int .u64 ((a*b:Nat):Int)) rfl (by rw[Int.natCast_mul]) (go ?_)
 refine ad hE Tryz.func174 zr zr ⟨rfl,rfl⟩
def Qh(a b:Nat)(ha:a<4294967296)(hb:b<4294967296):au Tryz.prog 417 [.int .u64 (a:Int),.int .u64 (b:Int)] [] (fun r H=>r = .tuple #[.int .u64 0,.int .u64 ((a*b:Nat):Int)]∧H=[]):=by
 refine au.ak Tryz.func417 Tryz.ntmps417 fun G F R hE=>?_
 refine go ?_
 refine aw (Kk a b ha hb) ?_
 refine go ?_
 refine ad hE Tryz.func417 zr zr ⟨rfl,rfl⟩
theorem Dz(v:Value)(bs:List UInt8)(h0:0<bs.length)(hl:bs.length≤1000) :
  au Tryz.prog 335 [v,.int .i64 2] [aB 5 1 v bs.length (bV bs)] (fun r H=>H=[aB 5 1 r (bs++bs).length (bV (bs++bs))]):=by
 refine au.ak Tryz.func335 Tryz.ntmps335 fun G F R hE=>?_
 refine jJ 0 rfl h0 ?_
 rintro b o c rfl hc _ cW
 refine go ?_
 refine aw (Qh bs.length 2 ai ai) ?_
 repeat'(first|(with_reducible intro jg)|refine er ?_|refine aq zr zr ?_ ?_)
 any_goals (exfalso;omega)
 obtain⟨N,hN⟩:∃N,N=bs.length*2:=⟨_,rfl⟩
 rw[← hN]
 refine Bu (U:=aU) (t:=22) (elem:=5) (q:=N) rfl Tryz.func418 zr zr ah zr zr zr zr ai (fun _ _ _ _=>trivial) ?_
 intro nb c2 l hc2 mW
 refine go ?_
 refine Kn (U:=aU) (q:=(N:Int)) (r:=(N:Int)) zr zr zr zr zr zr zr ai ai ai ?_
 refine aG 57 (.slice (some ⟨nb,0,none⟩) N N) rfl (by rw[show((N:Int)).toNat=N from by omega];rw[SL.kp]) ?_
 refine go ?_
 refine H0 (U:=aU) (src:=bV bs) (mm:=bs.length) (l':=bV bs++l.drop bs.length) 0 1 zr zr zr zr zr zr zr zr cW (by show _=_*1;rw[bD];omega) (fun u hu=>cB bs u (List.mem_of_mem_take hu)) (by show 0+_*1≤_;omega) ?_ rfl e8 ?_
 ·show _=List.take 0 l++List.take (min bs.length N*1) (bV bs)++List.drop (0+min bs.length N*1) l
  grind
 rw[show((min bs.length N:Nat):Int)=(bs.length:Int)from by omega]
 refine go ?_
 refine bj (fun _:Bool=>True) (fun s=>bif s then 0 else 1)
  (fun s=>[(7,.int .i64 (N:Int)),(8,.int .i64 (N:Int)),(9,.slice (some ⟨nb,0,none⟩) N N),(10,.int .i64 ((bif s then N else bs.length:Nat):Int))])
  (fun s=>ae nb (cl (bif s then bV (bs++bs)++l.drop N else bV bs++l.drop bs.length) 5)::F) false trivial rfl bS ag ?_
 rintro s _ ih
 cases s with
 | true =>
  repeat'(first|(with_reducible intro jg)|refine er ?_|refine aq zr zr ?_ ?_)
  any_goals (exfalso;simp only[cond_true]at *;omega)
  simp only[cond_true]
  refine al (ef 5 1 nb N N (bV (bs++bs)) (l.drop N) _ (by rw[bD,List.length_append];omega) (Nat.le_refl _) (by rw[bD,List.length_append,List.length_drop];omega)) ?_
  rw[show N=(bs++bs).length from by rw[List.length_append];omega]
  refine aK hE Tryz.func335 rfl _ zr zr ag
 | false =>
  repeat'(first|(with_reducible intro jg)|refine er ?_|refine aq zr zr ?_ ?_)
  any_goals (exfalso;simp only[cond_false]at *;omega)
  simp only[cond_false]
  rw[show min (bs.length:Int) (N:Int)=(bs.length:Int)from by omega]
  refine aL (fun w=>Sat G w ([])) (mz 0 7 (.act 7 (mz 8 2 .nil))) rfl ah ah ah dv ?_
  refine go ?_
  refine bw (p:=(bs.length:Int)) (q:=(N:Int)) zr zr zr zr zr zr zr ai ai (.inl rfl) ?_
  refine aG 70 (.slice (some ⟨nb,bs.length,none⟩) bs.length bs.length) rfl (by rw[show((N:Int)).toNat=N from by omega,show((bs.length:Int)).toNat=bs.length from by omega,show N-bs.length=bs.length from by omega];show Value.slice (sliceAt _ N bs.length 1) _ _=_;rw[kq _ _ _ _ _ ai,Nat.zero_add,Nat.mul_one]) ?_
  refine go ?_
  refine bw (p:=0) (q:=(bs.length:Int)) zr zr zr zr zr zr zr ai ai (.inr ai) ?_
  refine aG 73 (.slice (some ⟨nb,0,none⟩) bs.length N) rfl (by rw[show(0:Int).toNat=0 from rfl,show((bs.length:Int)).toNat=bs.length from by omega,SL.kp];rfl) ?_
  refine H0 (U:=aU) (src:=bV bs) (mm:=bs.length) (l':=bV (bs++bs)++l.drop N) 0 0 zr zr zr zr zr zr zr zr (Vw.ae (by simp)) (by show _=_*1;rw[bD];omega) (fun u hu=>cB bs u (List.mem_of_mem_take hu)) (by show bs.length+_*1≤_;rw[List.length_append,bD,List.length_drop];omega) ?_ rfl (fun _ hw=>hw.cu (ao.Qt _)) ?_
  ·show _=List.take bs.length _++List.take (min bs.length bs.length*1) (bV bs)++List.drop (bs.length+min bs.length bs.length*1) _
   rw[show min bs.length bs.length*1=bs.length from by omega,List.take_of_length_le (l:=bV bs) (by rw[bD];omega),List.take_left' (bD bs),List.drop_append,bD,show(bV bs).drop (bs.length+bs.length)=[]from List.drop_eq_nil_of_le (by rw[bD];omega),List.drop_drop,show bs.length+(bs.length+bs.length-bs.length)=N from by omega]
   simp[bV]
  rw[show((min bs.length bs.length:Nat):Int)=(bs.length:Int)from by omega]
  refine go ?_
  refine bq 10 (.int .i64 (N:Int)) rfl (congrArg (Value.int .i64) ai) ?_
  refine aM ih true rfl trivial (by simp) bS ag
def cZ(n m:Nat):List UInt8:=(CB n++CB m)++(CB n++CB m)
def pO(n m:Nat):(cZ n m).length=16:=rfl
def wN(n m:Nat)(h:n<9223372036854775808)(h2:m<9223372036854775808):au Tryz.prog 233 [.int .i64 (n:Int),.int .i64 (m:Int)] [] (fun r H=>H=[aB 5 1 r (cZ n m).length (bV (cZ n m))]):=by
 refine au.ak Tryz.func233 Tryz.ntmps233 fun G F R hE=>?_
 refine go ?_
 refine aF (wj n h) ?_
 rintro _ _⟨b1,rfl,rfl⟩
 refine go ?_
 refine aF (wj m h2) ?_
 rintro _ _⟨b2,rfl,rfl⟩
 refine aN (ao.pick [1] rfl) ?_
 refine aN (ef 5 1 b1 4 4 (bV (CB n)) [] _ rfl (Nat.le_refl _) (by simp[bD,AO])) ?_
 refine aJ (mm:=4) (news:=bV (CB m)) 0 1 zr zr zr zr zr zr zr zr zr zr zr zr (Vw.ae rfl) rfl (cB _) ai (by show(4+4)*1≤_;omega) (fun _=>rfl) bh ?_
 intro v1
 rw[show bV (CB n)++bV (CB m)=bV (CB n++CB m)from by simp[bV],show 4+4=(CB n++CB m).length from rfl]
 refine aF (Dz v1 (CB n++CB m) (by simp[AO]) (by simp[AO])) ?_
 rintro r _ rfl
 refine go ?_
 refine aK hE Tryz.func233 rfl _ zr zr ag
def oY(A:HP)(v:Value)(bs:List UInt8)(hv:ew A v bs)(hl:bs.length≤1000000000000):au Tryz.prog 147 [v] [A] (fun r H=>H=[aB 5 1 r (cQ bs).length (bV (cQ bs)),A]):=by
 obtain⟨a,c,rfl,hc⟩:=hv.2
 refine au.ak Tryz.func147 Tryz.ntmps147 fun G F R hE=>?_
 refine go ?_
 refine aF (lk bs.length ai) ?_
 rintro r _ rfl
 refine aH 0 rfl ?_
 rintro ra rc rfl
 refine go ?_
 have hu:=mu (n:=bs.length) ai
 refine aJ (mm:=bs.length) (news:=bV bs) 0 1 zr zr zr zr zr zr zr zr zr zr zr zr hv.1 (by show _=_*1;rw[bD];omega) (cB _) ai (by show(_+_)*1≤_;omega) (fun _=>rfl) bh ?_
 intro v1
 rw[show bV (uv bs.length)++bV bs=bV (cQ bs)from by simp[bV,cQ],show(uv bs.length).length+bs.length=(cQ bs).length from by simp[cQ]]
 refine go ?_
 refine aK hE Tryz.func147 rfl _ zr zr ag
theorem Mo(A:HP)(v:Value)(bs:List UInt8)(hv:ew A v bs)(hl:bs.length≤9223372036854775807) :
    au Tryz.prog 230 [v] [A] (fun r H=>r=(match nQ bs with
      | some (k,n) => .tuple #[.int .i64 (k:Int),.int .i64 (n:Int),.bool (decide (n≤4096))]
      | none => .tuple #[.int .i64 0,.int .i64 0,.bool false])∧H=[A]):=by
  obtain⟨a,c,rfl,hc⟩:=hv.2
  refine au.ak Tryz.func230 Tryz.ntmps230 fun G F R hE=>?_
  refine go ?_
  refine bj (fun k:Nat=>1≤k∧k≤3∧(2≤k→1≤bs.length∧cY (bs.take 1)=none)∧(3≤k→2≤bs.length∧cY (bs.take 2)=none)) (fun k=>3-k)
    (fun k=>[(0,.slice a bs.length c),(5,.int .i64 (k:Int))])
    (fun _=>A::F) 1 ⟨ai,ai,ai,ai⟩ rfl bS ag ?_
  rintro k⟨BD,AU,h1,h2⟩ ih
  refine go ?_
  refine aq zr zr ?_ ?_
  case' refine_2 =>
    intro ep
    have hn:nQ bs=none:=by
      unfold nQ
      split
      · obtain⟨_,h3⟩:=h1 ai
        rw[h3]
        simp only
        split
        · obtain⟨_,h4⟩:=h2 ai
          rw[h4];rfl
        · rfl
      · rfl
    rw[hn]at hE
    refine go ?_
    refine ad hE Tryz.func230 zr zr ⟨rfl,rfl⟩
  intro cL
  have Pw:k≤bs.length:=by omega
  refine go ?_
  refine bw (p:=0) (q:=(k:Int)) zr zr zr zr zr zr zr ai ai (.inr ai) ?_
  have hf:=hv.front k Pw
  refine aG 18 (.slice (sliceAt a c 0 1) k c) rfl (by rw[show(0:Int).toNat=0 from rfl,show((k:Int)).toNat=k from by omega];rfl) ?_
  ((refine aF (ll A _ (bs.take k) hf (by rw[List.length_take];omega)) ?_))
  cases hu:cY (bs.take k)with
  | none =>
    rintro _ _⟨rfl,rfl⟩
    refine go ?_
    refine aM ih (k+1) rfl ⟨ai,ai,fun h=>by
      by_cases hk:k=1
      · grind
      · exact h1 ai,fun h=>by
      have hk:k=2:=by omega
      subst hk;exact⟨ai,hu⟩⟩ ai bS ag
  | some n =>
    rintro _ _⟨rfl,rfl⟩
    have aeP:=mZ hu (by rw[List.length_take];omega)
    have ly:nQ bs=some (k,n):=by
      unfold nQ
      rw[if_pos ai]
      by_cases hk:k=1
      · grind
      · have hk:k=2:=by omega
        grind
    rw[ly]at hE
    simp only at hE
    rw[show decide (n≤4096)=decide ((n:Int)≤4096)from decide_eq_decide.2 ⟨fun _=>by omega,fun _=>by omega⟩]at hE
    refine go ?_
    refine ad hE Tryz.func230 zr zr ⟨rfl,rfl⟩
def oQ(b:List UInt8)(k last:Nat):Bool :=
 let h:=(b.drop (16*k)).take 16
 decide (last<pK h∧pK h≤1073741824∧pK h%2=k∧pK (h.drop 4)+32≤b.length∧h=cZ (pK h) (pK (h.drop 4)))
def gK(b:List UInt8)(k:Nat)(s:Nat × Nat):Nat × Nat:=if oQ b k s.1 then(pK ((b.drop (16*k)).take 16),pK (((b.drop (16*k)).take 16).drop 4))else s
def fm(b:List UInt8):List UInt8:=if b.length<32 then []else(b.drop 32).take (gK b 1 (gK b 0 (0,0))).2
def ad'{b:List UInt8}(hk:16*k+16≤b.length):((b.drop (16*k)).take 16).length=16:=by rw[List.length_take,List.length_drop];omega
theorem JF(A:HP)(v:Value)(b:List UInt8)(hv:ew A v b)(hl:b.length≤9223372036854775807) :
  au Tryz.prog 126 [v] [A] (fun r H=>ew A r (fm b)∧H=[A]):=by
 obtain⟨a,c,rfl,hc⟩:=hv.2
 refine au.ak Tryz.func126 Tryz.ntmps126 fun G F R hE=>?_
 repeat'(first|(with_reducible intro jg)|refine er ?_|refine aq zr zr ?_ ?_)
 case' refine_1 =>
  have hn:fm b=[]:=by unfold fm;rw[if_pos ai]
  rw[hn]at hE
  refine ad hE Tryz.func126 zr zr ⟨⟨Cs A,none,0,rfl,Nat.le_refl _⟩,rfl⟩
 have ae2:32≤b.length:=by omega
 refine bj (fun s:Nat × Nat × Nat=>s.1≤2∧(s.1=0→s.2=(0,0))∧(s.1=1→s.2=gK b 0 (0,0))∧(s.1=2→s.2=gK b 1 (gK b 0 (0,0)))∧s.2.2+32≤b.length∧s.2.1≤1073741824) (fun s=>2-s.1)
  (fun s=>[(0,.slice a b.length c),(3,.int .i64 (s.2.1:Int)),(4,.int .i64 (s.2.2:Int)),(12,.int .i64 (s.1:Int))])
  (fun _=>A::F) (0,0,0) ⟨ai,fun _=>rfl,ai,ai,by simp only;omega,by simp only;omega⟩ rfl bS ag ?_
 rintro⟨k,last,len⟩⟨hk,hk0,BD,AU,hlen,lN⟩ ih
 simp only at hk hk0 BD AU hlen lN
 refine go ?_
 refine aq zr zr ?_ ?_
 case' refine_2 =>
  intro ep
  simp only at ep
  have h2:=AU ai
  have hf:fm b=(b.drop 32).take len:=by unfold fm;rw[if_neg ai,← h2]
  refine go ?_
  refine bw (p:=32) (q:=32+(len:Int)) zr zr zr zr zr zr zr ai ai (.inr ai) ?_
  have hp:=hv.piece 32 (32+len) ai ai
  rw[show 32+len-32=len from by omega,← hf]at hp
  refine aG 58 (.slice (sliceAt a c 32 1) len (c-32)) rfl (by rw[show(32:Int).toNat=32 from rfl,show(32+(len:Int)).toNat=32+len from by omega,show 32+len-32=len from by omega];rfl) ?_
  refine go ?_
  refine ad hE Tryz.func126 zr zr ⟨hp,rfl⟩
 intro cL
 simp only at cL
 have adZ:16*k+16≤b.length:=by omega
 refine go ?_
 refine eN zr zr zr (by simp only[fz];omega) ?_
 refine aG 17 (.int .i64 ((16*k:Nat):Int)) rfl (congrArg (Value.int .i64) (by simp only;omega)) ?_
 refine bw (p:=((16*k:Nat):Int)) (q:=(b.length:Int)) zr zr zr zr zr zr zr ai ai (.inl rfl) ?_
 refine aG 18 (.slice (sliceAt a c (16*k) 1) (b.length-16*k) (c-16*k)) rfl (by rw[show(((16*k:Nat):Int)).toNat=16*k from by omega,show((b.length:Int)).toNat=b.length from by omega];rfl) ?_
 have hh1:=hv.cut (16*k) ai
 refine bw (p:=0) (q:=16) zr zr zr zr zr zr zr ai ai (.inr ai) ?_
 obtain⟨hd,hhd⟩:∃hd,hd=(b.drop (16*k)).take 16:=⟨_,rfl⟩
 have CV:hd.length=16:=by rw[hhd];exact ad' adZ
 obtain⟨a1,ha1⟩:∃a1,a1=sliceAt (sliceAt a c (16*k) 1) (c-16*k) 0 1:=⟨_,rfl⟩
 have hh2:ew A (.slice a1 16 (c-16*k)) hd:=by
  rw[show b.length-16*k=(b.drop (16*k)).length from by rw[List.length_drop]]at hh1
  have:=hh1.front 16 (by rw[List.length_drop];omega)
  grind
 refine aG 19 (.slice a1 16 (c-16*k)) rfl (by rw[show(0:Int).toNat=0 from rfl,show(16:Int).toNat=16 from rfl,ha1];rfl) ?_
 refine go ?_
 refine aL (fun w=>Sat G w ([])) (.st 0 (.st 2 (.st 3 (.act 1 (.act 4 (.st 5 (.st 6 .nil))))))) rfl ah ah ah dv ?_
 refine go ?_
 refine bw (p:=4) (q:=16) zr zr zr zr zr zr zr ai ai (.inl rfl) ?_
 have hh3:=(show ew A (.slice a1 hd.length (c-16*k)) hd by rw[CV];exact hh2).cut 4 ai
 rw[CV]at hh3
 refine aG 23 (.slice (sliceAt a1 (c-16*k) 4 1) (16-4) (c-16*k-4)) rfl (by rw[show(4:Int).toNat=4 from rfl,show(16:Int).toNat=16 from rfl];rfl) ?_
 refine bE (BL A _ hd hh2.1 ai) ?_
 ((refine cT (BL A _ (hd.drop 4) hh3.1 (by rw[List.length_drop];omega)) ?_))
 rintro _ _⟨rfl,rfl⟩
 have hn:=Mq hd
 have hm:=Mq (hd.drop 4)
 have nD:oQ b k last=decide (last<pK hd∧pK hd≤1073741824∧pK hd%2=k∧pK (hd.drop 4)+32≤b.length∧hd=cZ (pK hd) (pK (hd.drop 4))):=by unfold oQ;rw[← hhd]
 have u6:∀s':Nat × Nat,s'=gK b k (last,len)→s'.2+32≤b.length∧s'.1≤1073741824→(k+1≤2∧(k+1=0→s'=(0,0))∧(k+1=1→s'=gK b 0 (0,0))∧(k+1=2→s'=gK b 1 (gK b 0 (0,0)))∧s'.2+32≤b.length∧s'.1≤1073741824):=by
  grind
 have lB:oQ b k last=false→(last,len)=gK b k (last,len):=fun h=>by unfold gK;rw[if_neg (by rw[h];simp)]
 have rO:oQ b k last=true→(pK hd,pK (hd.drop 4))=gK b k (last,len):=fun h=>by unfold gK;rw[if_pos h,← hhd]
 repeat'(first|(with_reducible intro jg)|refine er ?_|refine dP zr zr zr zr ?_ ?_|refine lT zr zr zr ai ai ?_)
 any_goals (
  have hf:oQ b k last=false:=by rw[nD];exact decide_eq_false (fun h=>by simp only at *;omega)
  refine aM ih (k+1,last,len) rfl (u6 _ (lB hf) ⟨hlen,lN⟩) (by simp only;omega) bS ag)
 refine aF (wN (pK hd) (pK (hd.drop 4)) ai ai) ?_
 rintro pN _ rfl
 refine dH 0 rfl ?_
 intro hvh
 refine aH 0 rfl ?_
 rintro xa xc rfl
 refine go ?_
 refine aw (Kt A (aB 5 1 (.slice xa (cZ (pK hd) (pK (hd.drop 4))).length xc) (cZ (pK hd) (pK (hd.drop 4))).length (bV (cZ (pK hd) (pK (hd.drop 4))))) (.slice a1 16 (c-16*k)) (.slice xa (cZ (pK hd) (pK (hd.drop 4))).length xc) hd (cZ (pK hd) (pK (hd.drop 4))) hh2.1 hvh) ?_
 repeat'(first|(with_reducible intro jg)|refine er ?_|refine aq zr zr ?_ ?_)
 ·have hf:oQ b k last=true:=by rw[nD];exact decide_eq_true (by refine⟨?_,?_,?_,?_,‹_›⟩ <;> (simp only at *;omega))
  refine go ?_
  refine aM ih (k+1,pK hd,pK (hd.drop 4)) rfl (u6 _ (rO hf) ⟨by simp only at *;omega,by simp only at *;omega⟩) (by simp only;omega) bS ag
 ·have hf:oQ b k last=false:=by rw[nD];exact decide_eq_false (fun h=>‹¬_› h.2.2.2.2)
  refine aM ih (k+1,last,len) rfl (u6 _ (lB hf) ⟨hlen,lN⟩) (by simp only;omega) bS ag
attribute [local irreducible] bF
def pJ(h:nQ bs=some (k,n)):1≤k∧k≤2∧k≤bs.length∧n<16384:=by
 unfold nQ at h
 split at h
 ·rename_i h1
  split at h
  ·rename_i m hm
   cases h
   exact⟨ai,ai,h1,mZ hm (by rw[List.length_take];omega)⟩
  ·split at h
   ·rename_i h2
    cases hu:cY (bs.take 2)with
    | none=>rw[hu]at h;cases h
    | some m =>
     rw[hu]at h
     cases h
     exact⟨ai,ai,h2,mZ hu (by rw[List.length_take];omega)⟩
   ·cases h
 ·cases h
def fE:Nat→List UInt8→List (List UInt8)
 | 0,_=>[]
 | f+1,bs=>match nQ bs with
  | none=>[]
  | some (k,n)=>if n≤4096∧k+n≤bs.length then(bs.drop k).take n::fE f (bs.drop (k+n))else []
theorem qd:∀(f g:Nat) (bs:List UInt8),bs.length≤f→bs.length≤g→fE f bs=fE g bs
 | 0,0,_,_,_=>rfl
 | 0,g+1,bs,hf,_=>by
  have:bs=[]:=List.eq_nil_of_length_eq_zero ai
  subst this;rfl
 | f+1,0,bs,_,hg=>by
  have:bs=[]:=List.eq_nil_of_length_eq_zero ai
  subst this;rfl
 | f+1,g+1,bs,hf,hg=>by
  unfold fE
  split
  ·rfl
  ·rename_i k n hl
   have:=pJ hl
   split
   ·rw[qd f g _ (by rw[List.length_drop];omega) (by rw[List.length_drop];omega)]
   ·rfl
def cm(bs:List UInt8):List (List UInt8):=fE bs.length bs
def yd(h:nQ bs=none):cm bs=[]:=by
 unfold cm
 cases hl:bs.length with
 | zero=>rfl
 | succ f=>unfold fE;rw[h]
def ry(h:nQ bs=some (k,n))(hb:¬(n≤4096∧k+n≤bs.length)):cm bs=[]:=by
 unfold cm
 cases hl:bs.length with
 | zero=>rfl
 | succ f=>unfold fE;rw[h];simp only;rw[if_neg hb]
theorem ye(h:nQ bs=some (k,n))(hb:n≤4096∧k+n≤bs.length):cm bs=(bs.drop k).take n::cm (bs.drop (k+n)):=by
 have h1:=pJ h
 unfold cm
 obtain⟨f,hf⟩:∃f,bs.length=f+1:=⟨bs.length-1,ai⟩
 grind [fE,qd]
def Ce(a:Option Addr)(n c:Nat):au Tryz.prog 125 [.slice a n c] [] (fun r H=>∃b,r = .func (.func 229) #[] #[ptr b]∧H=[ae b (cl [.slice a n c] 22)]):=by
 refine au.ak Tryz.func125 Tryz.ntmps125 fun G F R hE=>?_
 refine go ?_
 refine bu zr zr bh ?_
 intro b
 refine go ?_
 refine ad hE Tryz.func125 zr zr ⟨b,rfl,rfl⟩
theorem Az(A:HP)(l bx:Nat)(v:Value)(bs:List UInt8)(hv:ew A v bs)(hl:bs.length≤1000000000)(Lp:HP)(Inv:Nat→HP)(hy:∀i x,(cm bs)[i]?=some x→∀r,bF Tryz.prog l [r] [Lp,Inv i,aB 5 1 r x.length (bV x)] (fun v H=>v = .bool true∧H=[Lp,Inv (i+1)])) :
  au Tryz.prog 229 [.func (.yield l) #[] #[],ptr bx] [Lp,ae bx (cl [v] 22),A,Inv 0] (fun _ H=>∃v',H=[Lp,ae bx (cl [v'] 22),A,Inv (cm bs).length]):=by
 refine au.ak Tryz.func229 Tryz.ntmps229 fun G F R hE=>?_
 refine go ?_
 refine bj (fun y:Value × List UInt8 × Nat=>ew A y.1 y.2.1∧y.2.1.length≤bs.length∧cm y.2.1=(cm bs).drop y.2.2∧y.2.2≤(cm bs).length) (fun y=>y.2.1.length)
  (fun _=>[(0,.func (.yield l) #[] #[]),(1,ptr bx)])
  (fun y=>[Lp,ae bx (cl [y.1] 22),A,Inv y.2.2]++F) (v,bs,0) ⟨hv,Nat.le_refl _,by simp,Nat.zero_le _⟩ rfl bS ag ?_
 rintro⟨v1,rest,i⟩⟨mH,uA,uQ,hr3⟩ ih
 simp only at mH uA uQ hr3
 have j9:cm rest=[]→i=(cm bs).length:=fun h=>by
  rw[uQ]at h
  have:(cm bs).length≤i:=by simpa using h
  omega
 obtain⟨a,c,rfl,hc⟩:=mH.2
 refine go ?_
 refine aw (Mo A _ rest mH ai) ?_
 cases u7:nQ rest with
 | none =>
  obtain rfl:=j9 (yd u7)
  refine go ?_
  refine ad hE Tryz.func229 zr zr ⟨_,rfl⟩
 | some kn =>
  obtain⟨k,n⟩:=kn
  have hp:=pJ u7
  by_cases hn:n≤4096
  case neg =>
   have jq:cm rest=[]:=ry u7 ai
   obtain rfl:=j9 jq
   have hd:decide (n≤4096)=false:=decide_eq_false hn
   simp only[hd]
   refine go ?_
   refine ad hE Tryz.func229 zr zr ⟨_,rfl⟩
  have hd:decide (n≤4096)=true:=decide_eq_true hn
  simp only[hd]
  refine go ?_
  by_cases hk:(rest.length:Int)<(k:Int)+n
  case pos =>
   obtain rfl:=j9 (ry u7 ai)
   have Q3:decide ((rest.length:Int)<(k:Int)+n)=true:=decide_eq_true hk
   simp only[Q3]
   refine go ?_
   refine ad hE Tryz.func229 zr zr ⟨_,rfl⟩
  have Q3:decide ((rest.length:Int)<(k:Int)+n)=false:=decide_eq_false hk
  simp only[Q3]
  have CX:=ye u7 ⟨hn,ai⟩
  obtain⟨x,hx⟩:∃x,x=(rest.drop k).take n:=⟨_,rfl⟩
  have MB:x.length=n:=by rw[hx,List.length_take,List.length_drop];omega
  rw[← hx]at CX
  have Fy:(cm bs)[i]?=some x:=by
   have:=congrArg (fun l=>l[0]?) uQ
   grind
  have zu:cm (rest.drop (k+n))=(cm bs).drop (i+1):=by
   have:=congrArg (fun l=>l.drop 1) uQ
   simp only[CX,List.drop_drop]at this
   grind
  have KL:i+1≤(cm bs).length:=by
   grind
  have KI:=mH.piece k (k+n) ai ai
  rw[show k+n-k=n from by omega,← hx]at KI
  refine go ?_
  refine bw (p:=(k:Int)) (q:=((k+n:Nat):Int)) zr zr zr zr zr zr zr ai ai (.inr ai) ?_
  refine aG 29 (.slice (sliceAt a c k 1) n (c-k)) rfl (by rw[show((k:Int)).toNat=k from by omega,show(((k+n:Nat):Int)).toNat=k+n from by omega,show k+n-k=n from by omega];rfl) ?_
  refine go ?_
  refine aF (jV A _ x KI.1 ai) ?_
  rintro r _ rfl
  refine go ?_
  refine kE zr zr zr (hy i x Fy r) ag ?_ jk
  rintro _ _⟨rfl,rfl⟩
  refine go ?_
  refine bw (p:=((k+n:Nat):Int)) (q:=(rest.length:Int)) zr zr zr zr zr zr zr ai ai (.inl rfl) ?_
  have lA:=mH.cut (k+n) ai
  refine aG 38 (.slice (sliceAt a c (k+n) 1) (rest.length-(k+n)) (c-(k+n))) rfl (by rw[show(((k+n:Nat):Int)).toNat=k+n from by omega,show((rest.length:Int)).toNat=rest.length from by omega];rfl) ?_
  refine go ?_
  refine aM ih (.slice (sliceAt a c (k+n) 1) (rest.length-(k+n)) (c-(k+n)),rest.drop (k+n),i+1) rfl (⟨lA,by simp only[List.length_drop];omega,zu,KL⟩) (by simp only[List.length_drop];omega) bS ag
end Go.Proofs.YtlcoaflddajjcaaGreatDoor
namespace Go.Proofs.YtlcoaflddajjcaaGreatDoor
open Go Go.SL
def Lj{e:TypeId}{sz n c:Nat}{a:Option Addr}{cs:List Value}(H:List HP):ao (aB e sz (.slice a n c) n cs::H) (aB e sz (.slice (sliceAt a c 0 sz) 0 c) 0 []::H) :=
 ao.fold (A:=aB e sz (.slice (sliceAt a c 0 sz) 0 c) 0 []) (B:=[aB e sz (.slice a n c) n cs]) fun h hs=>by
  refine⟨h,sub.refl h,?_⟩
  obtain⟨hl,⟨a',he,hn,hem⟩|⟨b,o,cap,pre,junk,he,hp,hn,hc,u5⟩⟩:=dp hs
  ·simp only[Value.slice.injEq]at he
   obtain⟨rfl,rfl,rfl⟩:=he
   exact⟨by simp,.inl ⟨_,rfl,rfl,hem⟩⟩
  ·simp only[Value.slice.injEq]at he
   obtain⟨rfl,-,rfl⟩:=he
   refine⟨by simp,.inr ⟨b,o,c,pre,cs++junk,?_,hp,Nat.zero_le _,by rw[List.length_append];simpa using hc,by simpa using u5⟩⟩
   unfold sliceAt
   split
   ·rfl
   ·simp[Addr.add]
attribute [local irreducible] J K au Ends ae aB aI bB aW aS a7 aX bF
def vK(ls:List (List UInt8))(i:Nat):((ls.take i).flatten).length≤ls.flatten.length:=by
 conv=>rhs;rw[← List.take_append_drop i ls,List.flatten_append,List.length_append]
 omega
def N7(n:Nat)(hn:n≤1000000000):au Tryz.prog 337 [.slice none 0 0,.int .i64 (n:Int)] [] (fun r H=>H=[aB 5 1 r 0 []]):=by
 refine au.ak Tryz.func337 Tryz.ntmps337 fun G F R hE=>?_
 (repeat(first|refine er ?_|refine Rg (U:=aU) zr zr zr zr ?_))
 refine bq 1 ((.int .i64 (n:Int))) rfl ((congrArg (Value.int .i64) ai)) ?_
 refine aq zr zr ?_ ?_
 ·intro oO
  have hp:0<n:=by omega
  (repeat(first|refine er ?_|refine Rg (U:=aU) zr zr zr zr ?_))
  refine bw (p:=0) (q:=0) zr zr zr zr zr zr zr ai ai (.inr ai) ?_
  refine aG 20 (.slice none 0 0) zr zr ?_
  refine aN (bg 5 1 none _) ?_
  refine dH 0 rfl ?_
  intro mU
  refine go ?_
  refine Ks (U:=aU) (mm:=n) (cs:=[]) 0 zr zr zr zr zr zr zr zr zr zr zr zr mU rfl ai hp ai (by show _*1≤_;omega) (by show _*1≤_;omega) bh ?_
  intro v'
  refine aH 0 rfl ?_
  rintro a' c' rfl
  refine go ?_
  refine bw (p:=0) (q:=0) zr zr zr zr zr zr zr ai ai (.inr ai) ?_
  refine aG 25 (.slice (sliceAt a' c' 0 1) 0 c') zr zr ?_
  refine aN (Lj _) (go ?_)
  refine aK hE Tryz.func337 rfl _ zr zr ag
 ·intro hz
  have hz0:n=0:=by omega
  subst hz0
  refine go ?_
  refine al (bg 5 1 none _) ?_
  refine aK hE Tryz.func337 rfl _ zr zr ag
def Gv(A:HP)(v:Value)(ls:List (List UInt8))(hv:qN A v ls)(hl:ls.flatten.length≤1000000000)(hn:ls.length≤1000000000):au Tryz.prog 234 [v] [A] (fun r H=>H=[aB 5 1 r ls.flatten.length (bV ls.flatten),A]):=by
 obtain⟨cs,cW,mX,⟨a,c,rfl,hc⟩,qf⟩:=hv
 refine au.ak Tryz.func234 Tryz.ntmps234 fun G F R hE=>?_
 refine go ?_
 refine bj (fun i:Nat=>i≤ls.length) (fun i=>ls.length-i)
  (fun i=>[(0,.slice a ls.length c),(9,.slice a ls.length c),(10,.int .i64 (ls.length:Int)),(11,.int .i64 (i:Int)),(3,.int .i64 (((ls.take i).flatten.length:Nat):Int))])
  (fun _=>A::F) 0 (Nat.zero_le _) rfl bS ag ?_
 rintro i hi ih
 refine go ?_
 refine aq zr zr ?_ ?_
 ·intro cL
  have jL:i<ls.length:=by omega
  obtain⟨x,hx⟩:∃x,ls[i]?=some x:=⟨ls[i],List.getElem?_eq_getElem jL⟩
  obtain⟨cv,qg,hb⟩:=qf i x hx
  obtain⟨b0,o0,c0,sN⟩:=cW.some (by intro h;rw[h]at qg;simp at qg)
  simp only[Value.slice.injEq]at sN
  obtain⟨rfl,-,rfl⟩:=sN
  refine go ?_
  refine bp i zr zr zr zr zr zr zr zr jL ?_
  obtain⟨ax,cx,rfl,hcx⟩:=hb.2
  have nX:(ls.take (i+1)).flatten.length=(ls.take i).flatten.length+x.length:=by rw[List.take_add_one,hx];simp
  have hle:=vK ls (i+1)
  refine aQ 0 i zr zr zr cW rfl qg zr zr (go ?_)
  refine bq 3 ((.int .i64 (((ls.take (i+1)).flatten.length:Nat):Int))) rfl ((congrArg (Value.int .i64) ai)) ?_
  refine aM ih (i+1) rfl ai ai bS ag
 intro ep
 have dA:i=ls.length:=by omega
 subst dA
 rw[List.take_length]
 ((refine go ?_;(refine aF (N7 ls.flatten.length hl) ?_)))
 rintro gv _ rfl
 refine aH 0 rfl ?_
 rintro ga gc rfl
 refine go ?_
 refine bj (fun i:Value × Nat=>i.2≤ls.length) (fun i=>ls.length-i.2)
  (fun i=>[(0,.slice a ls.length c),(25,.slice a ls.length c),(26,.int .i64 (ls.length:Int)),(27,.int .i64 (i.2:Int)),(6,i.1)])
  (fun i=>aB 5 1 i.1 (ls.take i.2).flatten.length (bV (ls.take i.2).flatten)::A::F) (.slice ga 0 gc,0) (Nat.zero_le _) rfl bS ag ?_
 rintro⟨v,i⟩ hi ih
 simp only at hi
 refine go ?_
 refine aq zr zr ?_ ?_
 ·intro cL
  simp only at cL
  have jL:i<ls.length:=by omega
  obtain⟨x,hx⟩:∃x,ls[i]?=some x:=⟨ls[i],List.getElem?_eq_getElem jL⟩
  obtain⟨cv,qg,hb⟩:=qf i x hx
  obtain⟨b0,o0,c0,sN⟩:=cW.some (by intro h;rw[h]at qg;simp at qg)
  simp only[Value.slice.injEq]at sN
  obtain⟨rfl,-,rfl⟩:=sN
  refine go ?_
  refine bp i zr zr zr zr zr zr zr zr jL ?_
  obtain⟨ax,cx,rfl,hcx⟩:=hb.2
  have nX:(ls.take (i+1)).flatten=(ls.take i).flatten++x:=by rw[List.take_add_one,hx];simp
  have dL:(ls.take (i+1)).flatten.length=(ls.take i).flatten.length+x.length:=by rw[nX,List.length_append]
  have hle:=vK ls (i+1)
  refine aQ 1 i zr zr zr cW rfl qg zr zr ?_
  refine aH 0 rfl ?_
  intro av cv sI
  simp only at sI
  subst sI
  refine go ?_
  refine aJ (mm:=x.length) (news:=bV x) 0 1 zr zr zr zr zr zr zr zr zr zr zr zr hb.1 (by show _=_*1;rw[bD];omega) (cB _) (by simp only;omega) (by show(_+_)*1≤_;simp only;omega) (fun _=>rfl) bh ?_
  intro v1
  simp only
  rw[show bV (ls.take i).flatten++bV x=bV (ls.take (i+1)).flatten from by rw[nX];simp[bV],← dL]
  refine go ?_
  refine aM ih (v1,i+1) rfl (by simp only;omega) (by simp only;omega) bS ag
 intro ep
 simp only at ep
 have dA:i=ls.length:=by omega
 subst dA
 rw[List.take_length]
 refine db 0 rfl ?_
 intro av cv sI
 simp only at sI
 subst sI
 refine go ?_
 refine aK hE Tryz.func234 rfl _ zr zr ag
end Go.Proofs.YtlcoaflddajjcaaGreatDoor
namespace Go.Proofs.YtlcoaflddajjcaaGreatDoor
open Go Go.SL
def mh{σ:Type}:List (σ→Nat→σ→Prop)→σ→Nat→σ→Prop
 | [],x,e,y=>e=0∧y=x
 | s::ss,x,e,y=>∃e1 x1,s x e1 x1∧((e1≠0∧e=e1∧y=x1)∨(e1=0∧mh ss x1 e y))
attribute [local irreducible] J K au Ends ae aB aI bB aW aS a7
def aC(bd:Nat)(A:Ab):HP:=fun h=>∃D,Rel D A∧gn bd D h
def gD{bd:Nat}{D:Dk}{A:Ab}(h:Rel D A)(H:List HP):ao (gn bd D::H) (aC bd A::H):=ao.fold (B:=[_]) fun h' hs=>⟨h',sub.refl h',D,h,dp hs⟩
def Is{G:ct}{w:World}{bd:Nat}{A:Ab}{H:List HP}(hs:Sat G w (aC bd A::H)):∃D,Rel D A∧Sat G w (gn bd D::H):=by
 obtain⟨t,o,u,hp,BC,h1,h2,⟨D,hR,hA⟩,hH,hd,he⟩:=hs
 exact⟨D,hR,t,o,u,hp,BC,h1,h2,hA,hH,hd,he⟩
end Go.Proofs.YtlcoaflddajjcaaGreatDoor
namespace Go.Proofs.YtlcoaflddajjcaaGreatDoor
open Go Go.SL
def ij{P:Program}{f:FuncId}{args:List Value}{bd:Nat}{A:Ab}{Pre:List HP}{Post Post':Value→List HP→Prop}(hc:P.funcs[f]?.map jf=some true)(h:∀D,Rel D A→au P f args (gn bd D::Pre) Post)(hp:∀v H,Post v H→∃H',Post' v H'∧ao H H'):au P f args (aC bd A::Pre) Post' :=
  ⟨hc,fun G w F hw=>by
    obtain⟨D,hR,zp⟩:=Is hw
    exact((h D hR).2 G w F zp).mono fun e w' h'=>let ⟨v,H,he,Pk,hs⟩:=h';let ⟨H',hq,hE⟩:=hp v H Pk;⟨v,H',he,hq,hs.cu (ao.append F hE)⟩⟩
attribute [local irreducible] J K au Ends ae aB aI bB aW aS a7
def NM(bd:Nat)(A:Ab):au Tryz.prog 51 [ptr bd] [aC bd A] (fun v H=>v = .bool A.off∧H=[aC bd A]):=by
 refine ij ah (Post:=fun v H=>v = .bool A.off∧H=[aC bd A]) (fun D hR=>?_) (fun v H h=>⟨H,h,ao.refl _⟩)
 obtain⟨room,bm,mz,nV,oC,off,maps,fy,files,lx,wl⟩:=D
 have jR:=hR.off
 simp only at jR
 subst jR
 refine au.ak Tryz.func51 Tryz.ntmps51 fun G F R hE=>?_
 refine al (iz _ _ _ _ _ _ _ _ _ _ _ _ _) (go ?_)
 refine al ((ao.pick [0,1,2,3,4,5] rfl).trans (dU _ _ _ _ _ _ _ _ _ _ _ _ _)) ?_
 refine al (gD hR _) ?_
 refine ad hE Tryz.func51 zr zr ⟨rfl,rfl⟩
def Gf(room:Nat)(h1:1≤room)(h2:room≤1073741824):au Tryz.prog 6 [.int .i64 room] [] (fun v H=>∃bd,v = .tuple #[ptr bd,.int .i64 0]∧H=[aC bd (Ab.new room)]) :=
 (NP room h1 h2).conv (ao.refl _) (by rintro v H⟨bd,D,hR,rfl,rfl⟩;exact⟨_,⟨bd,rfl,rfl⟩,gD hR _⟩)
def sf(bd:Nat)(A:Ab)(name:ByteArray):au Tryz.prog 123 [ptr bd,.string name] [aC bd A] (fun v H=>H=[aC bd A]∧v = .tuple #[.int .i64 (A.size name).1,.int .i64 (A.size name).2]) :=
 ij ah (Post:=fun v H=>∃D,Rel D A∧H=[gn bd D]∧v = .tuple #[.int .i64 (A.size name).1,.int .i64 (A.size name).2]) (fun D hR=>(NG bd D A hR name).conv (ao.refl _) (by rintro v H⟨rfl,rfl⟩;exact⟨_,⟨D,hR,rfl,rfl⟩,ao.refl _⟩)) (by rintro v H⟨D,hR,rfl,rfl⟩;exact⟨_,⟨rfl,rfl⟩,gD hR _⟩)
def Bo(bd:Nat)(A:Ab)(name:ByteArray)(at_ n:Int):au Tryz.prog 124 [ptr bd,.string name,.int .i64 at_,.int .i64 n] [aC bd A]
  (fun v H=>∃r,H=[aC bd A,aB 5 1 r (A.read name at_ n).1.length (bV (A.read name at_ n).1)]∧v = .tuple #[r,.int .i64 (A.read name at_ n).2]) :=
 ij ah (Post:=fun v H=>∃D r,Rel D A∧H=[aB 5 1 r (A.read name at_ n).1.length (bV (A.read name at_ n).1),gn bd D]∧v = .tuple #[r,.int .i64 (A.read name at_ n).2])
  (fun D hR=>(NJ bd D A hR name at_ n).conv (ao.refl _) (by rintro v H⟨r,rfl,rfl⟩;exact⟨_,⟨D,r,hR,rfl,rfl⟩,ao.refl _⟩)) (by rintro v H⟨D,r,hR,rfl,rfl⟩;exact⟨_,⟨r,rfl,rfl⟩,(ao.pick [1,0] rfl).trans (gD hR _)⟩)
def tT(bd:Nat)(A:Ab)(name:ByteArray)(dK:A.aV.length≤1000000000):au Tryz.prog 139 [ptr bd,.string name] [aC bd A]
  (fun v H=>∃f,f ∉ A.fs.map (·.1)∧H=[aC bd (A.create (isName name) name f).2]∧v = .int .i64 (A.create (isName name) name f).1) :=
 ij ah (fun D hR=>Gu bd D A hR name dK) (by rintro v H⟨f,D',hf,hR,rfl,rfl⟩;exact⟨_,⟨f,hf,rfl,rfl⟩,gD hR _⟩)
def zX(bd:Nat)(A:Ab)(name:ByteArray)(dK:A.aV.length≤1000000000):au Tryz.prog 115 [ptr bd,.string name] [aC bd A]
  (fun v H=>H=[aC bd (A.remove (isName name) name).2]∧v = .int .i64 (A.remove (isName name) name).1) :=
 ij ah (fun D hR=>Gd bd D A hR name dK) (by rintro v H⟨D',hR,rfl,rfl⟩;exact⟨_,⟨rfl,rfl⟩,gD hR _⟩)
def xz(bd:Nat)(A:Ab)(name:ByteArray)(at_:Int)(X:HP)(bv:Value)(b:List UInt8)(hv:Vw X bv b.length (bV b))(ir:A.writes.length≤1000000000)(uC:b.length≤1000000000)(hat : -9223372036854775808≤at_∧at_≤9223372036854775807) :
  au Tryz.prog 172 [ptr bd,.string name,.int .i64 at_,bv] [aC bd A,X]
   (fun v H=>H=[aC bd (A.write (iy name at_ b) name at_.toNat b).2,X]∧v = .int .i64 (A.write (iy name at_ b) name at_.toNat b).1) :=
 ij ah (fun D hR=>J5 bd D A hR name at_ X bv b hv ir uC hat) (by rintro v H⟨D',hR,rfl,rfl⟩;exact⟨_,⟨rfl,rfl⟩,gD hR _⟩)
def Bg(bd:Nat)(A:Ab)(name:ByteArray)(ir:A.writes.length≤1000000000):au Tryz.prog 240 [ptr bd,.string name] [aC bd A]
  (fun v H=>H=[aC bd (A.sync (isName name) name).2]∧v = .int .i64 (A.sync (isName name) name).1) :=
 ij ah (fun D hR=>NF bd D A hR name ir) (by rintro v H⟨D',hR,rfl,rfl⟩;exact⟨_,⟨rfl,rfl⟩,gD hR _⟩)
def nK(bd:Nat)(A:Ab):au Tryz.prog 61 [ptr bd] [aC bd A]
  (fun v H=>H=[aC bd A.cF.2]∧v = .int .i64 A.cF.1) :=
 ij ah (fun D hR=>yB bd D A hR) (by rintro v H⟨D',hR,rfl,rfl⟩;exact⟨_,⟨rfl,rfl⟩,gD hR _⟩)
def Ka(bd:Nat)(A:Ab)(old name:ByteArray)(dK:A.aV.length≤1000000000):au Tryz.prog 242 [ptr bd,.string old,.string name] [aC bd A]
  (fun v H=>H=[aC bd (A.rename ([old,name].all isName) old name).2]∧v = .int .i64 (A.rename ([old,name].all isName) old name).1) :=
 ij ah (fun D hR=>Gc bd D A hR old name dK) (by rintro v H⟨D',hR,rfl,rfl⟩;exact⟨_,⟨rfl,rfl⟩,gD hR _⟩)
end Go.Proofs.YtlcoaflddajjcaaGreatDoor
namespace Go.Proofs.YtlcoaflddajjcaaGreatDoor
open Go Go.SL
def ko(A B:Ab):Prop:=B.aV.length≤A.aV.length+1∧B.writes.length≤A.writes.length+1
theorem pR(A:Ab)(n:ByteArray)(ok:Bool):(A.find n ok).2.2.aV.length=A.aV.length∧(A.find n ok).2.2.writes.length=A.writes.length:=by
 grind [mN]
theorem zA(A:Ab)(ok:Bool):(A.meet ok).2.aV.length=A.aV.length∧(A.meet ok).2.writes.length=A.writes.length:=by
 unfold Ab.meet
 grind
def oT(A:Ab)(ok:Bool)(n:ByteArray):ko A (A.remove ok n).2:=by
 have h:=pR A n ok
 unfold Ab.remove
 split
 ·rename_i f A1 he
  rw[he]at h
  simp only at h
  constructor <;> simp[Ab.pV] <;> omega
 ·rename_i e o A1 _ he
  rw[he]at h
  simp only at h
  constructor <;> simp only <;> omega
def uE(A:Ab)(ok:Bool)(o n:ByteArray):ko A (A.rename ok o n).2:=by
 have h:=pR A o ok
 unfold Ab.rename
 split
 ·rename_i f A1 he
  rw[he]at h
  simp only at h
  constructor <;> simp[Ab.pV] <;> omega
 ·rename_i e o A1 _ he
  rw[he]at h
  simp only at h
  constructor <;> simp only <;> omega
theorem oU(A:Ab)(ok:Bool)(n:ByteArray)(f:Nat):ko A (A.create ok n f).2:=by
 have h:=zA A ok
 unfold Ab.create
 split
 ·split
  ·constructor <;> simp only <;> omega
  split
  ·constructor <;> simp only <;> omega
  ·constructor <;> simp[Ab.pV] <;> omega
 ·constructor <;> simp only <;> omega
def nF(A:Ab)(ok:Bool)(n:ByteArray)(at_:Nat)(b:List UInt8):ko A (A.write ok n at_ b).2:=by
 have h:=pR A n ok
 unfold Ab.write
 split
 ·split
  ·split
   ·constructor <;> simp only <;> omega
   ·constructor <;> simp <;> omega
  ·constructor <;> simp only <;> omega
 ·constructor <;> simp only <;> omega
theorem pQ(A:Ab)(ok:Bool)(n:ByteArray):ko A (A.sync ok n).2:=by
 have h:=pR A n ok
 unfold Ab.sync
 split
 ·split
  ·constructor
   ·grind
   grind
  ·constructor <;> simp only <;> omega
 ·constructor <;> simp only <;> omega
def iY(A:Ab):ko A A.cF.2:=by
 have h:=zA A true
 unfold Ab.cF
 split
 ·constructor <;> simp only[List.length_singleton] <;> omega
 ·constructor <;> simp only <;> omega
attribute [local irreducible] J K au Ends ae aB aI bB aW aS a7 aX bF
theorem HT{σ:Type}(I:σ→HP)(V:HP)(v:Value)(jW:List Value)(hv:Vw V v jW.length jW)(hn:jW.length≤1000000000)(ss:List (σ→Nat→σ→Prop))(hlen:ss.length=jW.length)(Q:Nat→σ→Prop)(dK:∀(i:Nat) (fv:Value) (s:σ→Nat→σ→Prop),jW[i]?=some fv→ss[i]?=some s→∃g fi cap,fv = .func (.func g) fi cap∧∀x,Q i x→au Tryz.prog g (fi.toList++cap.toList) [I x] (fun r H=>∃(e:Nat) (x':σ),r = .int .i64 (e:Int)∧H=[I x']∧s x e x'∧(e=0→Q (i+1) x')))(x0:σ)(hQ:Q 0 x0) :
  au Tryz.prog 236 [v] [V,I x0] (fun r H=>∃(e:Nat) (x':σ),r = .int .i64 (e:Int)∧H=[V,I x']∧mh ss x0 e x'):=by
 obtain⟨a,c,rfl⟩:=hv.shape
 refine au.ak Tryz.func236 Tryz.ntmps236 fun G F R hE=>?_
 refine go ?_
 refine bj (fun y:Nat × σ=>y.1≤jW.length∧Q y.1 y.2∧∀e x',mh (ss.drop y.1) y.2 e x'→mh ss x0 e x') (fun y=>jW.length-y.1)
  (fun y=>[(0,.slice a jW.length c),(6,.slice a jW.length c),(7,.int .i64 (jW.length:Int)),(8,.int .i64 (y.1:Int))])
  (fun y=>V::I y.2::F) (0,x0) ⟨Nat.zero_le _,hQ,fun _ _ h=>h⟩ rfl bS ag ?_
 rintro⟨i,x⟩⟨hi,hq,hr⟩ ih
 refine go ?_
 refine aq zr zr ?_ ?_
 ·intro cL
  have jL:i<jW.length:=by omega
  obtain⟨fv,yp⟩:∃fv,jW[i]?=some fv:=⟨jW[i],List.getElem?_eq_getElem jL⟩
  obtain⟨s,hs⟩:∃s,ss[i]?=some s:=⟨ss[i],List.getElem?_eq_getElem ai⟩
  obtain⟨g,fi,cap,rfl,hc⟩:=dK i fv s yp hs
  have iX:ss.drop i=s::ss.drop (i+1):=by
   rw[List.drop_eq_getElem_cons ai]
   grind
  obtain⟨b0,o0,c0,sN⟩:=hv.some (by intro h;rw[h]at jL;simp at jL)
  obtain⟨rfl,-,rfl⟩:=sN
  refine go ?_
  refine bp i zr zr zr zr zr zr zr zr jL ?_
  refine aQ 0 i zr zr zr hv rfl yp zr zr (go ?_)
  refine ji zr zr zr (by simp) (hc x hq) ag ?_ jk
  rintro _ _⟨e,x',rfl,rfl,QK,Ol⟩
  refine go ?_
  refine aq zr zr ?_ ?_
  ·intro fu
   have he:e≠0:=by omega
   refine go ?_
   ((refine ad hE Tryz.func236 zr zr ⟨e,x',rfl,rfl,hr e x' (by rw[iX];exact⟨e,x',QK,.inl ⟨he,rfl,rfl⟩⟩)⟩))
  ·intro heq
   have he:e=0:=by omega
   refine go ?_
   refine aM ih (i+1,x') rfl (⟨by simp only;omega,Ol he,fun e2 x2 h2=>hr e2 x2 (by rw[iX];exact⟨e,x',QK,.inr ⟨he,h2⟩⟩)⟩) ai bS ag
 ·intro ep
  have dA:i=jW.length:=by omega
  refine go ?_
  ((refine ad hE Tryz.func236 zr zr ⟨0,x,rfl,rfl,hr 0 x (by rw[List.drop_eq_nil_of_le ai];exact⟨rfl,rfl⟩)⟩))
attribute [local irreducible] aC
def LU(bd jb xj xf xw xb:Nat)(name fresh:ByteArray)(wa ba:Option Addr)(wc bl bc:Nat)(whole:List UInt8)(br:Bool)(A:Ab)(n s c:Int)(dK:A.aV.length≤1000000000) :
  au Tryz.prog 235 [ptr xj,ptr xf] ([aC bd A,ae jb (cl [ptr bd,.string name,.int .i64 n,.int .i64 s,.int .i64 c,.bool br] 250),ae xj (cl [ptr jb] 151),ae xf (cl [.string fresh] 9),ae xw (cl [.slice wa whole.length wc] 22),ae xb (cl [.slice ba bl bc] 22),aB 5 1 (.slice wa whole.length wc) whole.length (bV whole)]) (fun r H=>∃(e:Nat) (A1:Ab),e=(A.remove (isName fresh) fresh).1∧A1=(A.remove (isName fresh) fresh).2∧r = .int .i64 (e:Int)∧H=[aC bd A1,ae jb (cl [ptr bd,.string name,.int .i64 n,.int .i64 s,.int .i64 c,.bool br] 250),ae xj (cl [ptr jb] 151),ae xf (cl [.string fresh] 9),ae xw (cl [.slice wa whole.length wc] 22),ae xb (cl [.slice ba bl bc] 22),aB 5 1 (.slice wa whole.length wc) whole.length (bV whole)]):=by
 refine au.ak Tryz.func235 Tryz.ntmps235 fun G F R hE=>?_
 refine go ?_
 refine aL (fun w=>Sat G w ([ae jb (cl [ptr bd,.string name,.int .i64 n,.int .i64 s,.int .i64 c,.bool br] 250),ae xj (cl [ptr jb] 151),ae xf (cl [.string fresh] 9),ae xw (cl [.slice wa whole.length wc] 22),aB 5 1 (.slice wa whole.length wc) whole.length (bV whole)])) (cJ 0 5 (.act 5 (.st 6 .nil))) rfl ah ah ah dv ?_
 refine go ?_
 refine bE (zX bd A fresh dK) ?_
 refine go ?_
 refine ad hE Tryz.func235 zr zr ⟨_,_,rfl,rfl,rfl,rfl⟩
def LR(bd jb xj xf xw xb:Nat)(name fresh:ByteArray)(wa ba:Option Addr)(wc bl bc:Nat)(whole:List UInt8)(br:Bool)(A:Ab)(n s c:Int)(dK:A.aV.length≤1000000000) :
  au Tryz.prog 237 [ptr xj,ptr xf] ([aC bd A,ae jb (cl [ptr bd,.string name,.int .i64 n,.int .i64 s,.int .i64 c,.bool br] 250),ae xj (cl [ptr jb] 151),ae xf (cl [.string fresh] 9),ae xw (cl [.slice wa whole.length wc] 22),ae xb (cl [.slice ba bl bc] 22),aB 5 1 (.slice wa whole.length wc) whole.length (bV whole)]) (fun r H=>∃(e:Nat) (A1:Ab),(∃f,f ∉ A.fs.map (·.1)∧e=(A.create (isName fresh) fresh f).1∧A1=(A.create (isName fresh) fresh f).2)∧r = .int .i64 (e:Int)∧H=[aC bd A1,ae jb (cl [ptr bd,.string name,.int .i64 n,.int .i64 s,.int .i64 c,.bool br] 250),ae xj (cl [ptr jb] 151),ae xf (cl [.string fresh] 9),ae xw (cl [.slice wa whole.length wc] 22),ae xb (cl [.slice ba bl bc] 22),aB 5 1 (.slice wa whole.length wc) whole.length (bV whole)]):=by
 refine au.ak Tryz.func237 Tryz.ntmps237 fun G F R hE=>?_
 refine go ?_
 refine aL (fun w=>Sat G w ([ae jb (cl [ptr bd,.string name,.int .i64 n,.int .i64 s,.int .i64 c,.bool br] 250),ae xj (cl [ptr jb] 151),ae xf (cl [.string fresh] 9),ae xw (cl [.slice wa whole.length wc] 22),aB 5 1 (.slice wa whole.length wc) whole.length (bV whole)])) (cJ 0 5 (.act 5 (.st 6 .nil))) rfl ah ah ah dv ?_
 refine go ?_
 refine cT (tT bd A fresh dK) ?_
 rintro _ _⟨f,hf,rfl,rfl⟩
 refine go ?_
 refine ad hE Tryz.func237 zr zr ⟨_,_,⟨f,hf,rfl,rfl⟩,rfl,rfl⟩
def LP(bd jb xj xf xw xb:Nat)(name fresh:ByteArray)(wa ba:Option Addr)(wc bl bc:Nat)(whole:List UInt8)(br:Bool)(A:Ab)(n s c:Int)(ir:A.writes.length≤1000000000)(uC:whole.length≤1000000000) :
  au Tryz.prog 238 [ptr xj,ptr xf,ptr xw] ([aC bd A,ae jb (cl [ptr bd,.string name,.int .i64 n,.int .i64 s,.int .i64 c,.bool br] 250),ae xj (cl [ptr jb] 151),ae xf (cl [.string fresh] 9),ae xw (cl [.slice wa whole.length wc] 22),ae xb (cl [.slice ba bl bc] 22),aB 5 1 (.slice wa whole.length wc) whole.length (bV whole)]) (fun r H=>∃(e:Nat) (A1:Ab),e=(A.write (iy fresh 0 whole) fresh 0 whole).1∧A1=(A.write (iy fresh 0 whole) fresh 0 whole).2∧r = .int .i64 (e:Int)∧H=[aC bd A1,ae jb (cl [ptr bd,.string name,.int .i64 n,.int .i64 s,.int .i64 c,.bool br] 250),ae xj (cl [ptr jb] 151),ae xf (cl [.string fresh] 9),ae xw (cl [.slice wa whole.length wc] 22),ae xb (cl [.slice ba bl bc] 22),aB 5 1 (.slice wa whole.length wc) whole.length (bV whole)]):=by
 refine au.ak Tryz.func238 Tryz.ntmps238 fun G F R hE=>?_
 refine go ?_
 refine aL (fun w=>Sat G w ([ae jb (cl [ptr bd,.string name,.int .i64 n,.int .i64 s,.int .i64 c,.bool br] 250),ae xj (cl [ptr jb] 151),ae xf (cl [.string fresh] 9),ae xw (cl [.slice wa whole.length wc] 22),aB 5 1 (.slice wa whole.length wc) whole.length (bV whole)])) (cJ 0 6 (.act 6 (.st 7 .nil))) rfl ah ah ah dv ?_
 refine go ?_
 refine dH 6 rfl ?_
 intro cW
 refine go ?_
 refine aP ?_
 refine gl (U:=aU) 3 zr zr zr zr zr zr (go ?_)
 refine bE (xz bd A fresh 0 _ _ whole cW ir uC ai) ?_
 refine go ?_
 refine ad hE Tryz.func238 zr zr ⟨_,_,rfl,rfl,rfl,rfl⟩
def LN(bd jb xj xf xw xb:Nat)(name fresh:ByteArray)(wa ba:Option Addr)(wc bl bc:Nat)(whole:List UInt8)(br:Bool)(A:Ab)(n s c:Int)(ir:A.writes.length≤1000000000) :
  au Tryz.prog 239 [ptr xj,ptr xf] ([aC bd A,ae jb (cl [ptr bd,.string name,.int .i64 n,.int .i64 s,.int .i64 c,.bool br] 250),ae xj (cl [ptr jb] 151),ae xf (cl [.string fresh] 9),ae xw (cl [.slice wa whole.length wc] 22),ae xb (cl [.slice ba bl bc] 22),aB 5 1 (.slice wa whole.length wc) whole.length (bV whole)]) (fun r H=>∃(e:Nat) (A1:Ab),e=(A.sync (isName fresh) fresh).1∧A1=(A.sync (isName fresh) fresh).2∧r = .int .i64 (e:Int)∧H=[aC bd A1,ae jb (cl [ptr bd,.string name,.int .i64 n,.int .i64 s,.int .i64 c,.bool br] 250),ae xj (cl [ptr jb] 151),ae xf (cl [.string fresh] 9),ae xw (cl [.slice wa whole.length wc] 22),ae xb (cl [.slice ba bl bc] 22),aB 5 1 (.slice wa whole.length wc) whole.length (bV whole)]):=by
 refine au.ak Tryz.func239 Tryz.ntmps239 fun G F R hE=>?_
 refine go ?_
 refine aL (fun w=>Sat G w ([ae jb (cl [ptr bd,.string name,.int .i64 n,.int .i64 s,.int .i64 c,.bool br] 250),ae xj (cl [ptr jb] 151),ae xf (cl [.string fresh] 9),ae xw (cl [.slice wa whole.length wc] 22),aB 5 1 (.slice wa whole.length wc) whole.length (bV whole)])) (cJ 0 5 (.act 5 (.st 6 .nil))) rfl ah ah ah dv ?_
 refine go ?_
 refine bE (Bg bd A fresh ir) ?_
 refine go ?_
 refine ad hE Tryz.func239 zr zr ⟨_,_,rfl,rfl,rfl,rfl⟩
def LL(bd jb xj xf xw xb:Nat)(name fresh:ByteArray)(wa ba:Option Addr)(wc bl bc:Nat)(whole:List UInt8)(br:Bool)(A:Ab)(n s c:Int)(dK:A.aV.length≤1000000000) :
  au Tryz.prog 241 [ptr xj,ptr xf] ([aC bd A,ae jb (cl [ptr bd,.string name,.int .i64 n,.int .i64 s,.int .i64 c,.bool br] 250),ae xj (cl [ptr jb] 151),ae xf (cl [.string fresh] 9),ae xw (cl [.slice wa whole.length wc] 22),ae xb (cl [.slice ba bl bc] 22),aB 5 1 (.slice wa whole.length wc) whole.length (bV whole)]) (fun r H=>∃(e:Nat) (A1:Ab),e=(A.rename ([fresh,name].all isName) fresh name).1∧A1=(A.rename ([fresh,name].all isName) fresh name).2∧r = .int .i64 (e:Int)∧H=[aC bd A1,ae jb (cl [ptr bd,.string name,.int .i64 n,.int .i64 s,.int .i64 c,.bool br] 250),ae xj (cl [ptr jb] 151),ae xf (cl [.string fresh] 9),ae xw (cl [.slice wa whole.length wc] 22),ae xb (cl [.slice ba bl bc] 22),aB 5 1 (.slice wa whole.length wc) whole.length (bV whole)]):=by
 refine au.ak Tryz.func241 Tryz.ntmps241 fun G F R hE=>?_
 refine go ?_
 refine aL (fun w=>Sat G w ([ae jb (cl [ptr bd,.string name,.int .i64 n,.int .i64 s,.int .i64 c,.bool br] 250),ae xj (cl [ptr jb] 151),ae xf (cl [.string fresh] 9),ae xw (cl [.slice wa whole.length wc] 22),aB 5 1 (.slice wa whole.length wc) whole.length (bV whole)])) (cJ 0 9 (.act 9 (.st 10 .nil))) rfl ah ah ah dv ?_
 refine go ?_
 refine bE (Ka bd A fresh name dK) ?_
 refine go ?_
 refine ad hE Tryz.func241 zr zr ⟨_,_,rfl,rfl,rfl,rfl⟩
def LJ(bd jb xj xf xw xb:Nat)(name fresh:ByteArray)(wa ba:Option Addr)(wc bl bc:Nat)(whole:List UInt8)(br:Bool)(A:Ab)(n s c:Int) :
  au Tryz.prog 243 [ptr xb,ptr xj] ([aC bd A,ae jb (cl [ptr bd,.string name,.int .i64 n,.int .i64 s,.int .i64 c,.bool br] 250),ae xj (cl [ptr jb] 151),ae xf (cl [.string fresh] 9),ae xw (cl [.slice wa whole.length wc] 22),ae xb (cl [.slice ba bl bc] 22),aB 5 1 (.slice wa whole.length wc) whole.length (bV whole)]) (fun r H=>r = .int .i64 0∧H=[aC bd A,ae jb (cl [ptr bd,.string name,.int .i64 1,.int .i64 (bl:Int),.int .i64 (bl:Int),.bool br] 250),ae xj (cl [ptr jb] 151),ae xf (cl [.string fresh] 9),ae xw (cl [.slice wa whole.length wc] 22),ae xb (cl [.slice ba bl bc] 22),aB 5 1 (.slice wa whole.length wc) whole.length (bV whole)]):=by
 refine au.ak Tryz.func243 Tryz.ntmps243 fun G F R hE=>?_
 refine go ?_
 refine aL (fun w=>Sat G w ([ae xj (cl [ptr jb] 151),ae xb (cl [.slice ba bl bc] 22)])) (cJ 0 9 (.act 9 (.st 10 (.st 11 (.act 12 (.st 13 (.st 14 (.act 15 .nil)))))))) rfl ah ah ah dv ?_
 refine go ?_
 refine aY ?_
 refine bN 1 (fun w hw=>by exact hw.cu ag) zr zr zr zr zr zr zr zr zr ?_
 refine go ?_
 refine aY ?_
 refine bN 1 (fun w hw=>by exact hw.cu ag) zr zr zr zr zr zr zr zr zr ?_
 refine go ?_
 refine ad hE Tryz.func243 zr zr ⟨rfl,rfl⟩
end Go.Proofs.YtlcoaflddajjcaaGreatDoor
namespace Go.Proofs.YtlcoaflddajjcaaGreatDoor
open Go Go.SL
abbrev PS:=Ab × Int × Int × Int
def Qy(g:Ab→Nat→Ab→Prop)(x:PS)(e:Nat)(y:PS):Prop:=g x.1 e y.1∧y.2=x.2
def As(fresh:ByteArray):=Qy fun A e B=>e=(A.remove (isName fresh) fresh).1∧B=(A.remove (isName fresh) fresh).2
def Au(fresh:ByteArray):=Qy fun A e B=>∃f,f ∉ A.fs.map (·.1)∧e=(A.create (isName fresh) fresh f).1∧B=(A.create (isName fresh) fresh f).2
def Ez(fresh:ByteArray)(whole:List UInt8):=Qy fun A e B=>e=(A.write (iy fresh 0 whole) fresh 0 whole).1∧B=(A.write (iy fresh 0 whole) fresh 0 whole).2
def Lt(fresh:ByteArray):=Qy fun A e B=>e=(A.sync (isName fresh) fresh).1∧B=(A.sync (isName fresh) fresh).2
def Ar(fresh name:ByteArray):=Qy fun A e B=>e=(A.rename ([fresh,name].all isName) fresh name).1∧B=(A.rename ([fresh,name].all isName) fresh name).2
def EA:=Qy fun A e B=>e=A.cF.1∧B=A.cF.2
def Yq(bl:Nat)(x:PS)(e:Nat)(y:PS):Prop:=e=0∧y=(x.1,1,(bl:Int),(bl:Int))
def bU(name:ByteArray):ByteArray:=name++⟨#[46,110,101,119]⟩
def cD(ls:List (List UInt8)):List UInt8:=List.replicate 16 0++cZ 1 (ls.flatMap cQ).length++ls.flatMap cQ
def gx(name:ByteArray)(ls:List (List UInt8))(A:Ab):List (PS→Nat→PS→Prop) :=
 (if(A.size (bU name)).2=0 then [As (bU name)]else []) ++
 [Au (bU name),Ez (bU name) (cD ls),Lt (bU name),Ar (bU name) name,EA,Yq (ls.flatMap cQ).length]
def Ge(name:ByteArray)(ls:List (List UInt8))(x:PS)(e:Nat)(y:PS):Prop:=mh (gx name ls x.1) x e y
attribute [local irreducible] J K au Ends ae aB aI bB aW aS a7 aX bF aC
def _root_.Go.SL.ao.kU(l:List HP):ao [Sep l] l:=by have:=ao.bY l [];rwa[List.append_nil]at this
def _root_.Go.SL.ao.kZ(l:List HP):ao l [Sep l]:=by have:=ao.bK l [];rwa[List.append_nil]at this
def PI(bd jb xj xf xw xb:Nat)(name fresh:ByteArray)(wa ba:Option Addr)(wc bl bc:Nat)(whole:List UInt8)(br:Bool)(x:PS):HP:=Sep [aC bd x.1,ae jb (cl [ptr bd,.string name,.int .i64 x.2.1,.int .i64 x.2.2.1,.int .i64 x.2.2.2,.bool br] 250),ae xj (cl [ptr jb] 151),ae xf (cl [.string fresh] 9),ae xw (cl [.slice wa whole.length wc] 22),ae xb (cl [.slice ba bl bc] 22),aB 5 1 (.slice wa whole.length wc) whole.length (bV whole)]
def PQ(i:Nat)(x:PS):Prop:=x.1.aV.length≤900000000+i∧x.1.writes.length≤900000000+i
def PQ.next{i:Nat}{x:PS}(h:PQ i x){B:Ab}(g:ko x.1 B):PQ (i+1) (B,x.2):=by
 obtain⟨h1,h2⟩:=h
 obtain⟨g1,g2⟩:=g
 exact⟨by simp only;omega,by simp only;omega⟩
end Go.Proofs.YtlcoaflddajjcaaGreatDoor
namespace Go.Proofs.YtlcoaflddajjcaaGreatDoor
open Go Go.SL
def JO{P:Program}{f:FuncId}{args:List Value}{Pre:List HP}{Post:Value→List HP→Prop}(X:List HP)(c:au P f args Pre Post):au P f args (Pre++X) (fun v H=>∃H',Post v H'∧H=H'++X) :=
 ⟨c.1,fun G w F hw=>(c.2 G w (X++F) (by rw[List.append_assoc]at hw;exact hw)).mono fun e w' h'=>let ⟨v,H,he,Pk,hs⟩:=h';⟨v,H++X,he,⟨H,Pk,rfl⟩,by rw[List.append_assoc];exact hs⟩⟩
attribute [local irreducible] J K au Ends ae aB aI bB aW aS a7 aX bF aC
def Yw(bd jb xj xf xw xb:Nat)(name fresh:ByteArray)(wa ba:Option Addr)(wc bl bc:Nat)(whole:List UInt8)(br:Bool)(i:Nat)(hi:i≤10)(x:PS)(hq:PQ i x) :
  au Tryz.prog 235 [ptr xj,ptr xf] [PI bd jb xj xf xw xb name fresh wa ba wc bl bc whole br x] (fun r H=>∃(e:Nat) (x':PS),r = .int .i64 (e:Int)∧H=[PI bd jb xj xf xw xb name fresh wa ba wc bl bc whole br x']∧As fresh x e x'∧(e=0→PQ (i+1) x')) :=
 (LU bd jb xj xf xw xb name fresh wa ba wc bl bc whole br x.1 x.2.1 x.2.2.1 x.2.2.2 (by have:=hq.1;omega)).conv (ao.kU _) (by
  rintro v H⟨e,A1,he,rW,rfl,rfl⟩
  exact⟨_,⟨_,(A1,x.2),rfl,rfl,⟨⟨he,rW⟩,rfl⟩,fun _=>hq.next (rW ▸ oT _ _ _)⟩,ao.kZ _⟩)
def LS(bd jb xj xf xw xb:Nat)(name fresh:ByteArray)(wa ba:Option Addr)(wc bl bc:Nat)(whole:List UInt8)(br:Bool)(i:Nat)(hi:i≤10)(x:PS)(hq:PQ i x) :
  au Tryz.prog 237 [ptr xj,ptr xf] [PI bd jb xj xf xw xb name fresh wa ba wc bl bc whole br x] (fun r H=>∃(e:Nat) (x':PS),r = .int .i64 (e:Int)∧H=[PI bd jb xj xf xw xb name fresh wa ba wc bl bc whole br x']∧Au fresh x e x'∧(e=0→PQ (i+1) x')) :=
 (LR bd jb xj xf xw xb name fresh wa ba wc bl bc whole br x.1 x.2.1 x.2.2.1 x.2.2.2 (by have:=hq.1;omega)).conv (ao.kU _) (by
  rintro v H⟨e,A1,⟨f,hf,he,rW⟩,rfl,rfl⟩
  exact⟨_,⟨_,(A1,x.2),rfl,rfl,⟨⟨f,hf,he,rW⟩,rfl⟩,fun _=>hq.next (rW ▸ oU _ _ _ _)⟩,ao.kZ _⟩)
def LQ(bd jb xj xf xw xb:Nat)(name fresh:ByteArray)(wa ba:Option Addr)(wc bl bc:Nat)(whole:List UInt8)(br:Bool)(i:Nat)(hi:i≤10)(uC:whole.length≤1000000000)(x:PS)(hq:PQ i x) :
  au Tryz.prog 238 [ptr xj,ptr xf,ptr xw] [PI bd jb xj xf xw xb name fresh wa ba wc bl bc whole br x] (fun r H=>∃(e:Nat) (x':PS),r = .int .i64 (e:Int)∧H=[PI bd jb xj xf xw xb name fresh wa ba wc bl bc whole br x']∧Ez fresh whole x e x'∧(e=0→PQ (i+1) x')) :=
 (LP bd jb xj xf xw xb name fresh wa ba wc bl bc whole br x.1 x.2.1 x.2.2.1 x.2.2.2 (by have:=hq.2;omega) uC).conv (ao.kU _) (by
  rintro v H⟨e,A1,he,rW,rfl,rfl⟩
  exact⟨_,⟨_,(A1,x.2),rfl,rfl,⟨⟨he,rW⟩,rfl⟩,fun _=>hq.next (rW ▸ nF _ _ _ _ _)⟩,ao.kZ _⟩)
def LO(bd jb xj xf xw xb:Nat)(name fresh:ByteArray)(wa ba:Option Addr)(wc bl bc:Nat)(whole:List UInt8)(br:Bool)(i:Nat)(hi:i≤10)(x:PS)(hq:PQ i x) :
  au Tryz.prog 239 [ptr xj,ptr xf] [PI bd jb xj xf xw xb name fresh wa ba wc bl bc whole br x] (fun r H=>∃(e:Nat) (x':PS),r = .int .i64 (e:Int)∧H=[PI bd jb xj xf xw xb name fresh wa ba wc bl bc whole br x']∧Lt fresh x e x'∧(e=0→PQ (i+1) x')) :=
 (LN bd jb xj xf xw xb name fresh wa ba wc bl bc whole br x.1 x.2.1 x.2.2.1 x.2.2.2 (by have:=hq.2;omega)).conv (ao.kU _) (by
  rintro v H⟨e,A1,he,rW,rfl,rfl⟩
  exact⟨_,⟨_,(A1,x.2),rfl,rfl,⟨⟨he,rW⟩,rfl⟩,fun _=>hq.next (rW ▸ pQ _ _ _)⟩,ao.kZ _⟩)
def LM(bd jb xj xf xw xb:Nat)(name fresh:ByteArray)(wa ba:Option Addr)(wc bl bc:Nat)(whole:List UInt8)(br:Bool)(i:Nat)(hi:i≤10)(x:PS)(hq:PQ i x) :
  au Tryz.prog 241 [ptr xj,ptr xf] [PI bd jb xj xf xw xb name fresh wa ba wc bl bc whole br x] (fun r H=>∃(e:Nat) (x':PS),r = .int .i64 (e:Int)∧H=[PI bd jb xj xf xw xb name fresh wa ba wc bl bc whole br x']∧Ar fresh name x e x'∧(e=0→PQ (i+1) x')) :=
 (LL bd jb xj xf xw xb name fresh wa ba wc bl bc whole br x.1 x.2.1 x.2.2.1 x.2.2.2 (by have:=hq.1;omega)).conv (ao.kU _) (by
  rintro v H⟨e,A1,he,rW,rfl,rfl⟩
  exact⟨_,⟨_,(A1,x.2),rfl,rfl,⟨⟨he,rW⟩,rfl⟩,fun _=>hq.next (rW ▸ uE _ _ _ _)⟩,ao.kZ _⟩)
def LG(bd jb xj xf xw xb:Nat)(name fresh:ByteArray)(wa ba:Option Addr)(wc bl bc:Nat)(whole:List UInt8)(br:Bool)(i:Nat)(x:PS)(hq:PQ i x) :
  au Tryz.prog 61 [ptr bd] [PI bd jb xj xf xw xb name fresh wa ba wc bl bc whole br x] (fun r H=>∃(e:Nat) (x':PS),r = .int .i64 (e:Int)∧H=[PI bd jb xj xf xw xb name fresh wa ba wc bl bc whole br x']∧EA x e x'∧(e=0→PQ (i+1) x')) :=
 (JO ([aC bd x.1,ae jb (cl [ptr bd,.string name,.int .i64 x.2.1,.int .i64 x.2.2.1,.int .i64 x.2.2.2,.bool br] 250),ae xj (cl [ptr jb] 151),ae xf (cl [.string fresh] 9),ae xw (cl [.slice wa whole.length wc] 22),ae xb (cl [.slice ba bl bc] 22),aB 5 1 (.slice wa whole.length wc) whole.length (bV whole)].drop 1) (nK bd x.1)).conv (ao.kU _) (by
  rintro v H⟨_,⟨rfl,rfl⟩,rfl⟩
  exact⟨_,⟨_,(x.1.cF.2,x.2),rfl,rfl,⟨⟨rfl,rfl⟩,rfl⟩,fun _=>hq.next (iY _)⟩,ao.kZ _⟩)
def LK(bd jb xj xf xw xb:Nat)(name fresh:ByteArray)(wa ba:Option Addr)(wc bl bc:Nat)(whole:List UInt8)(br:Bool)(i:Nat)(x:PS)(hq:PQ i x) :
  au Tryz.prog 243 [ptr xb,ptr xj] [PI bd jb xj xf xw xb name fresh wa ba wc bl bc whole br x] (fun r H=>∃(e:Nat) (x':PS),r = .int .i64 (e:Int)∧H=[PI bd jb xj xf xw xb name fresh wa ba wc bl bc whole br x']∧Yq bl x e x'∧(e=0→PQ (i+1) x')) :=
 (LJ bd jb xj xf xw xb name fresh wa ba wc bl bc whole br x.1 x.2.1 x.2.2.1 x.2.2.2).conv (ao.kU _) (by
  rintro v H⟨rfl,rfl⟩
  exact⟨_,⟨0,(x.1,1,(bl:Int),(bl:Int)),rfl,rfl,⟨rfl,rfl⟩,fun _=>⟨by have:=hq.1;simp only;omega,by have:=hq.2;simp only;omega⟩⟩,ao.kZ _⟩)
def jr(jb bd:Nat)(name:ByteArray)(n s c:Int)(br:Bool):HP:=ae jb (cl [ptr bd,.string name,.int .i64 n,.int .i64 s,.int .i64 c,.bool br] 250)
def zD{ls:List (List UInt8)}{i:Nat}{x:List UInt8}(h:ls[i]?=some x):(ls.take (i+1)).flatMap cQ=(ls.take i).flatMap cQ++cQ x:=by
 rw[List.take_add_one,h];simp
def HD(ls:List (List UInt8))(i:Nat):((ls.take i).flatMap cQ).length≤(ls.flatMap cQ).length:=by
 conv=>rhs;rw[← List.take_append_drop i ls,List.flatMap_append,List.length_append]
 omega
theorem GY(jb bd:Nat)(name:ByteArray)(n s c:Int)(br:Bool)(A:Ab)(V:HP)(lv:Value)(ls:List (List UInt8))(hv:qN V lv ls)(hl:(ls.flatMap cQ).length≤500000000)(Hk:ls.length≤1000000000)(Hj:name.size≤1000000000)(dK:A.aV.length≤900000000)(xV:A.writes.length≤900000000) :
    au Tryz.prog 127 [ptr jb,lv] [aC bd A,jr jb bd name n s c br,V]
      (fun r H=>∃(e:Nat) (y:PS),r = .int .i64 (e:Int)∧H=[aC bd y.1,jr jb bd name y.2.1 y.2.2.1 y.2.2.2 br,V]∧Ge name ls (A,n,s,c) e y):=by
  obtain⟨cs,cW,mX,⟨a,cc,rfl,hc⟩,qf⟩:=hv
  unfold jr
  refine au.ak Tryz.func127 Tryz.ntmps127 fun G F R hE=>?_
  refine go ?_
  refine bu zr zr bh ?_
  intro xj
  refine go ?_
  refine xJ zr zr zr (by show name.size+4≤_;omega) ?_
  refine go ?_
  refine aG 17 (.string (bU name)) zr zr ?_
  generalize BF:bU name=fresh
  refine az zr zr zr bh ?_
  intro xf
  refine go ?_
  refine az zr zr zr bh ?_
  intro xb
  refine go ?_
  refine al (bg 5 1 none _) ?_
  refine bj (fun y:Value × Nat=>y.2≤ls.length) (fun y=>ls.length-y.2)
    (fun y=>[(0,ptr jb),(2,ptr xj),(5,ptr xf),(6,ptr xb),(18,.slice a ls.length cc),(19,.int .i64 (ls.length:Int)),(20,.int .i64 (y.2:Int))])
    (fun y=>ae xb (cl [y.1] 22)::aB 5 1 y.1 ((ls.take y.2).flatMap cQ).length (bV ((ls.take y.2).flatMap cQ))::ae xf (cl [.string fresh] 9)::ae xj (cl [ptr jb] 151)::aC bd A::ae jb (cl [ptr bd,.string name,.int .i64 n,.int .i64 s,.int .i64 c,.bool br] 250)::V::F) (.slice none 0 0,0) (Nat.zero_le _) rfl bS ag ?_
  rintro⟨v,i⟩ hi ih
  simp only at hi
  refine go ?_
  refine aq zr zr ?_ ?_
  · intro cL
    simp only at cL
    have jL:i<ls.length:=by omega
    obtain⟨x,hx⟩:∃x,ls[i]?=some x:=⟨ls[i],List.getElem?_eq_getElem jL⟩
    obtain⟨cv,qg,hb⟩:=qf i x hx
    obtain⟨b0,o0,c0,sN⟩:=cW.some (by intro h;rw[h]at qg;simp at qg)
    simp only[Value.slice.injEq]at sN
    obtain⟨rfl,-,rfl⟩:=sN
    refine go ?_
    refine bp i zr zr zr zr zr zr zr zr jL ?_
    obtain⟨ax,cx,rfl,hcx⟩:=hb.2
    have nX:=zD hx
    have dL:((ls.take (i+1)).flatMap cQ).length=((ls.take i).flatMap cQ).length+(cQ x).length:=by rw[nX,List.length_append]
    have hle:=HD ls (i+1)
    have MB:x.length≤(cQ x).length:=by simp[cQ]
    refine aQ 6 i zr zr zr cW rfl qg zr zr ?_
    refine aH 1 rfl ?_
    intro av cv sI
    simp only at sI
    subst sI
    refine go ?_
    refine aL (fun w=>Sat G w ([ae xb (cl [.slice av ((ls.take i).flatMap cQ).length cv] 22)])) (.st 0 (.st 1 (.act 2 (.act 3 (.act 4 .nil))))) rfl ah ah ah dv ?_
    refine go ?_
    refine cT (oY V _ x hb ai) ?_
    rintro r _ rfl
    refine aH 0 rfl ?_
    rintro ra rc rfl
    refine dH 0 rfl ?_
    intro CK
    refine go ?_
    refine aJ (mm:=(cQ x).length) (news:=bV (cQ x)) 3 0 zr zr zr zr zr zr zr zr zr zr zr zr CK (by show _=_*1;rw[bD];omega) (cB _) (by simp only;omega) (by show(_+_)*1≤_;simp only;omega) (fun _=>rfl) (fun _ w hw=>by exact hw.cu ag) ?_
    intro v1
    simp only
    rw[show bV ((ls.take i).flatMap cQ)++bV (cQ x)=bV ((ls.take (i+1)).flatMap cQ)from by rw[nX];simp[bV],← dL]
    refine aH 3 rfl ?_
    rintro va vc rfl
    refine go ?_
    refine aM ih (.slice va ((ls.take (i+1)).flatMap cQ).length vc,i+1) rfl (by simp only;omega) (by simp only;omega) bS ag
  intro ep
  simp only at ep
  have dA:i=ls.length:=by omega
  subst dA
  rw[List.take_length]
  refine db 1 rfl ?_
  intro av cv sI
  simp only at sI
  subst sI
  obtain⟨B,hB⟩:∃B,B=ls.flatMap cQ:=⟨_,rfl⟩
  rw[← hB]at hl ⊢
  have hhl:(cZ 1 B.length).length=16:=pO _ _
  have ir:(cD ls)=List.replicate 16 0++cZ 1 B.length++B:=by rw[hB];rfl
  obtain⟨W,hW⟩:∃W,W=cD ls:=⟨_,rfl⟩
  rw[← hW]at ir
  have wR:W.length=32+B.length:=by rw[ir];simp only[List.length_append,List.length_replicate,hhl]
  have aec:∀(m:Nat) (ra:Option Addr) (rc row:Nat),ew (aB 5 1 (.slice ra (cZ 1 B.length).length rc) (cZ 1 B.length).length (bV (cZ 1 B.length))) (.slice ra (cZ 1 B.length).length rc) (cZ 1 B.length) →
      ew (aB 5 1 (.slice av B.length cv) B.length (bV B)) (.slice av B.length cv) B→au Tryz.prog 234 [.slice (some ⟨row,0,none⟩) 3 3]
      [Sep [ae row (cl [.slice (some ⟨m,0,none⟩) 16 16,.slice ra (cZ 1 B.length).length rc,.slice av B.length cv] 22),ae m (cl (bV (List.replicate 16 0)) 5),aB 5 1 (.slice ra (cZ 1 B.length).length rc) (cZ 1 B.length).length (bV (cZ 1 B.length)),aB 5 1 (.slice av B.length cv) B.length (bV B)]]
      (fun r H=>H=[aB 5 1 r W.length (bV W),Sep [ae row (cl [.slice (some ⟨m,0,none⟩) 16 16,.slice ra (cZ 1 B.length).length rc,.slice av B.length cv] 22),ae m (cl (bV (List.replicate 16 0)) 5),aB 5 1 (.slice ra (cZ 1 B.length).length rc) (cZ 1 B.length).length (bV (cZ 1 B.length)),aB 5 1 (.slice av B.length cv) B.length (bV B)]]):=by
    intro m ra rc row sO rR
    have sM:[List.replicate 16 0,cZ 1 B.length,B].flatten=W:=by rw[ir];simp only[List.flatten_cons,List.flatten_nil,List.append_nil,List.append_assoc]
    have:=Gv (Sep [ae row (cl [.slice (some ⟨m,0,none⟩) 16 16,.slice ra (cZ 1 B.length).length rc,.slice av B.length cv] 22),ae m (cl (bV (List.replicate 16 0)) 5),aB 5 1 (.slice ra (cZ 1 B.length).length rc) (cZ 1 B.length).length (bV (cZ 1 B.length)),aB 5 1 (.slice av B.length cv) B.length (bV B)]) (.slice (some ⟨row,0,none⟩) 3 3) [List.replicate 16 0,cZ 1 B.length,B]
      ⟨[.slice (some ⟨m,0,none⟩) 16 16,.slice ra (cZ 1 B.length).length rc,.slice av B.length cv],(Vw.ae rfl).mono (bn (i:=0) rfl),rfl,⟨_,_,rfl,Nat.le_refl 3⟩,fun i x hx=>by
        match i,hx with
        | 0,hx=>cases hx;exact⟨_,rfl,⟨(Vw.ae (b:=m) (l:=bV (List.replicate 16 0)) (e:=5) rfl).mono (bn (i:=1) rfl),_,_,rfl,by decide⟩⟩
        | 1,hx=>cases hx;exact⟨_,rfl,sO.mono (bn (i:=2) rfl)⟩
        | 2,hx=>cases hx;exact⟨_,rfl,rR.mono (bn (i:=3) rfl)⟩
        | k+3,hx=>simp at hx⟩ (by rw[sM,wR];omega) (by show 3≤_;omega)
    rw[sM]at this
    exact this
  refine qP (bs:=B) 1 rfl ?_
  intro rR
  refine gG rfl ?_
  refine sl 1 (fun y:Option Addr × Nat × Nat=>True) (fun y=>[(0,ptr jb),(2,ptr xj),(5,ptr xf),(6,ptr xb),(9,ptr y.2.2)]) (fun y=>ae y.2.2 (cl [.slice y.1 W.length y.2.1] 22)::aB 5 1 (.slice y.1 W.length y.2.1) W.length (bV W)::ae xb (cl [.slice av B.length cv] 22)::ae xf (cl [.string fresh] 9)::ae xj (cl [ptr jb] 151)::aC bd A::ae jb (cl [ptr bd,.string name,.int .i64 n,.int .i64 s,.int .i64 c,.bool br] 250)::V::F) rfl ?_ ?_
  rotate_left
  · intro tail
    refine aL (fun w=>Sat G w ([ae xb (cl [.slice av B.length cv] 22)])) (.st 1 (.st 2 (.st 4 (.fork (.fork (.act 0 (.fork (.act 3 (.fork (.act 5 (.fork (.act 6 (.act 7 (.act 8 .nil))) (.act 7 (.act 6 (.act 8 .nil))))) (.act 7 (.act 5 (.act 6 (.act 8 .nil)))))) (.act 7 (.act 3 (.act 5 (.act 6 (.act 8 .nil))))))) (.act 3 (.fork (.act 0 (.fork (.act 5 (.fork (.act 6 (.act 7 (.act 8 .nil))) (.act 7 (.act 6 (.act 8 .nil))))) (.act 7 (.act 5 (.act 6 (.act 8 .nil)))))) (.act 7 (.act 0 (.act 5 (.act 6 (.act 8 .nil)))))))) (.act 7 (.fork (.act 0 (.act 3 (.act 5 (.act 6 (.act 8 .nil))))) (.act 3 (.act 0 (.act 5 (.act 6 (.act 8 .nil))))))))))) rfl ah ah ah dv ?_
    repeat'(first|refine nM ?_ ?_|(refine il (p:=16) (q:=16) zr zr zr zr zr zr zr zr zr ai ai (by show 1*16≤_;omega) (fun _ w hw=>by exact hw.cu ag) ?_;intro m)|(((refine cT (wN 1 B.length ai ai) ?_));rintro _ _ rfl;((refine aH 0 rfl ?_));rintro ra rc rfl;refine eZ (bs:=cZ 1 B.length) 0 rfl ?_;intro sO)|(refine aj zr zr zr zr zr zr zr zr zr (fun _ w hw=>by exact hw.cu ag) ?_;intro row)|(refine az zr zr zr (fun _ w hw=>by exact hw.cu ag) ?_;intro x9)|(refine de zr zr zr zr (aec m ra rc row sO rR) (ao.trans ag (ao.bK [_,_,_,_] _)) ?_ tqg;rintro _ _ rfl;((refine aH 0 rfl ?_));rintro wa wc rfl)|(refine aY ?_;(first|refine bN 0 e8 zr zr zr zr zr zr zr zr zr ?_|refine bN 2 e8 zr zr zr zr zr zr zr zr zr ?_);refine DO ?_;refine mi tail (wa,wc,x9) rfl trivial bS ag)|(refine er ?_)|fail)
  rintro⟨wa,wc,x9⟩ -
  simp only
  refine go ?_
  refine aL (fun w=>Sat G w ([ae jb (cl [ptr bd,.string name,.int .i64 n,.int .i64 s,.int .i64 c,.bool br] 250),ae xj (cl [ptr jb] 151),ae xf (cl [.string fresh] 9)])) (cJ 0 5 (.act 5 (cJ 6 5 .nil))) rfl ah ah ah dv ?_
  refine go ?_
  refine bE (sf bd A fresh) ?_
  refine go ?_
  refine sl 1 (fun y:Value × List Value=>y.2=if(A.size fresh).2=0 then [.func (.func 235) #[] #[ptr xj,ptr xf] ]else []) (fun y=>[(0,ptr jb),(2,ptr xj),(5,ptr xf),(6,ptr xb),(9,ptr x9),(10,y.1)]) (fun y=>ae xj (cl [ptr jb] 151)::ae jb (cl [ptr bd,.string name,.int .i64 n,.int .i64 s,.int .i64 c,.bool br] 250)::aB 101 1 y.1 y.2.length y.2::ae x9 (cl [.slice wa W.length wc] 22)::aB 5 1 (.slice wa W.length wc) W.length (bV W)::ae xb (cl [.slice av B.length cv] 22)::ae xf (cl [.string fresh] 9)::aC bd A::V::F) rfl ?_ ?_
  rotate_left
  · intro tail
    refine al (bg 101 1 none _) ?_
    refine aq zr zr ?_ ?_
    · intro he
      refine go ?_
      refine aj zr zr zr zr zr zr zr zr zr bh ?_
      intro row
      refine go ?_
      refine aJ (mm:=1) (news:=[.func (.func 235) #[] #[ptr xj,ptr xf]]) 1 0 zr zr zr zr zr zr zr zr zr zr zr zr (Vw.ae rfl) rfl (by simp[Value.oneCell']) ai (by show(0+1)*8≤_;omega) (fun _=>rfl) bh ?_
      intro v1
      refine aH 1 rfl ?_
      rintro va vc rfl
      refine oe ?_
      refine mi tail (.slice va (0+1) vc,[.func (.func 235) #[] #[ptr xj,ptr xf] ]) rfl (by rw[if_pos ai]) bS ag
    · intro he
      refine mi tail (.slice none 0 0,[]) rfl (by rw[if_neg ai]) bS ag
  rintro⟨sv,fv⟩ yp
  simp only at yp ⊢
  refine db 2 rfl ?_
  rintro va vc rfl
  refine go ?_
  have sM:fv.length≤1:=by rw[yp];split <;> simp
  refine aj (cs:=[.func (.func 237) #[] #[ptr xj,ptr xf],.func (.func 238) #[] #[ptr xj,ptr xf,ptr x9],.func (.func 239) #[] #[ptr xj,ptr xf],.func (.func 241) #[] #[ptr xj,ptr xf],.func (.func 61) #[ptr bd] #[],.func (.func 243) #[] #[ptr xb,ptr xj] ]) zr zr zr zr zr zr zr zr zr bh ?_
  intro row
  refine go ?_
  refine aJ (mm:=6) (news:=[.func (.func 237) #[] #[ptr xj,ptr xf],.func (.func 238) #[] #[ptr xj,ptr xf,ptr x9],.func (.func 239) #[] #[ptr xj,ptr xf],.func (.func 241) #[] #[ptr xj,ptr xf],.func (.func 61) #[ptr bd] #[],.func (.func 243) #[] #[ptr xb,ptr xj] ]) 3 0 zr zr zr zr zr zr zr zr zr zr zr zr (Vw.ae rfl) rfl (by simp[Value.oneCell']) ai (by show(_+6)*8≤_;omega) (fun _=>rfl) bh ?_
  intro v1
  refine dH 3 rfl ?_
  intro mH
  obtain⟨fs,CT⟩:∃fs,fs=fv++[.func (.func 237) #[] #[ptr xj,ptr xf],.func (.func 238) #[] #[ptr xj,ptr xf,ptr x9],.func (.func 239) #[] #[ptr xj,ptr xf],.func (.func 241) #[] #[ptr xj,ptr xf],.func (.func 61) #[ptr bd] #[],.func (.func 243) #[] #[ptr xb,ptr xj] ]:=⟨_,rfl⟩
  rw[← CT]at mH ⊢
  have ad6:fs.length=fv.length+6:=by rw[CT,List.length_append];rfl
  rw[← ad6]at mH ⊢
  have AT:(gx name ls A).length=fs.length:=by
    grind [gx]
  have hWb:W.length≤1000000000:=by omega
  have Fp:∀(i:Nat) (fv:Value) (s:PS→Nat→PS→Prop),fs[i]?=some fv→(gx name ls A)[i]?=some s→∃g fi cap,fv = .func (.func g) fi cap∧∀x,PQ i x→au Tryz.prog g (fi.toList++cap.toList) [PI bd jb xj xf x9 xb name fresh wa av wc B.length cv W br x] (fun r H=>∃(e:Nat) (x':PS),r = .int .i64 (e:Int)∧H=[PI bd jb xj xf x9 xb name fresh wa av wc B.length cv W br x']∧s x e x'∧(e=0→PQ (i+1) x')):=by
    intro i f1 s1 h1 h2
    have hi:i<fs.length:=(List.getElem?_eq_some_iff.1 h1).1
    have wL:i≤10:=by omega
    unfold gx at h2
    rw[BF,← hW,← hB]at h2
    rw[CT,yp]at h1
    by_cases hz:(A.size fresh).2=0
    · rw[if_pos hz]at h1 h2
      match i,h1,h2 with
      | 0,h1,h2=>cases h1;cases h2;exact⟨_,_,_,rfl,fun x hq=>Yw _ _ _ _ _ _ _ _ _ _ _ _ _ _ _ _ wL x hq⟩
      | 1,h1,h2=>cases h1;cases h2;exact⟨_,_,_,rfl,fun x hq=>LS _ _ _ _ _ _ _ _ _ _ _ _ _ _ _ _ wL x hq⟩
      | 2,h1,h2=>cases h1;cases h2;exact⟨_,_,_,rfl,fun x hq=>LQ _ _ _ _ _ _ _ _ _ _ _ _ _ _ _ _ wL hWb x hq⟩
      | 3,h1,h2=>cases h1;cases h2;exact⟨_,_,_,rfl,fun x hq=>LO _ _ _ _ _ _ _ _ _ _ _ _ _ _ _ _ wL x hq⟩
      | 4,h1,h2=>cases h1;cases h2;exact⟨_,_,_,rfl,fun x hq=>LM _ _ _ _ _ _ _ _ _ _ _ _ _ _ _ _ wL x hq⟩
      | 5,h1,h2=>cases h1;cases h2;exact⟨_,_,_,rfl,fun x hq=>LG _ _ _ _ _ _ _ _ _ _ _ _ _ _ _ _ x hq⟩
      | 6,h1,h2=>cases h1;cases h2;exact⟨_,_,_,rfl,fun x hq=>LK _ _ _ _ _ _ _ _ _ _ _ _ _ _ _ _ x hq⟩
      | k+7,h1,h2=>simp at h1
    · rw[if_neg hz]at h1 h2
      match i,h1,h2 with
      | 0,h1,h2=>cases h1;cases h2;exact⟨_,_,_,rfl,fun x hq=>LS _ _ _ _ _ _ _ _ _ _ _ _ _ _ _ _ wL x hq⟩
      | 1,h1,h2=>cases h1;cases h2;exact⟨_,_,_,rfl,fun x hq=>LQ _ _ _ _ _ _ _ _ _ _ _ _ _ _ _ _ wL hWb x hq⟩
      | 2,h1,h2=>cases h1;cases h2;exact⟨_,_,_,rfl,fun x hq=>LO _ _ _ _ _ _ _ _ _ _ _ _ _ _ _ _ wL x hq⟩
      | 3,h1,h2=>cases h1;cases h2;exact⟨_,_,_,rfl,fun x hq=>LM _ _ _ _ _ _ _ _ _ _ _ _ _ _ _ _ wL x hq⟩
      | 4,h1,h2=>cases h1;cases h2;exact⟨_,_,_,rfl,fun x hq=>LG _ _ _ _ _ _ _ _ _ _ _ _ _ _ _ _ x hq⟩
      | 5,h1,h2=>cases h1;cases h2;exact⟨_,_,_,rfl,fun x hq=>LK _ _ _ _ _ _ _ _ _ _ _ _ _ _ _ _ x hq⟩
      | k+6,h1,h2=>simp at h1
  have fI:=HT (PI bd jb xj xf x9 xb name fresh wa av wc B.length cv W br) (aB 101 1 v1 fs.length fs) v1 fs mH ai (gx name ls A) AT PQ Fp (A,n,s,c) ⟨by simp only;omega,by simp only;omega⟩
  refine aH 3 rfl ?_
  rintro Od Oc rfl
  refine go ?_
  refine de zr zr zr zr fI (ao.trans ag (ao.cons _ (ao.bK [aC bd A,ae jb (cl [ptr bd,.string name,.int .i64 n,.int .i64 s,.int .i64 c,.bool br] 250),ae xj (cl [ptr jb] 151),ae xf (cl [.string fresh] 9),ae x9 (cl [.slice wa W.length wc] 22),ae xb (cl [.slice av B.length cv] 22),aB 5 1 (.slice wa W.length wc) W.length (bV W)] _))) ?_ jk
  rintro _ _⟨e,y,rfl,rfl,hr⟩
  refine aN (ao.trans (ao.pick [1] rfl) (ao.bY [aC bd y.1,ae jb (cl [ptr bd,.string name,.int .i64 y.2.1,.int .i64 y.2.2.1,.int .i64 y.2.2.2,.bool br] 250),ae xj (cl [ptr jb] 151),ae xf (cl [.string fresh] 9),ae x9 (cl [.slice wa W.length wc] 22),ae xb (cl [.slice av B.length cv] 22),aB 5 1 (.slice wa W.length wc) W.length (bV W)] _)) (go ?_)
  refine ad hE Tryz.func127 zr zr ⟨e,y,rfl,rfl,hr⟩
def O3(name:ByteArray)(f:Nat):((Ab.new 1).create (isName name) name f).1=if isName name then 0 else 1:=by
 cases h:isName name <;> simp[Ab.create,Ab.meet,Ab.new,Ab.look,Ab.dy]
def G6(name:ByteArray):au Tryz.prog 122 [.string name] [] (fun r H=>r = .bool (isName name)∧H=[]):=by
 refine au.ak Tryz.func122 Tryz.ntmps122 fun G F R hE=>?_
 refine go ?_
 refine aF (Gf 1 ai ai) ?_
 rintro _ _⟨bd,rfl,rfl⟩
 refine go ?_
 refine aF (tT bd (Ab.new 1) name (by simp[Ab.new])) ?_
 rintro _ _⟨f,hf,rfl,rfl⟩
 rw[O3]
 refine go ?_
 ((refine bq 2 ((.bool (isName name))) rfl ((congrArg Value.bool (by cases isName name <;> rfl))) ?_))
 refine al (ao.drop _ _) ?_
 refine ad hE Tryz.func122 zr zr ⟨rfl,rfl⟩
def qJ(jb bd:Nat)(name:ByteArray)(n s c:Int)(br:Bool)(e:Nat):au Tryz.prog 148 [ptr jb,.int .i64 (e:Int)] [jr jb bd name n s c br] (fun r H=>r = .int .i64 (e:Int)∧H=[jr jb bd name n s c (br || decide (e≠0))]):=by
 unfold jr
 refine au.ak Tryz.func148 Tryz.ntmps148 fun G F R hE=>?_
 cases br
 ·refine go ?_
  have hd:decide ((e:Int)≠0)=(false || decide (e≠0)):=by by_cases h:e=0 <;> simp[h]
  simp only[hd]
  refine ad hE Tryz.func148 zr zr ⟨rfl,rfl⟩
 ·refine go ?_
  refine ad hE Tryz.func148 zr zr ⟨rfl,rfl⟩
structure JN where
 n:Int
 s:Int
 c:Int
 br:Bool
def kx(jb bd:Nat)(name:ByteArray)(x:JN):HP:=jr jb bd name x.n x.s x.c x.br
def eP(name:ByteArray)(A:Ab)(x:JN)(b:List UInt8):Nat × Ab × JN :=
 if x.br then(10,A,x)else if 4096<b.length then(1,A,x)else if 524288<x.s+(cQ b).length then(3,A,x)else
 if(A.write (iy name (32+x.s) (cQ b)) name (32+x.s).toNat (cQ b)).1=0 then(0,(A.write (iy name (32+x.s) (cQ b)) name (32+x.s).toNat (cQ b)).2,{ x with s:=x.s+(cQ b).length })
 else((A.write (iy name (32+x.s) (cQ b)) name (32+x.s).toNat (cQ b)).1,(A.write (iy name (32+x.s) (cQ b)) name (32+x.s).toNat (cQ b)).2,{ x with br:=true })
theorem w5(b:List UInt8)(h:b.length≤1000000000000):(cQ b).length≤b.length+10:=by
 grind [mu,cQ]
def jrE(jb bd:Nat)(name:ByteArray)(n s c:Int):HP:=fun h=>∃br,ae jb (cl [ptr bd,.string name,.int .i64 n,.int .i64 s,.int .i64 c,.bool br] 250) h
def Fj(jb bd:Nat)(name:ByteArray)(n s c:Int)(br:Bool)(H:List HP):ao (ae jb (cl [ptr bd,.string name,.int .i64 n,.int .i64 s,.int .i64 c,.bool br] 250)::H) (jrE jb bd name n s c::H) :=
 ao.fold (B:=[_]) fun h' hs=>⟨h',sub.refl h',br,dp hs⟩
end Go.Proofs.YtlcoaflddajjcaaGreatDoor
namespace Go.Proofs.YtlcoaflddajjcaaGreatDoor
open Go Go.SL
def wz{G:ct}{w:World}{jb bd:Nat}{name:ByteArray}{n s c:Int}(hw:Sat G w [jrE jb bd name n s c]):w.cell? ⟨jb,0,none⟩=some (ptr bd)∧w.cell? ⟨jb,1,none⟩=some (.string name)∧w.cell? ⟨jb,3,none⟩=some (.int .i64 s):=by
 obtain⟨h,hh,br,hA⟩:=hw.jF (i:=0) rfl
 have hb:h jb=some (cl [ptr bd,.string name,.int .i64 n,.int .i64 s,.int .i64 c,.bool br] 250):=by rw[hA jb,if_pos rfl]
 exact⟨dE hh (by unfold dt;rw[hb];rfl),dE hh (by unfold dt;rw[hb];rfl),dE hh (by unfold dt;rw[hb];rfl)⟩
attribute [local irreducible] J K au Ends ae aB aI bB aW aS a7 aX bF aC
def GB(jb bd:Nat)(name:ByteArray)(A:Ab)(x:JN)(X:HP)(bv:Value)(b:List UInt8)(hv:ew X bv b)(hl:b.length≤9223372036854775807)(hs:0≤x.s∧x.s≤1000000000)(ir:A.writes.length≤1000000000) :
  au Tryz.prog 368 [ptr jb,bv] [aC bd A,kx jb bd name x,X]
   (fun r H=>r = .int .i64 ((eP name A x b).1:Int)∧H=[aC bd (eP name A x b).2.1,kx jb bd name (eP name A x b).2.2,X]):=by
 obtain⟨n,s,c,br⟩:=x
 obtain⟨a,cc,rfl,hc⟩:=hv.2
 simp only at hs
 dsimp only [kx,jr]
 refine au.ak Tryz.func368 Tryz.ntmps368 fun G F R hE=>?_
 dsimp only [eP]at hE
 cases br with
 | true =>
  simp only[if_true]at hE
  refine go ?_
  refine ad hE Tryz.func368 zr zr ⟨rfl,rfl⟩
 | false =>
  simp only[Bool.false_eq_true,if_false]at hE
  refine go ?_
  refine aq zr zr ?_ ?_
  ·intro qE
   rw[if_pos ai]at hE
   refine go ?_
   refine ad hE Tryz.func368 zr zr ⟨rfl,rfl⟩
  intro xW
  have hb4:b.length≤4096:=by omega
  have qf:=w5 b ai
  rw[if_neg ai]at hE
  refine go ?_
  refine aF (oY X _ b hv ai) ?_
  rintro r _ rfl
  refine aH 0 rfl ?_
  rintro ra rc rfl
  refine eZ (bs:=cQ b) 0 rfl ?_
  intro zy
  refine go ?_
  refine aq zr zr ?_ ?_
  ·intro qE
   rw[if_pos ai]at hE
   refine go ?_
   refine ad hE Tryz.func368 zr zr ⟨rfl,rfl⟩
  intro tC
  rw[if_neg ai]at hE
  refine go ?_
  refine aL (fun w=>Sat G w [jrE jb bd name n s c]) (cJ 0 15 (.act 15 (.act 16 (.st 17 .nil)))) rfl ah ah ah (fun w hw=>hw.cu (ao.trans ag (Fj jb bd name n s c false []))) ?_
  refine go ?_
  refine aP ?_
  refine kQ zr zr (fun w hw=>(wz hw).1) zr zr ?_
  refine go ?_
  refine aP ?_
  refine kQ zr zr (fun w hw=>(wz hw).2.1) zr zr ?_
  refine go ?_
  refine aP ?_
  refine kQ zr zr (fun w hw=>(wz hw).2.2) zr zr ?_
  refine go ?_
  obtain⟨W,hW⟩:∃W,W=A.write (iy name (32+s) (cQ b)) name (32+s).toNat (cQ b):=⟨_,rfl⟩
  have xV:=xz bd A name (32+s) (aB 5 1 (.slice ra (cQ b).length rc) (cQ b).length (bV (cQ b))) (.slice ra (cQ b).length rc) (cQ b) zy.1 ir ai ai
  rw[← hW]at hE xV
  refine de rfl rfl rfl rfl xV ag ?_ (fun _ _ w hp hw=>by obtain⟨rfl,rfl⟩:=hp;exact hw.cu (ao.trans ag (Fj jb bd name n s c false [])))
  rintro _ _⟨rfl,rfl⟩
  refine de zr zr zr zr (qJ jb bd name n s c false W.1) ag ?_ (fun _ _ w hp hw=>by obtain⟨rfl,rfl⟩:=hp;exact hw.cu (ao.trans ag (Fj jb bd name n s c _ [])))
  rintro _ _⟨rfl,rfl⟩
  unfold jr
  refine go ?_
  refine aq zr zr ?_ ?_
  ·intro fu
   have jS:¬W.1=0:=by omega
   rw[if_neg jS]at hE
   have hd:(false || decide (W.1≠0))=true:=by simp[jS]
   simp only[hd]
   refine go ?_
   refine ad hE Tryz.func368 zr zr ⟨rfl,rfl⟩
  ·intro heq
   have AW:W.1=0:=by omega
   rw[if_pos AW]at hE
   have hd:(false || decide (W.1≠0))=false:=by simp[AW]
   simp only[hd]
   refine go ?_
   refine ad hE Tryz.func368 zr zr ⟨rfl,rfl⟩
def CI(bd jb x1 x3:Nat)(name:ByteArray)(next sz:Nat)(x:PS):HP:=Sep [aC bd x.1,ae jb (cl [ptr bd,.string name,.int .i64 x.2.1,.int .i64 x.2.2.1,.int .i64 x.2.2.2,.bool false] 250),ae x1 (cl [ptr jb] 151),ae x3 (cl [.int .i64 (next:Int)] 3)]
def CQ(sz:Nat)(i:Nat)(x:PS):Prop:=x.2.2.1=(sz:Int)∧x.1.aV.length≤900000000+i∧x.1.writes.length≤900000000+i
def CQ.next{sz i:Nat}{x:PS}(h:CQ sz i x){B:Ab}(g:ko x.1 B):CQ sz (i+1) (B,x.2):=by
 obtain⟨h0,h1,h2⟩:=h
 obtain⟨g1,g2⟩:=g
 exact⟨h0,by simp only;omega,by simp only;omega⟩
def HQ(name:ByteArray):=Qy fun A e B=>e=(A.sync (isName name) name).1∧B=(A.sync (isName name) name).2
def Q9(name:ByteArray)(next sz:Nat):=Qy fun A e B=>e=(A.write (iy name ((next%2*16:Nat):Int) (cZ next sz)) name (next%2*16) (cZ next sz)).1∧B=(A.write (iy name ((next%2*16:Nat):Int) (cZ next sz)) name (next%2*16) (cZ next sz)).2
def acJ(next:Nat)(x:PS)(e:Nat)(y:PS):Prop:=e=0∧y=(x.1,(next:Int),x.2.2.1,x.2.2.1)
def o5(name:ByteArray)(next sz:Nat):List (PS→Nat→PS→Prop):=[HQ name,Q9 name next sz,HQ name,acJ next]
def p4(name:ByteArray)(A:Ab)(x:JN)(e:Nat)(A':Ab)(x':JN):Prop :=
 if x.br then e=10∧A'=A∧x'=x else if x.s=x.c then e=0∧A'=A∧x'=x else if 1073741824≤x.n then e=3∧A'=A∧x'=x
 else ∃y:PS,mh (o5 name (x.n.toNat+1) x.s.toNat) (A,x.n,x.s,x.c) e y∧A'=y.1∧x'=⟨y.2.1,y.2.2.1,y.2.2.2,decide (e≠0)⟩
def D0(bd jb x1 x3:Nat)(name:ByteArray)(next sz:Nat)(A:Ab)(n s c:Int)(ir:A.writes.length≤1000000000) :
  au Tryz.prog 435 [ptr x1] ([aC bd A,ae jb (cl [ptr bd,.string name,.int .i64 n,.int .i64 s,.int .i64 c,.bool false] 250),ae x1 (cl [ptr jb] 151),ae x3 (cl [.int .i64 (next:Int)] 3)]) (fun r H=>∃(e:Nat) (A1:Ab),e=(A.sync (isName name) name).1∧A1=(A.sync (isName name) name).2∧r = .int .i64 (e:Int)∧H=[aC bd A1,ae jb (cl [ptr bd,.string name,.int .i64 n,.int .i64 s,.int .i64 c,.bool false] 250),ae x1 (cl [ptr jb] 151),ae x3 (cl [.int .i64 (next:Int)] 3)]):=by
 refine au.ak Tryz.func435 Tryz.ntmps435 fun G F R hE=>?_
 refine go ?_
 refine aL (fun w=>Sat G w ([ae jb (cl [ptr bd,.string name,.int .i64 n,.int .i64 s,.int .i64 c,.bool false] 250),ae x1 (cl [ptr jb] 151),ae x3 (cl [.int .i64 (next:Int)] 3)])) (cJ 0 8 (.act 8 (.st 9 .nil))) rfl ah ah ah dv ?_
 refine go ?_
 refine bE (Bg bd A name ir) ?_
 refine go ?_
 refine ad hE Tryz.func435 zr zr ⟨_,_,rfl,rfl,rfl,rfl⟩
def DY(bd jb x1 x3:Nat)(name:ByteArray)(next sz:Nat)(A:Ab)(n s c:Int)(ir:A.writes.length≤1000000000) :
  au Tryz.prog 437 [ptr x1] ([aC bd A,ae jb (cl [ptr bd,.string name,.int .i64 n,.int .i64 s,.int .i64 c,.bool false] 250),ae x1 (cl [ptr jb] 151),ae x3 (cl [.int .i64 (next:Int)] 3)]) (fun r H=>∃(e:Nat) (A1:Ab),e=(A.sync (isName name) name).1∧A1=(A.sync (isName name) name).2∧r = .int .i64 (e:Int)∧H=[aC bd A1,ae jb (cl [ptr bd,.string name,.int .i64 n,.int .i64 s,.int .i64 c,.bool false] 250),ae x1 (cl [ptr jb] 151),ae x3 (cl [.int .i64 (next:Int)] 3)]):=by
 refine au.ak Tryz.func437 Tryz.ntmps437 fun G F R hE=>?_
 refine go ?_
 refine aL (fun w=>Sat G w ([ae jb (cl [ptr bd,.string name,.int .i64 n,.int .i64 s,.int .i64 c,.bool false] 250),ae x1 (cl [ptr jb] 151),ae x3 (cl [.int .i64 (next:Int)] 3)])) (cJ 0 8 (.act 8 (.st 9 .nil))) rfl ah ah ah dv ?_
 refine go ?_
 refine bE (Bg bd A name ir) ?_
 refine go ?_
 refine ad hE Tryz.func437 zr zr ⟨_,_,rfl,rfl,rfl,rfl⟩
def DZ(bd jb x1 x3:Nat)(name:ByteArray)(next sz:Nat)(u6:next≤2000000000)(iJ:sz≤2000000000)(A:Ab)(n c:Int)(ir:A.writes.length≤1000000000) :
  au Tryz.prog 436 [ptr x1,ptr x3] ([aC bd A,ae jb (cl [ptr bd,.string name,.int .i64 n,.int .i64 (sz:Int),.int .i64 c,.bool false] 250),ae x1 (cl [ptr jb] 151),ae x3 (cl [.int .i64 (next:Int)] 3)]) (fun r H=>∃(e:Nat) (A1:Ab),e=(A.write (iy name ((next%2*16:Nat):Int) (cZ next sz)) name (next%2*16) (cZ next sz)).1∧A1=(A.write (iy name ((next%2*16:Nat):Int) (cZ next sz)) name (next%2*16) (cZ next sz)).2∧r = .int .i64 (e:Int)∧H=[aC bd A1,ae jb (cl [ptr bd,.string name,.int .i64 n,.int .i64 (sz:Int),.int .i64 c,.bool false] 250),ae x1 (cl [ptr jb] 151),ae x3 (cl [.int .i64 (next:Int)] 3)]):=by
 refine au.ak Tryz.func436 Tryz.ntmps436 fun G F R hE=>?_
 refine go ?_
 refine aL (fun w=>Sat G w ([ae jb (cl [ptr bd,.string name,.int .i64 n,.int .i64 (sz:Int),.int .i64 c,.bool false] 250),ae x1 (cl [ptr jb] 151),ae x3 (cl [.int .i64 (next:Int)] 3)])) (cJ 0 16 (.act 16 (.act 17 (.st 18 .nil)))) rfl ah ah ah dv ?_
 refine go ?_
 refine lT zr zr zr ai ai ?_
 refine aG 12 (.int .i64 ((next%2:Nat):Int)) rfl (congrArg (Value.int .i64) ai) (go ?_)
 refine eN zr zr zr (by simp only[fz];omega) ?_
 refine aG 13 (.int .i64 ((next%2*16:Nat):Int)) rfl (congrArg (Value.int .i64) ai) (go ?_)
 refine cT (wN next sz ai ai) ?_
 rintro _ _ rfl
 refine aH 0 rfl ?_
 rintro ra rc rfl
 refine eZ (bs:=cZ next sz) 0 rfl ?_
 intro zy
 have xV:=xz bd A name ((next%2*16:Nat):Int) _ _ (cZ next sz) zy.1 ir (by rw[pO];omega) ai
 refine bE xV ?_
 refine go ?_
 refine ad hE Tryz.func436 zr zr ⟨_,_,rfl,rfl,rfl,rfl⟩
def jrS(jb:Nat)(s:Int):HP:=fun h=>∃bd name n c br,ae jb (cl [ptr bd,.string name,.int .i64 n,.int .i64 s,.int .i64 c,.bool br] 250) h
def Mw(jb bd:Nat)(name:ByteArray)(n s c:Int)(br:Bool)(H:List HP):ao (ae jb (cl [ptr bd,.string name,.int .i64 n,.int .i64 s,.int .i64 c,.bool br] 250)::H) (jrS jb s::H) :=
 ao.fold (B:=[_]) fun h' hs=>⟨h',sub.refl h',bd,name,n,c,br,dp hs⟩
end Go.Proofs.YtlcoaflddajjcaaGreatDoor
namespace Go.Proofs.YtlcoaflddajjcaaGreatDoor
open Go Go.SL
def Mx{G:ct}{w:World}{jb:Nat}{s:Int}{H:List HP}(hw:Sat G w (jrS jb s::H)):w.cell? ⟨jb,3,none⟩=some (.int .i64 s):=by
 obtain⟨h,hh,bd,name,n,c,br,hA⟩:=hw.jF (i:=0) rfl
 have hb:h jb=some (cl [ptr bd,.string name,.int .i64 n,.int .i64 s,.int .i64 c,.bool br] 250):=by rw[hA jb,if_pos rfl]
 exact dE hh (by unfold dt;rw[hb];rfl)
attribute [local irreducible] J K au Ends ae aB aI bB aW aS a7 aX bF aC
def DX(bd jb x1 x3:Nat)(name:ByteArray)(next sz:Nat)(A:Ab)(n s c:Int) :
  au Tryz.prog 438 [ptr x3,ptr x1] ([aC bd A,ae jb (cl [ptr bd,.string name,.int .i64 n,.int .i64 s,.int .i64 c,.bool false] 250),ae x1 (cl [ptr jb] 151),ae x3 (cl [.int .i64 (next:Int)] 3)]) (fun r H=>r = .int .i64 0∧H=[aC bd A,ae jb (cl [ptr bd,.string name,.int .i64 (next:Int),.int .i64 s,.int .i64 s,.bool false] 250),ae x1 (cl [ptr jb] 151),ae x3 (cl [.int .i64 (next:Int)] 3)]):=by
 refine au.ak Tryz.func438 Tryz.ntmps438 fun G F R hE=>?_
 refine go ?_
 refine aL (fun w=>Sat G w [jrS jb s,ae x1 (cl [ptr jb] 151),ae x3 (cl [.int .i64 (next:Int)] 3)]) (cJ 0 9 (.act 9 (.st 10 (.st 11 (.act 12 .nil))))) rfl ah ah ah (fun w hw=>hw.cu (ao.trans ag (Mw jb bd name _ s _ _ _))) ?_
 refine go ?_
 refine aP ?_
 refine kQ zr zr (fun w hw=>Mx hw) zr zr ?_
 refine go ?_
 refine aY ?_
 refine bN 1 (fun w hw=>by exact hw.cu (ao.trans ag (Mw jb bd name _ s _ _ _))) zr zr zr zr zr zr zr zr zr ?_
 refine go ?_
 refine ad hE Tryz.func438 zr zr ⟨rfl,rfl⟩
def Ky(bd jb x1 x3:Nat)(name:ByteArray)(next sz:Nat)(i:Nat)(hi:i≤10)(x:PS)(hq:CQ sz i x) :
  au Tryz.prog 435 [ptr x1] [CI bd jb x1 x3 name next sz x] (fun r H=>∃(e:Nat) (x':PS),r = .int .i64 (e:Int)∧H=[CI bd jb x1 x3 name next sz x']∧HQ name x e x'∧(e=0→CQ sz (i+1) x')):=by
 obtain⟨A,n,s,c⟩:=x
 have h0:=hq.1
 subst h0
 exact(D0 bd jb x1 x3 name next sz A n (sz:Int) c (by have:=hq.2.2;simp only at this;omega)).conv (ao.kU _) (by
  rintro v H⟨e,A1,he,rW,rfl,rfl⟩
  exact⟨_,⟨_,(A1,n,(sz:Int),c),rfl,rfl,⟨⟨he,rW⟩,rfl⟩,fun _=>hq.next (rW ▸ pQ _ _ _)⟩,ao.kZ _⟩)
def Kw(bd jb x1 x3:Nat)(name:ByteArray)(next sz:Nat)(i:Nat)(hi:i≤10)(x:PS)(hq:CQ sz i x) :
  au Tryz.prog 437 [ptr x1] [CI bd jb x1 x3 name next sz x] (fun r H=>∃(e:Nat) (x':PS),r = .int .i64 (e:Int)∧H=[CI bd jb x1 x3 name next sz x']∧HQ name x e x'∧(e=0→CQ sz (i+1) x')):=by
 obtain⟨A,n,s,c⟩:=x
 have h0:=hq.1
 subst h0
 exact(DY bd jb x1 x3 name next sz A n (sz:Int) c (by have:=hq.2.2;simp only at this;omega)).conv (ao.kU _) (by
  rintro v H⟨e,A1,he,rW,rfl,rfl⟩
  exact⟨_,⟨_,(A1,n,(sz:Int),c),rfl,rfl,⟨⟨he,rW⟩,rfl⟩,fun _=>hq.next (rW ▸ pQ _ _ _)⟩,ao.kZ _⟩)
def Kx(bd jb x1 x3:Nat)(name:ByteArray)(next sz:Nat)(i:Nat)(hi:i≤10)(u6:next≤2000000000)(iJ:sz≤2000000000)(x:PS)(hq:CQ sz i x) :
  au Tryz.prog 436 [ptr x1,ptr x3] [CI bd jb x1 x3 name next sz x] (fun r H=>∃(e:Nat) (x':PS),r = .int .i64 (e:Int)∧H=[CI bd jb x1 x3 name next sz x']∧Q9 name next sz x e x'∧(e=0→CQ sz (i+1) x')):=by
 obtain⟨A,n,s,c⟩:=x
 have h0:=hq.1
 subst h0
 exact(DZ bd jb x1 x3 name next sz u6 iJ A n c (by have:=hq.2.2;simp only at this;omega)).conv (ao.kU _) (by
  rintro v H⟨e,A1,he,rW,rfl,rfl⟩
  exact⟨_,⟨_,(A1,n,(sz:Int),c),rfl,rfl,⟨⟨he,rW⟩,rfl⟩,fun _=>hq.next (rW ▸ nF _ _ _ _ _)⟩,ao.kZ _⟩)
def Kv(bd jb x1 x3:Nat)(name:ByteArray)(next sz:Nat)(i:Nat)(hi:i≤10)(x:PS)(hq:CQ sz i x) :
  au Tryz.prog 438 [ptr x3,ptr x1] [CI bd jb x1 x3 name next sz x] (fun r H=>∃(e:Nat) (x':PS),r = .int .i64 (e:Int)∧H=[CI bd jb x1 x3 name next sz x']∧acJ next x e x'∧(e=0→CQ sz (i+1) x')):=by
 obtain⟨A,n,s,c⟩:=x
 have h0:=hq.1
 subst h0
 exact(DX bd jb x1 x3 name next sz A n (sz:Int) c).conv (ao.kU _) (by
  rintro v H⟨rfl,rfl⟩
  exact⟨_,⟨_,(A,(next:Int),(sz:Int),(sz:Int)),(by exact(congrArg (Value.int .i64) (show(0:Int)=((0:Nat):Int)from rfl))),rfl,⟨rfl,rfl⟩,fun _=>⟨rfl,by have:=hq.2.1;simp only at this ⊢;omega,by have:=hq.2.2;simp only at this ⊢;omega⟩⟩,ao.kZ _⟩)
def Gw(jb bd:Nat)(name:ByteArray)(A:Ab)(x:JN)(hn:0≤x.n)(hs:0≤x.s∧x.s≤1000000000)(dK:A.aV.length≤900000000)(xV:A.writes.length≤900000000) :
  au Tryz.prog 369 [ptr jb] [aC bd A,kx jb bd name x]
   (fun r H=>∃(e:Nat) (A':Ab) (x':JN),r = .int .i64 (e:Int)∧H=[aC bd A',kx jb bd name x']∧p4 name A x e A' x'):=by
 obtain⟨n,s,c,br⟩:=x
 simp only at hs hn
 dsimp only [kx,jr]
 refine au.ak Tryz.func369 Tryz.ntmps369 fun G F R hE=>?_
 refine go ?_
 refine bu zr zr bh ?_
 intro x1
 cases br with
 | true =>
  refine go ?_
  ((refine ad hE Tryz.func369 zr zr ⟨10,A,⟨n,s,c,true⟩,rfl,rfl,(by unfold p4;rw[if_pos rfl];exact⟨rfl,rfl,rfl⟩)⟩))
 | false =>
  refine go ?_
  refine aL (fun w=>Sat G w ([ae x1 (cl [ptr jb] 151),ae jb (cl [ptr bd,.string name,.int .i64 n,.int .i64 s,.int .i64 c,.bool false] 250)])) (cJ 0 10 .nil) rfl ah ah ah dv ?_
  refine go ?_
  refine aq zr zr ?_ ?_
  ·intro heq
   refine go ?_
   ((refine ad hE Tryz.func369 zr zr ⟨0,A,⟨n,s,c,false⟩,rfl,rfl,(by unfold p4;rw[if_neg (by simp),if_pos heq];exact⟨rfl,rfl,rfl⟩)⟩))
  intro fu
  refine go ?_
  refine aq zr zr ?_ ?_
  ·intro qE
   refine go ?_
   ((refine ad hE Tryz.func369 zr zr ⟨3,A,⟨n,s,c,false⟩,rfl,rfl,(by unfold p4;rw[if_neg (by simp),if_neg fu,if_pos qE];exact⟨rfl,rfl,rfl⟩)⟩))
  intro xW
  obtain⟨sz,rfl⟩:∃sz:Nat,s=(sz:Int):=⟨s.toNat,ai⟩
  obtain⟨nx,u6⟩:∃nx:Nat,n+1=(nx:Int):=⟨n.toNat+1,ai⟩
  refine go ?_
  refine aG 29 (.int .i64 (nx:Int)) rfl (congrArg (Value.int .i64) u6) ?_
  refine az zr zr zr bh ?_
  intro x3
  refine go ?_
  refine aL (fun w=>Sat G w ([ae x1 (cl [ptr jb] 151)])) (cJ 0 5 (.act 5 (.act 6 (.act 7 (.st 8 .nil))))) rfl ah ah ah dv ?_
  refine go ?_
  have Fp:∀(i:Nat) (fv:Value) (s:PS→Nat→PS→Prop),([.func (.func 435) #[] #[ptr x1],.func (.func 436) #[] #[ptr x1,ptr x3],.func (.func 437) #[] #[ptr x1],.func (.func 438) #[] #[ptr x3,ptr x1] ]:List Value)[i]?=some fv→(o5 name nx sz)[i]?=some s→∃g fi cap,fv = .func (.func g) fi cap∧∀x,CQ sz i x→au Tryz.prog g (fi.toList++cap.toList) [CI bd jb x1 x3 name nx sz x] (fun r H=>∃(e:Nat) (x':PS),r = .int .i64 (e:Int)∧H=[CI bd jb x1 x3 name nx sz x']∧s x e x'∧(e=0→CQ sz (i+1) x')):=by
   intro i f1 s1 h1 h2
   match i,h1,h2 with
   | 0,h1,h2=>cases h1;cases h2;exact⟨_,_,_,rfl,fun x hq=>Ky bd jb x1 x3 name nx sz 0 ai x hq⟩
   | 1,h1,h2=>cases h1;cases h2;exact⟨_,_,_,rfl,fun x hq=>Kx bd jb x1 x3 name nx sz 1 ai ai ai x hq⟩
   | 2,h1,h2=>cases h1;cases h2;exact⟨_,_,_,rfl,fun x hq=>Kw bd jb x1 x3 name nx sz 2 ai x hq⟩
   | 3,h1,h2=>cases h1;cases h2;exact⟨_,_,_,rfl,fun x hq=>Kv bd jb x1 x3 name nx sz 3 ai x hq⟩
   | k+4,h1,h2=>simp at h1
  refine aj (cs:=[.func (.func 435) #[] #[ptr x1],.func (.func 436) #[] #[ptr x1,ptr x3],.func (.func 437) #[] #[ptr x1],.func (.func 438) #[] #[ptr x3,ptr x1] ]) zr zr zr zr zr zr zr zr zr (fun _ w hw=>by exact hw.cu ag) ?_
  intro row
  have fI:=HT (CI bd jb x1 x3 name nx sz) (ae row (cl ([.func (.func 435) #[] #[ptr x1],.func (.func 436) #[] #[ptr x1,ptr x3],.func (.func 437) #[] #[ptr x1],.func (.func 438) #[] #[ptr x3,ptr x1] ]) 101)) (.slice (some ⟨row,0,none⟩) 4 4) ([.func (.func 435) #[] #[ptr x1],.func (.func 436) #[] #[ptr x1,ptr x3],.func (.func 437) #[] #[ptr x1],.func (.func 438) #[] #[ptr x3,ptr x1] ]) (Vw.ae rfl) (by show 4≤_;omega) (o5 name nx sz) rfl (CQ sz) Fp (A,n,(sz:Int),c) ⟨rfl,by simp only;omega,by simp only;omega⟩
  refine de zr zr zr zr fI (ao.trans ag (ao.cons _ (ao.bK ([aC bd A,ae jb (cl [ptr bd,.string name,.int .i64 n,.int .i64 (sz:Int),.int .i64 c,.bool false] 250),ae x1 (cl [ptr jb] 151),ae x3 (cl [.int .i64 (nx:Int)] 3)]) _))) ?_ (fun _ _ w hp hw=>by
   obtain⟨e,y,rfl,rfl,hr⟩:=hp
   exact hw.cu (ao.trans (ao.trans (ao.pick [1] rfl) (ao.bY ([aC bd y.1,ae jb (cl [ptr bd,.string name,.int .i64 y.2.1,.int .i64 y.2.2.1,.int .i64 y.2.2.2,.bool false] 250),ae x1 (cl [ptr jb] 151),ae x3 (cl [.int .i64 (nx:Int)] 3)]) _)) ag))
  rintro _ _⟨e,y,rfl,rfl,hr⟩
  refine aN (ao.trans (ao.pick [1] rfl) (ao.bY ([aC bd y.1,ae jb (cl [ptr bd,.string name,.int .i64 y.2.1,.int .i64 y.2.2.1,.int .i64 y.2.2.2,.bool false] 250),ae x1 (cl [ptr jb] 151),ae x3 (cl [.int .i64 (nx:Int)] 3)]) _)) ?_
  refine bE (qJ jb bd name y.2.1 y.2.2.1 y.2.2.2 false e) ?_
  unfold jr
  refine go ?_
  ((refine ad hE Tryz.func369 zr zr ⟨e,y.1,⟨y.2.1,y.2.2.1,y.2.2.2,decide (e≠0)⟩,rfl,rfl,(by unfold p4;rw[if_neg (by simp),if_neg fu,if_neg xW];exact⟨y,(by simp only[Int.toNat_natCast];rw[show n.toNat+1=nx from by omega];exact hr),rfl,rfl⟩)⟩))
end Go.Proofs.YtlcoaflddajjcaaGreatDoor
namespace Go.Proofs.YtlcoaflddajjcaaGreatDoor
open Go Go.SL
theorem oy:∀(f:Nat) (bs:List UInt8),((fE f bs).flatMap cQ).length≤2*bs.length∧(fE f bs).length≤bs.length∧∀x∈fE f bs,x.length≤4096
 | 0,bs=>by simp[fE]
 | f+1,bs=>by
  unfold fE
  split
  ·simp
  ·rename_i k n hl
   have hp:=pJ hl
   split
   ·rename_i hb
    obtain⟨h1,h2,h3⟩:=oy f (bs.drop (k+n))
    have hx:((bs.drop k).take n).length=n:=by rw[List.length_take,List.length_drop];omega
    have he:(cQ ((bs.drop k).take n)).length≤n+2:=by
     have:=vt 1 n (by have:=hp.2.2.2;omega)
     grind [cQ]
    grind
   ·simp
def oz(bs:List UInt8):((cm bs).flatMap cQ).length≤2*bs.length∧(cm bs).length≤bs.length∧∀x∈cm bs,x.length≤4096:=oy _ bs
def si(M:fJ)(cs:List Value)(ls:List (List UInt8)):Prop:=cs.length=ls.length∧∀(j:Nat) (y:List UInt8),ls[j]?=some y→∃cv,cs[j]?=some cv∧BI M 1 cv y.length (bV y)
def LI(lb:Nat)(ls:List (List UInt8)):HP:=fun h=>∃x:Value × List Value × fJ,si x.2.2 x.2.1 ls∧Sep [ae lb (cl [x.1] 35),aB 22 1 x.1 ls.length x.2.1,a7 5 x.2.2] h
def xx(e:TypeId)(H:List HP):ao H (a7 e []::H):=ao.lj H
def NS(lb:Nat)(a:Option Addr)(H:List HP):ao (ae lb (cl [.slice a 0 0] 35)::H) (LI lb []::H):=by
 have h1:ao (ae lb (cl [.slice a 0 0] 35)::H) ([ae lb (cl [.slice a 0 0] 35),aB 22 1 (.slice a 0 0) 0 [],a7 5 [] ]++H) :=
  ao.cons _ ((bg 22 1 a H).trans (ao.cons _ (xx 5 H)))
 exact h1.trans (ao.fold fun h hs=>⟨h,sub.refl h,(.slice a 0 0,[],[]),⟨rfl,fun j y hj=>by simp at hj⟩,hs⟩)
theorem Qi(lb:Nat)(ls:List (List UInt8))(x:List UInt8)(v rv:Value)(cs:List Value)(M M':fJ)(hR:si M cs ls)(hr:BI M' 1 rv x.length (bV x))(hs:∀y∈M,y∈M')(H:List HP) :
  ao (ae lb (cl [v] 35)::aB 22 1 v (ls.length+1) (cs++[rv])::a7 5 M'::H) (LI lb (ls++[x])::H):=by
 refine ao.fold (B:=[ae lb (cl [v] 35),aB 22 1 v (ls.length+1) (cs++[rv]),a7 5 M']) fun h hp=>⟨h,sub.refl h,(v,cs++[rv],M'),⟨by simp[hR.1],fun j y hj=>?_⟩,by simp only[List.length_append,List.length_singleton];exact hp⟩
 simp only
 rw[List.getElem?_append]at hj ⊢
 rw[hR.1]
 split at hj
 ·rename_i cL
  obtain⟨cv,h1,h2⟩:=hR.2 j y hj
  rw[if_pos cL]
  exact⟨cv,h1,h2.mono hs⟩
 grind
def HW(lb:Nat)(ls:List (List UInt8)):∀h,LI lb ls h→∃x:Value × List Value × fJ,si x.2.2 x.2.1 ls∧Sep [ae lb (cl [x.1] 35),aB 22 1 x.1 ls.length x.2.1,a7 5 x.2.2] h:=fun h hs=>hs
def uq(v:Value)(ls:List (List UInt8)):HP:=fun h=>∃x:List Value × fJ,si x.2 x.1 ls∧Sep [aB 22 1 v ls.length x.1,a7 5 x.2] h
def Mp{v:Value}{ls:List (List UInt8)}{cs:List Value}{M:fJ}(hR:si M cs ls)(H:List HP):ao (aB 22 1 v ls.length cs::a7 5 M::H) (uq v ls::H) :=
 ao.fold (B:=[aB 22 1 v ls.length cs,a7 5 M]) fun h hp=>⟨h,sub.refl h,(cs,M),hR,hp⟩
def Fh(v:Value)(ls:List (List UInt8)):∀h,uq v ls h→∃x:List Value × fJ,si x.2 x.1 ls∧Sep [aB 22 1 v ls.length x.1,a7 5 x.2] h:=fun h hs=>hs
theorem si.lat{v:Value}{ls:List (List UInt8)}{cs:List Value}{M:fJ}(hR:si M cs ls)(h0:∃h,aB 22 1 v ls.length cs h):qN (Sep [aB 22 1 v ls.length cs,a7 5 M]) v ls:=by
 have hv:=Vw.l7 22 1 v ls.length cs h0
 refine⟨cs,hv.mono (bn (i:=0) rfl),hR.1,?_,fun i x hx=>?_⟩
 ·obtain⟨h,hl,⟨a,rfl,hn,_⟩|⟨b,o,cap,pre,junk,rfl,hp,hn,hc,_⟩⟩:=h0
  ·grind
  grind
 ·obtain⟨cv,h1,h2⟩:=hR.2 i x hx
  obtain⟨a,c,pN,hc⟩:=h2.shape
  exact⟨cv,h1,(h2.view 5).mono (bn (i:=1) rfl),a,c,pN,hc⟩
section
variable{P:Program}{f:FuncId}{n:Nat}{R:Ending→World→Prop}{G:ct}{k:List Item}{L:eH}{H:List HP}
def Rf{v:Value}{ls:List (List UInt8)}{cs:List Value}{M:fJ}(i:Nat)(hR:si M cs ls)(hi:bZ H i=some (aB 22 1 v ls.length cs))(h:qN (Sep [aB 22 1 v ls.length cs,a7 5 M]) v ls→K P f n R G k L H):K P f n R G k L H :=
 pn fun⟨w,hw⟩=>by
  obtain⟨h1,_,hA⟩:=hw.jF hi
  exact h (hR.lat ⟨h1,hA⟩)
def acV{bd:Nat}{A:Ab}(i:Nat)(hi:bZ H i=some (aC bd A))(h:(∃D,Rel D A)→K P f n R G k L H):K P f n R G k L H :=
 pn fun⟨w,hw⟩=>by
  obtain⟨h1,_,D,hR,_⟩:=hw.jF hi
  exact h ⟨D,hR⟩
end
theorem Ch(A:Ab)(hR:∃D,Rel D A)(name:ByteArray)(at_ n:Int):(A.read name at_ n).1.length≤1048576:=by
 obtain⟨D,hR⟩:=hR
 unfold Ab.read
 split
 ·simp
 split
 ·simp
 ·rename_i f hf
  split
  ·simp
  ·have h1:(A.now f).length≤1048576:=by
    unfold Ab.now Ab.file
    cases h:A.fs.find? (fun x=>decide (x.1=f))with
    | none=>simp
    | some x =>
     have:=hR.gb x (List.mem_of_find?_eq_some h)
     grind
   grind
end Go.Proofs.YtlcoaflddajjcaaGreatDoor
namespace Go.Proofs.YtlcoaflddajjcaaGreatDoor
open Go Go.SL
attribute [local irreducible] J K au Ends ae aB aI bB aW aS a7 aX bF aC LI uq
def jT(A:Ab)(name:ByteArray):List (List UInt8):=cm (fm (A.read name 0 (A.size name).1).1)
def ph(A:Ab)(name:ByteArray)(e:Nat)(A':Ab)(x:JN):Prop :=
 if ¬(isName name=true∧isName (bU name)=true)then e=1∧A'=A else if A.off then e=7∧A'=A
 else ∃y:PS,Ge name (jT A name) (A,0,0,0) e y∧A'=y.1∧x=⟨y.2.1,y.2.2.1,y.2.2.2,false⟩
def NK(bd:Nat)(name:ByteArray)(A:Ab)(Hj:name.size≤1000000000)(dK:A.aV.length≤900000000)(xV:A.writes.length≤900000000) :
  au Tryz.prog 62 [ptr bd,.string name] [aC bd A]
   (fun r H=>∃(e:Nat) (A':Ab) (x:JN),ph A name e A' x∧((e≠0∧r = .tuple #[.pointer none,.slice none 0 0,.int .i64 (e:Int)]∧H=[aC bd A']) ∨
    (e=0∧∃jb lv,r = .tuple #[ptr jb,lv,.int .i64 0]∧H=[aC bd A',kx jb bd name x,uq lv (jT A name)]))):=by
 refine au.ak Tryz.func62 Tryz.ntmps62 fun G F R hE=>?_
 refine acV 0 rfl ?_
 intro aem
 refine go ?_
 refine aw (G6 name) ?_
 cases h1:isName name with
 | false =>
  refine go ?_
  ((refine ad hE Tryz.func62 zr zr ⟨1,A,⟨0,0,0,false⟩,(by unfold ph;rw[if_pos (by simp[h1])];exact⟨rfl,rfl⟩),.inl ⟨ai,rfl,rfl⟩⟩))
 | true =>
 refine go ?_
 refine xJ zr zr zr (by show name.size+4≤_;omega) ?_
 refine aG 25 (.string (bU name)) zr zr ?_
 ((refine go ?_;(refine aF (G6 (bU name)) ?_)))
 rintro _ _⟨rfl,rfl⟩
 cases h2:isName (bU name)with
 | false =>
  refine go ?_
  ((refine ad hE Tryz.func62 zr zr ⟨1,A,⟨0,0,0,false⟩,(by unfold ph;rw[if_pos (by simp[h2])];exact⟨rfl,rfl⟩),.inl ⟨ai,rfl,rfl⟩⟩))
 | true =>
 refine go ?_
 refine aw (NM bd A) ?_
 cases h3:A.off with
 | true =>
  refine go ?_
  ((refine ad hE Tryz.func62 zr zr ⟨7,A,⟨0,0,0,false⟩,(by unfold ph;rw[if_neg (by simp[h1,h2]),if_pos h3];exact⟨rfl,rfl⟩),.inl ⟨ai,rfl,rfl⟩⟩))
 | false =>
 refine go ?_
 refine aw (sf bd A name) ?_
 refine go ?_
 refine aF (Bo bd A name 0 (A.size name).1) ?_
 rintro _ _⟨rb,rfl,rfl⟩
 have Jd:=Ch A aem name 0 (A.size name).1
 obtain⟨B,hB⟩:∃B,B=(A.read name 0 (A.size name).1).1:=⟨_,rfl⟩
 rw[← hB]at Jd ⊢
 refine go ?_
 refine aH 1 rfl ?_
 rintro ra rc rfl
 refine eZ (bs:=B) 1 rfl ?_
 intro zy
 refine az zr zr zr bh ?_
 intro lb
 refine go ?_
 refine aF (JF _ _ B zy ai) ?_
 rintro fv _⟨hbf,rfl⟩
 obtain⟨fa,fc,rfl,hfc⟩:=hbf.2
 refine aF (Ce fa (fm B).length fc) ?_
 rintro _ _⟨bx,rfl,rfl⟩
 have sM:(fm B).length≤1048576:=by
  unfold fm
  split
  ·simp
  ·rw[List.length_take,List.length_drop];omega
 refine go ?_
 obtain⟨rs,MH⟩:∃rs,rs=cm (fm B):=⟨_,rfl⟩
 have BH:=oz (fm B)
 rw[← MH]at BH
 refine gG rfl ?_
 refine al (ao.trans (ao.pick [2] rfl) (NS lb none _)) ?_
 refine vf (Fr:=aC bd A::F) (Pre:=fun _ _=>[ae bx (cl [.slice fa (fm B).length fc] 22),aB 5 1 (.slice ra B.length rc) B.length (bV B),LI lb [] ]) (Post:=?Po) rfl hE.1.1 rfl ?c (fun l r=>ag) ?jq
 case c =>
  intro l r
  refine Az (aB 5 1 (.slice ra B.length rc) B.length (bV B)) l bx _ (fm B) hbf ai _ (fun i=>LI lb ((cm (fm B)).take i)) ?_
  intro i x hx rv
  refine bF.IN zr zr ?_
  intro G2 F2 R2 hY
  have jL:i<(cm (fm B)).length:=(List.getElem?_eq_some_iff.1 hx).1
  have wO:=(oz (fm B)).2.1
  have jl:(cm (fm B)).take (i+1)=(cm (fm B)).take i++[x]:=by rw[List.take_add_one,hx];rfl
  have uz:((cm (fm B)).take i).length≤(fm B).length:=by rw[List.length_take];omega
  simp only[jl]at hY
  generalize (cm (fm B)).take i=ts at uz hY ⊢
  refine go ?_
  refine gN rfl hY ?_
  refine al (ao.pick [1] rfl) ?_
  refine cX (HW lb ts) ?_
  rintro⟨lv,cs,M⟩ hR
  refine al (ao.trans (ao.pick [4,2] rfl) (ao.join _ _ _)) ?_
  refine cX (B6 5 1 x.length rv (bV x) M) ?_
  rintro M'⟨Oh,dj⟩
  obtain⟨xa,xc,rfl,hxc⟩:=Oh.shape
  refine db 2 rfl ?_
  intro la lc hlv
  simp only at hlv
  subst hlv
  refine go ?_
  refine aj zr zr zr zr zr zr zr zr zr bh ?_
  intro row
  refine go ?_
  refine aJ (mm:=1) (news:=[.slice xa x.length xc]) 3 0 zr zr zr zr zr zr zr zr zr zr zr zr (Vw.ae rfl) rfl (by simp[Value.oneCell']) ai (by show(_+1)*24≤_;omega) (fun _=>rfl) bh ?_
  intro v1
  refine aH 3 rfl ?_
  rintro va vc rfl
  refine go ?_
  refine al (ao.trans ag (Qi lb ts x _ (.slice xa x.length xc) cs M M' hR Oh dj _)) ?_
  refine fV hY rfl ag ⟨rfl,rfl⟩
 intro l r v H eL
 obtain⟨v',rfl⟩:=eL
 refine⟨_,_,_,rfl,by decide,?_⟩
 rw[hE.1.2,List.take_length,← MH]
 refine al (ao.pick [2] rfl) ?_
 refine cX (HW lb rs) ?_
 rintro⟨lv,cs,M⟩ hR
 refine db 1 rfl ?_
 intro la lc hlv
 simp only at hlv
 subst hlv
 simp only at hR
 refine Rf 1 hR rfl ?_
 intro lz
 refine go ?_
 refine bu zr zr bh ?_
 intro jb
 refine go ?_
 have ym:=GY jb bd name 0 0 0 false A (Sep [aB 22 1 (.slice la rs.length lc) rs.length cs,a7 5 M]) (.slice la rs.length lc) rs lz ai ai Hj dK xV
 refine de zr zr zr zr ym (ao.trans ag (ao.cons (aC bd A) (ao.cons (jr jb bd name 0 0 0 false) (ao.bK [aB 22 1 (.slice la rs.length lc) rs.length cs,a7 5 M] _)))) ?_ jk
 rintro _ _⟨e,y,rfl,rfl,hpr⟩
 have zx:jT A name=rs:=by rw[MH,hB];rfl
 have mI:ph A name e y.1 ⟨y.2.1,y.2.2.1,y.2.2.2,false⟩:=by
  unfold ph
  rw[if_neg (by simp[h1,h2]),if_neg (by rw[h3];simp),zx]
  exact⟨y,hpr,rfl,rfl⟩
 rw[zx]at hE
 refine go ?_
 refine aq zr zr ?_ ?_
 ·intro fu
  have jS:e≠0:=by omega
  refine go ?_
  refine pX hE Tryz.func62 rfl _ rfl ⟨e,_,_,mI,.inl ⟨jS,rfl,rfl⟩⟩ ag
 ·intro heq
  have AW:e=0:=by omega
  subst AW
  refine go ?_
  refine aL (fun w=>Sat G w ([ae lb (cl [.slice la rs.length lc] 35)])) (cJ 0 5 .nil) rfl ah ah ah dv ?_
  refine go ?_
  refine al (ao.trans (ao.pick [2] rfl) (ao.bY [aB 22 1 (.slice la rs.length lc) rs.length cs,a7 5 M] _)) ?_
  refine al (Mp hR _) ?_
  refine pX hE Tryz.func62 rfl _ rfl ⟨0,_,_,mI,.inr ⟨rfl,jb,_,rfl,rfl⟩⟩ ag
end Go.Proofs.YtlcoaflddajjcaaGreatDoor
namespace Go.Proofs.YtlcoaflddajjcaaGreatDoor
open Go Go.SL
instance adf(n:ByteArray)(K:List ByteArray):Decidable (n∈K):=decidable_of_iff (K.any (fun x=>decide (x=n))=true) (by rw[List.any_eq_true];exact⟨fun⟨x,hx,h⟩=>of_decide_eq_true h ▸ hx,fun h=>⟨n,h,decide_eq_true rfl⟩⟩)
def gj(A:Ab):List ByteArray:=A.names.map (·.1)
def Fa{α:Type}{a b:List α}(ha:a.Nodup)(hb:b.Nodup)(h:∀n,n∈a↔n∈b):a.length=b.length :=
 ((List.perm_ext_iff_of_nodup ha hb).2 h).length_eq
def ou(l:List ByteArray):List (List UInt8):=(l.map fun b=>b.data.toList).mergeSort fun x y=>decide (x≤y)
def rq(l:List ByteArray):(ou l).Pairwise (·≤·) :=
 (List.pairwise_mergeSort (le:=fun x y:List UInt8=>decide (x≤y)) (fun a b c h1 h2=>decide_eq_true (List.le_trans (of_decide_eq_true h1) (of_decide_eq_true h2))) (fun a b=>by simpa using List.le_total a b) _).imp fun h=>of_decide_eq_true h
def lF(l:List ByteArray):(ou l).Perm (l.map fun b=>b.data.toList):=List.mergeSort_perm _ _
def Es{a b:List ByteArray}(h:a.Perm b):ou a=ou b :=
 List.Perm.eq_of_pairwise (fun x y _ _ h1 h2=>List.le_antisymm h1 h2) (rq a) (rq b) ((lF a).trans ((h.map _).trans (lF b).symm))
def sX(l:List ByteArray):(ou l).length=l.length:=by rw[(lF l).length_eq,List.length_map]
end Go.Proofs.YtlcoaflddajjcaaGreatDoor
