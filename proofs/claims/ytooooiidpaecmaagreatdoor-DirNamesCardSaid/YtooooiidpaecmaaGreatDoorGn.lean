import Derived.Test.YtooooiidpaecmaaGreatDoorGk
import Derived.Test.YtooooiidpaecmaaGreatDoorJs
set_option linter.unusedVariables false
set_option linter.unusedSimpArgs false
/- The table of inodes: its calls. -/
namespace Go.Am
open Go Go.RowKit
section
variable {P:Program} {m:M} {fr:Fr}
theorem b2O(sz:Nat)(d x:RO)(fr:Fr)(m:M):run (.copy sz d x) fr m=a3R sz (.cst (ev d fr)) (.cst (ev x fr)) .leaf m:=rfl
theorem e3J{m m':M}{b off dl cap n:Nat}{lim:Bool}{x:AV}{new:List AV}(hx:Rds m x 1 n new)(h0:0<n)(hn:n≤dl)(hw:m.wr b off new=some m'):a3R 1 (.cst (.slice b off dl cap lim)) (.cst x) .leaf m=some (iv n,m'):=by
 obtain⟨h1,h2,h3⟩:=hx
 show(ob (a34 (.slice b off dl cap lim)) fun dl=>ob (lenA x) fun xl=>fc (bc (Nat.ble xl dl) xl dl) fun n=>bc (Nat.beq n 0) (some (AV.n 0,m)) (elSl none (fun b off _ _ _=>ob (G8 m 1 n x) fun cs=>ob (m.wr b off cs) fun m=>some (AV.n n,m)) (.slice b off dl cap lim)))=_
 rw[show a34 (.slice b off dl cap lim)=some dl from rfl,C5,h1,C5,z7,A1,decide_eq_true hn,l9,A4,decide_eq_false (by omega),u7]
 show(ob (G8 m 1 n x) fun cs=>ob (m.wr b off cs) fun m=>some (AV.n n,m))=_
 rw[h2,C5,hw];rfl
theorem a60(sz:Nat)(x l:RO):run (.sl sz false x (some l) none none) fr m=rSl sz false (.cst (ev x fr)) (some (.cst (ev l fr))) none none .leaf m:=rfl
theorem a1O(sz b off len cap:Nat)(lim:Bool){lo:Nat}(h1:lo<len)(h2:len≤cap):
  rSl sz false (.cst (.slice b off len cap lim)) (some (.cst (iv (lo:Int)))) none none .leaf m=some (.slice b (off+lo*sz) (len-lo) (cap-lo) lim,m):=by
 rw[a3m,P4,a1l,Q0,a2A,J4,O4 (show lo≤len by omega),J4,A1,decide_eq_true h2]
 simp only[l9,z7,A4]
 rw[decide_eq_false (show ¬cap=lo by omega)]
 show some (AV.slice b (off+lo*sz) (len-lo) (cap-lo) (lim||false),m)=_
 rw[Bool.or_false]
end
end Go.Am
namespace Go.Proofs.YtooooiidpaecmaaGreatDoor
open Go Go.Am
abbrev a4q:TypeId:=137
structure TAt(m:M)(tb' a g:Nat):Prop where
 t:At m tb' a4q true [.ptr a 0,iv 64,iv 90,iv 6,iv 30,iv 2,iv 32,iv 1,iv 33,iv 1,iv 34,iv 3,iv 37,iv 32]
 a:b32 m a g
section
variable {m m':M} {A:Ad} {S:PS} {own:Nat→Prop} {tt aa:Nat}
theorem TAt.keep(h:TAt m tt aa A.g)(hw:Wf m){F:Nat→Prop}(k:Keep m m' F)(h1:∀b,kd m b (a4q+1)∨kd m b (a4k+1)→¬F b):TAt m' tt aa A.g:=
 ⟨h.t.keep hw k (h1 _ (.inl h.t.kd)),At.keep h.a hw k (h1 _ (.inr (At.kd h.a)))⟩
theorem TAt.k0(h:TAt m tt aa A.g)(hw:Wf m)(k:Keep m m' fun _=>False):TAt m' tt aa A.g:=h.keep hw k fun _ _=>id
theorem TAt.kp(h:TAt m tt aa A.g)(hw:Wf m){E Z:List Nat}(k:y6 m m' E Z)(hE:∀x∈[a4q+1,a4k+1],x∉E:=by decide):TAt m' tt aa A.g:=
 h.keep hw k fun b hb=>by
  rcases hb with hb|hb
  ·exact Kinds.not hb (hE _ (by simp)) (by decide)
  ·exact Kinds.not hb (hE _ (by simp)) (by decide)
theorem a3f(b o:Nat):d8 Tryz.prog .eql G3 (.ptr b o) s9=some (.b false):=by kernel_rfl
theorem a9f{i:Nat}(hi:i=2∨i=3):Ran Tryz.prog tb a4u [.agg i5,iv i] m (.tuple [iv 35,iv (32*(i % 2):Nat),iv 0]) m:=by
 rcases hi with rfl|rfl
 ·exact P3 Tryz.func56 rfl
 ·exact P3 Tryz.func56 rfl
theorem b9h(hw:Wf m)(h:GAt m A S own)(ht:TAt m tt aa A.g){i:Nat}(hi:i=2∨i=3){t:Bk}(hr:S.rd 35=some t):
  ∃m' s r,BtU m' s t r∧SlAt m' l3 1 s t.length (i9 t) (some r)∧t.length=64∧Keep m m' (fun _=>False)∧m.next≤r∧Ran Tryz.prog tb a67 [.ptr tt 0,.ptr A.o 0,iv i] m (.tuple [iv 35,iv (32*(i % 2):Nat),s,iv 0]) m':=by
 obtain⟨m1,s,r,h1,h2,h3,k1,n1,r1⟩:=T8 hw h (b:=35) (by omega) hr
 have c35:((35:Nat):Int)=35:=rfl
 rw[c35] at r1
 have hp:m.rdN tt 1 12=some i5:=ht.t.rdN (by show 1+12≤14;omega)
 refine⟨m1,s,r,h1,h2,h3,k1,n1,?_⟩
 have rP:=a9f (m:=m) hi
 refine WpF.go g4W ?_
 simp-implicitDefEqProofs only[g7l,e9e,e57,e2M,e43,d9B,hp,rP.eq,r1.eq,g1z,↓reduceIte,Nat.reduceEqDiff,Nat.reduceAdd,List.getElem?_cons_succ,List.getElem?_cons_zero,wA,wB,wC,wD]
theorem a0I(hw:Wf m)(h:GAt m A S own)(ht:TAt m tt aa A.g){i:Nat}(hi:i=2∨i=3){x:Ino}(hx:InoAt S i x)(ho:x.Ok):
  ∃m',Keep m m' (fun _=>False)∧Ran Tryz.prog tb R1 [.ptr tt 0,.ptr A.o 0,iv i] m (.tuple [.agg (s8 x.kind x.links x.size x.ps),iv 0]) m':=by
 obtain⟨t,g1,g2,g3⟩:=hx
 have g1:S.rd 35=some t:=by rcases hi with rfl|rfl<;>exact g1
 obtain⟨m0,e0,a0,k0,n0⟩:=B0 hw A3 13 z13
 obtain⟨m1,s,r,h1,h2,h3,k1,n1,r1⟩:=b9h k0.wf (h.k0 hw k0) (ht.k0 hw k0) hi g1
 have k01:=k0.tf k1
 obtain⟨cap,hs,hcap⟩:=RowB.shape ⟨h2⟩
 rw[h3] at hs hcap
 subst hs
 generalize hat:32*(i % 2)=at' at r1 g3
 have hat2:at'+32≤64:=by omega
 have hsub:=h1.bs.sub (n:=64) (at':=at') (w:=32) (cap':=cap-at') (lim':=false) (by omega)
 have hsub:BsAt m1 (.slice r (0+at') 32 (cap-at') false) (enc x) r:=by
  have e:(t.drop at').take 32=enc x:=g3
  rwa [e] at hsub
 rw[Nat.zero_add] at hsub
 obtain⟨m2,k2,r2⟩:=f9Z k01.wf ho hsub (by omega)
 have k02:=k01.tf k2
 have hX:(s8 x.kind x.links x.size x.ps).length=13:=by rw[X5,ho.len]
 obtain⟨m3,e3,a3,k3,n3⟩:=B0 k02.wf A3 13 z13
 have hsp:∀l:List AV,l.length=13→z6 l 0 (s8 x.kind x.links x.size x.ps)=s8 x.kind x.links x.size x.ps:=fun l hl=>by
  unfold z6;rw[List.take_zero,List.nil_append,List.drop_of_length_le (by omega),List.append_nil]
 obtain⟨m4,e4,a4,k4,n4⟩:=a3.st k3.wf 0 (s8 x.kind x.links x.size x.ps) (l':=s8 x.kind x.links x.size x.ps) (hsp _ rfl) (by rw[hX];exact Nat.le_refl _)
 have L4:m4.rdN m2.next 0 13=some (s8 x.kind x.links x.size x.ps):=by rw[a4.rdN (by omega),List.drop_zero,List.take_of_length_le (by omega)]
 have kk:Keep m0 m4 fun _=>False:=((k1.tf k2).tf k3).trans k4 fun b hb e=>by have:=k1.next;have:=k2.next;omega
 obtain⟨m5,e5,a5,k5,n5⟩:=(a0.keep k0.wf kk id).st kk.wf 0 (s8 x.kind x.links x.size x.ps) (l':=s8 x.kind x.links x.size x.ps) (hsp _ rfl) (by rw[hX];exact Nat.le_refl _)
 have L5:m5.rdN m.next 0 13=some (s8 x.kind x.links x.size x.ps):=by rw[a5.rdN (by omega),List.drop_zero,List.take_of_length_le (by omega)]
 refine⟨m5,(k0.tf kk).trans k5 fun b hb e=>by omega,?_⟩
 have c32:(at':Int)+32=((at'+32:Nat):Int):=rfl
 have hD:at'+32-at'=32:=by omega
 have hcut:=a1X (m:=m1) 1 r 0 64 cap false (lo:=at') (hi:=at'+32) (by omega) (by omega)
 rw[Nat.mul_one,hD] at hcut
 refine WpF.go g5C ?_
 simp-implicitDefEqProofs only[g7a,d91,e6c,e9A,d6g,d7r,e8s,e7w,e0,a3f,r1.eq,aD (at':Int) 32,c32,a69,hcut,r2.eq,e3,hX,e4,L4,e5,↓reduceIte,Nat.reduceEqDiff,Nat.reduceAdd,List.getElem?_cons_succ,List.getElem?_cons_zero,wA,wB,wC,wD]
 rw[a2y (b:=m.next) (off:=0) (n:=13) (l:=s8 x.kind x.links x.size x.ps) (by kernel_rfl) (by kernel_rfl) (by simp-implicitDefEqProofs only[d7,↓reduceIte,Nat.reduceEqDiff]) L5]
 simp-implicitDefEqProofs only[d7,↓reduceIte,and_self]
theorem a2M{r cap:Nat}{t u:Bk}{i:Nat}(hw:Wf m)(h:RowB m (.slice r 0 64 cap false) t r)(ht:t.length=64)(hi:i+u.length≤64):
  ∃m',m.wr r i (i9 u)=some m'∧RowB m' (.slice r 0 64 cap false) (spl t i u) r∧Keep m m' (fun x=>x=r)∧m'.next=m.next:=by
 have hyu:(i9 u).length=u.length:=by simp[i9]
 have hs:=h.sl
 rw[ht] at hs
 generalize hy:i9 t=yt at hs
 have hyt:yt.length=64:=by rw[←hy];simp[i9,ht]
 generalize hq:(64:Nat)=q at hs
 cases hs with
 | @row b _ c cells junk xt ha hl hj hc h0=>
 obtain⟨m1,e1,a1,k1,n1⟩:=ha.st hw i (i9 u) rfl (by rw[List.length_append,hyu];omega)
 have hlen:(spl t i u).length=q:=by rw[Y2 (by omega)];omega
 have hcell:z6 (yt++junk) i (i9 u)=i9 (spl t i u)++junk:=by
  unfold z6 spl
  rw[List.take_append_of_le_length (by omega),List.drop_append_of_le_length (by rw[hyu];omega),X1,X1,←hy,hyu]
  unfold i9
  simp[List.map_take,List.map_drop]
 rw[hcell] at a1
 refine⟨m1,e1,⟨?_⟩,k1,n1⟩
 rw[hlen]
 exact .row a1 (by simp[i9,hlen]) (by simpa using hj) hc h0
theorem b0H(hw:Wf m)(h:GAt m A S own)(ht:TAt m tt aa A.g){i:Nat}(hi:i=2∨i=3){t:Bk}(hr:S.rd 35=some t){x:Ino}(ho:x.Ok):
  ∃m' own',Step m m' A (S.wr 35 (spl t (32*(i % 2)) (enc x))) own own'∧Ran Tryz.prog tb a3V [.ptr tt 0,.ptr A.o 0,iv i,.agg (s8 x.kind x.links x.size x.ps)] m (iv 0) m':=by
 have hX:(s8 x.kind x.links x.size x.ps).length=13:=by rw[X5,ho.len]
 obtain⟨m0,e0,a0,k0,n0⟩:=l6 hw A3 13 (s8 x.kind x.links x.size x.ps) hX.symm
 have L0:m0.rdN m.next 0 13=some (s8 x.kind x.links x.size x.ps):=by rw[a0.rdN (by omega),List.drop_zero,List.take_of_length_le (by omega)]
 obtain⟨m1,s1,b1,rb1,k1,n1,r1⟩:=c22 k0.wf ho
 have k01:=k0.tf k1
 obtain⟨m2,s,r,h1,h2,h3,k2,n2,r2⟩:=b9h k01.wf (h.k0 hw k01) (ht.k0 hw k01) hi hr
 have k02:=k01.tf k2
 have rb2:=rb1.keep k1.wf k2 id
 have he:=b0b (x:=x) ho.len
 have hrow:RowB m2 s t r:=⟨h2⟩
 obtain⟨cap,hs,hcap⟩:=hrow.shape
 rw[h3] at hs hcap
 subst hs
 generalize hat:32*(i % 2)=at' at r2⊢
 have hat2:at'+32≤64:=by omega
 obtain⟨m3,e3,hrow3,k3,n3⟩:=a2M (u:=enc x) (i:=at') k02.wf hrow h3 (by omega)
 have hn1:=k1.next
 have hn2:=k2.next
 have k03:Keep m m3 fun _=>False:=k02.trans k3 fun b hb e=>by omega
 have hsp:(spl t at' (enc x)).length=64:=by rw[Y2 (by omega),h3]
 obtain⟨m4,own',st,r4⟩:=a2B k03.wf (h.k0 hw k03) (b:=35) (⟨hrow3.bs,hrow3.sl.kd⟩:BtU m3 _ (spl t at' (enc x)) r) hsp (by omega) (by omega)
 have hn3:=k03.next
 refine⟨m4,own',⟨st.at',fun y hy=>by rcases st.ow y hy with h|h;exact .inl h;exact .inr (by omega),k03.k0.tk st.kp⟩,?_⟩
 have hcp:=e3J (m:=m2) (b:=r) (off:=at') (dl:=64-at') (cap:=cap-at') (lim:=false) (n:=32) (x:=s1) (new:=i9 (enc x)) (by have:=rb2.bs.src;rwa [he] at this) (by omega) (by omega) e3
 have hfr:=a1O (m:=m2) 1 r 0 64 cap false (lo:=at') (by omega) hcap
 rw[Nat.mul_one,Nat.zero_add] at hfr
 have c35:((35:Nat):Int)=35:=rfl
 rw[c35] at r4
 have hp:m0.rdN tt 1 12=some i5:=(ht.k0 hw k0).t.rdN (by show 1+12≤14;omega)
 have rP:=a9f (m:=m0) hi
 rw[hat] at rP
 refine WpF.go g4Z ?_
 simp-implicitDefEqProofs only[g7H,d3t,e0f,e32,e1D,e91,d9x,e8a,c0r,c01,c4w,hX,e0,a3f,hp,rP.eq,L0,r1.eq,r2.eq,a60,hfr,b2O,hcp,r4.eq,↓reduceIte,Nat.reduceEqDiff,Nat.reduceAdd,List.getElem?_cons_succ,List.getElem?_cons_zero,wA,wB,wC,wD]
end
section
variable {m m':M} {A:Ad} {S:PS} {own:Nat→Prop} {tt aa:Nat}
theorem b9R(X:Nat){k:Nat}(hk:k<10):Ran Tryz.prog tb a7j [.ptr X 0,iv k] m (.ptr X (3+k)) m:=by
 refine WpF.go g5W ?_
 by_cases h8:k=8
 ·subst h8
  simp-implicitDefEqProofs only[b39,a5P,a6y,a5U,d6s,show((8:Nat):Int)=8 from rfl,↓reduceIte,Nat.reduceEqDiff,Nat.reduceAdd,wA,wB,wC,wD]
 ·by_cases h9:k=9
  ·subst h9
   simp-implicitDefEqProofs only[b39,a5P,a6y,a5U,b2D,d5e,show((9:Nat):Int)=9 from rfl,show((9:Int)=8)=False from eq_false (by omega),↓reduceIte,Nat.reduceEqDiff,Nat.reduceAdd,wA,wB,wC,wD]
  ·have hia:=f1h (m:=m) 8 1 X 3 (show k<8 by omega)
   rw[Nat.mul_one] at hia
   simp-implicitDefEqProofs only[b39,a5P,a6y,a5U,b2D,d5l,show((k:Int)=8)=False from eq_false (by omega),show((k:Int)=9)=False from eq_false (by omega),f0A,hia,↓reduceIte,Nat.reduceEqDiff,Nat.reduceAdd,wA,wB,wC,wD]
theorem g0a{t:Bk}{a v:Nat}(h:a+2≤t.length):spl (spl t a [UInt8.ofNat v]) (a+1) [UInt8.ofNat (v/256)] =spl t a (le 2 v):=by
 have hl:(spl t a [UInt8.ofNat v]).length=t.length:=Y2 (by simp;omega)
 apply List.ext_getElem?
 intro j
 rw[a1w (by rw[hl];simp;omega),a1w (by simp;omega),a1w (by rw[y4];omega),y4]
 have e:le 2 v= [UInt8.ofNat v,UInt8.ofNat (v/256)] :=by
  rw[le_succ,le_succ];rfl
 rw[e]
 by_cases h1:j=a+1
 ·subst h1
  rw[if_pos (by simp),if_pos (by omega)]
  rw[show a+1-(a+1)=0 by omega,show a+1-a=1 by omega];rfl
 ·rw[if_neg (by simp;omega)]
  by_cases h2:j=a
  ·subst h2
   rw[if_pos (by simp),if_pos (by omega),Nat.sub_self];rfl
  ·rw[if_neg (by simp;omega),if_neg (by omega)]
theorem f82(hw:Wf m){s:AV}{t:Bk}{r a v:Nat}(hs:RowB m s t r)(h64:t.length=64)(ha:a<32)(hv:v<65536):
  ∃m' s' r',RowB m' s' (F5 t a v) r'∧Keep m m' (fun _=>False)∧m.next≤r'∧Ran Tryz.prog tb a1Z [s,iv (2*a:Nat),iv 2,iv v] m (.tuple [s',iv 0]) m':=by
 obtain⟨cap,hse,hcap⟩:=hs.shape
 rw[h64] at hse hcap
 obtain⟨m1,s1,r1,hb1,hs1,k1,n1,c1⟩:=a0x hw hs.bs (fun e=>by rw[e] at h64;cases h64) (by omega)
 have hrow:RowB m1 s1 t r1:=⟨hs1⟩
 obtain⟨cap1,hs1e,hcap1⟩:=hrow.shape
 rw[h64] at hs1e hcap1
 subst hse hs1e
 obtain⟨m2,e2,hr2,k2,n2⟩:=a2M (u:= [UInt8.ofNat v]) (i:=2*a) k1.wf hrow h64 (by simp;omega)
 have hl2:(spl t (2*a) [UInt8.ofNat v]).length=64:=by rw[Y2 (by simp;omega),h64]
 obtain⟨m3,e3,hr3,k3,n3⟩:=a2M (u:= [UInt8.ofNat (v/256)]) (i:=2*a+1) k2.wf hr2 hl2 (by simp;omega)
 rw[g0a (by omega)] at hr3
 have y0:i9 [UInt8.ofNat v] = [.y (v % 256)] :=by
  show[AV.y (UInt8.ofNat v).toNat] =_
  rw[UInt8.toNat_ofNat']
 have y1:i9 [UInt8.ofNat (v/256)] = [.y (v/256 % 256)] :=by
  show[AV.y (UInt8.ofNat (v/256)).toNat] =_
  rw[UInt8.toNat_ofNat']
 rw[y0] at e2
 rw[y1] at e3
 refine⟨m3,_,r1,hr3,(k1.trans k2 fun b hb e=>by omega).trans k3 fun b hb e=>by omega,n1,?_⟩
 have hnum:=a85 (m:=m) (b:=r) (off:=0) (cap:=cap) (lim:=false) (at':=2*a) (n:=2) (len:=64) (by omega) (by omega) hcap (by omega)
 have c2:((2:Nat):Int)=2:=rfl
 rw[c2] at hnum
 have m82:d8 Tryz.prog .mul d5 (iv 8) (iv 2)=some (iv ((16:Nat):Int)):=by kernel_rfl
 have m80:d8 Tryz.prog .mul d5 (iv 8) (iv 0)=some (iv ((0:Nat):Int)):=by kernel_rfl
 have m81:d8 Tryz.prog .mul d5 (iv 8) (iv 1)=some (iv ((8:Nat):Int)):=by kernel_rfl
 have h16:=a3Q (P:=Tryz.prog) d5 (a:=v) (k:=16) (by omega)
 have h0:=a3Q (P:=Tryz.prog) d5 (a:=v) (k:=0) (by omega)
 have h8:=a3Q (P:=Tryz.prog) d5 (a:=v) (k:=8) (by omega)
 rw[show v/2^16=0 from Nat.div_eq_of_lt hv,nc0] at h16
 rw[Nat.pow_zero,Nat.div_one,nc0] at h0
 rw[show(2:Nat)^8=256 from rfl,show((8:Nat):Int)=8 from rfl] at h8
 rw[nc0] at m80
 rw[show((8:Nat):Int)=8 from rfl] at m81
 rw[show((16:Nat):Int)=16 from rfl] at m82 h16
 have i0:=x9 (m:=m1) 1 r1 0 64 cap1 false (show 2*a<64 by omega)
 have i1:=x9 (m:=m2) 1 r1 0 64 cap1 false (show 2*a+1<64 by omega)
 rw[Nat.mul_one,Nat.zero_add] at i0 i1
 have a1:(((2*a:Nat):Int))+1=((2*a+1:Nat):Int):=rfl
 refine WpF.go f0a ?_
 simp-implicitDefEqProofs only[a1a,b2q,b1K,b2K,b2M,b2t,b2W,hnum.eq,show((v:Int)<0)=False from eq_false (by omega),m82,D8,h16,c1.eq,↓reduceIte,Nat.reduceEqDiff,Nat.reduceAdd,List.getElem?_cons_succ,List.getElem?_cons_zero,wA,wB,wC,wD]
 refine I9 ?_
 simp-implicitDefEqProofs only[a1a,a1B,a6L,a48,a5f,aD ((2*a:Nat):Int) 0,Int.add_zero,m80,D8,h0,N6,P6,a1d,i0,a2H,e2,p1,show((0:Int)<2)=True from eq_true (by omega),↓reduceIte,Nat.reduceEqDiff,wA,wB,wC,wD]
 refine I9 ?_
 simp-implicitDefEqProofs only[a1a,a1B,a6L,a48,a5f,aD ((2*a:Nat):Int) 1,a1,m81,D8,h8,N6,P6,a1d,i1,a2H,e3,p2,show((1:Int)<2)=True from eq_true (by omega),↓reduceIte,Nat.reduceEqDiff,wA,wB,wC,wD]
 refine I9 ?_
 simp-implicitDefEqProofs only[a1a,a1B,b0h,↓reduceIte,Nat.reduceEqDiff,wA,wB,wC,wD]
theorem f8W{x:Ino}{k p:Nat}(hp:x.ps[k]? =some p):(s8 x.kind x.links x.size x.ps)[3+k]? =some (ivn p):=by
 unfold s8
 rw[show 3+k=k+1+1+1 by omega,List.getElem?_cons_succ,List.getElem?_cons_succ,List.getElem?_cons_succ,List.getElem?_map,hp];rfl
theorem f8O{x:Ino}{k v:Nat}(hk:k<x.ps.length):z6 (s8 x.kind x.links x.size x.ps) (3+k) [ivn v] =s8 x.kind x.links x.size (x.ps.set k v):=by
 unfold z6 s8
 rw[show 3+k=k+1+1+1 by omega,List.take_succ_cons,List.take_succ_cons,List.take_succ_cons,show k+1+1+1+ [ivn v].length=k+1+1+1+1 from rfl,List.drop_succ_cons,List.drop_succ_cons,List.drop_succ_cons,List.map_set,List.set_eq_take_append_cons_drop,if_pos (by simpa using hk)]
 rfl
theorem f7G(hw:Wf m)(h:GAt m A S own)(ht:TAt m tt aa A.g){i:Nat}(hi:i=2∨i=3){x:Ino}(hx:InoAt S i x)(ho:x.Ok){k p:Nat}(hp:x.ps[k]? =some p):
  ∃m',Keep m m' (fun _=>False)∧Ran Tryz.prog tb a0V [.ptr tt 0,.ptr A.o 0,.agg [iv i,iv 0,iv k]] m (.tuple [iv p,iv 0]) m':=by
 have hk:k<10:=by have:=(List.getElem?_eq_some_iff.1 hp).1;rw[ho.len] at this;exact this
 obtain⟨m0,e0,a0,k0,n0⟩:=l6 hw D6 3 [iv i,iv 0,iv k]
 obtain⟨m1,k1,r1⟩:=a0I k0.wf (h.k0 hw k0) (ht.k0 hw k0) hi hx ho
 have k01:=k0.tf k1
 have hX:(s8 x.kind x.links x.size x.ps).length=13:=by rw[X5,ho.len]
 obtain⟨m2,e2,a2,k2,n2⟩:=B0 k01.wf A3 13 z13
 obtain⟨m3,e3,a3,k3,n3⟩:=a2.st k2.wf 0 (s8 x.kind x.links x.size x.ps) (l':=s8 x.kind x.links x.size x.ps) (by unfold z6;rw[List.take_zero,List.nil_append,List.drop_of_length_le (by rw[hX];exact Nat.le_refl _),List.append_nil]) (by rw[hX];exact Nat.le_refl _)
 have hrd:m3.rd m1.next (3+k)=some (iv p):=by rw[a3.rd];exact f8W hp
 have a03:=(a0.keep k0.wf k1 id).keep k1.wf (k2.ft k3) (by have:=k1.next;omega)
 refine⟨m3,(k01.tf k2).trans k3 fun b hb e=>by have:=k01.next;omega,?_⟩
 refine WpF.go f1d ?_
 simp-implicitDefEqProofs only[f1I,b2T,b14,e71,e1L,e0,a0.rd,r1.eq,hX,e2,e3,a03.rd,(b9R m1.next hk).eq,hrd,↓reduceIte,Nat.reduceEqDiff,Nat.reduceAdd,List.getElem?_cons_succ,List.getElem?_cons_zero,wA,wB,wC,wD]
theorem f8t(hw:Wf m)(h:GAt m A S own){c a i:Nat}{t:Bk}(hc:c<90)(hc0:c≠0)(hr:S.rd c=some t)(ha:a<32):
  ∃m',Keep m m' (fun _=>False)∧Ran Tryz.prog tb a0V [.ptr tt 0,.ptr A.o 0,.agg [iv i,iv c,iv a]] m (.tuple [iv (p16 t a),iv 0]) m':=by
 obtain⟨m0,e0,a0,k0,n0⟩:=l6 hw D6 3 [iv i,iv c,iv a]
 obtain⟨m1,s,r,h1,h2,h3,k1,n1,r1⟩:=T8 k0.wf (h.k0 hw k0) hc hr
 have k01:=k0.tf k1
 obtain⟨cap,hs,hcap⟩:=RowB.shape ⟨h2⟩
 rw[h3] at hs hcap
 subst hs
 obtain⟨m2,k2,r2⟩:=c1M (at':=2*a) (w:=2) k01.wf h1.bs h3.symm hcap (by omega) (by omega) (by omega)
 have c2:((2:Nat):Int)=2:=rfl
 rw[c2] at r2
 have hm:d8 Tryz.prog .mul d5 (iv 2) (iv (a:Int))=some (iv ((2*a:Nat):Int)):=by
  rw[O0 d5 (by omega) (by omega)];rfl
 have hv:ge ((t.drop (2*a)).take 2)=p16 t a:=rfl
 rw[hv] at r2
 refine⟨m2,k01.tf k2,?_⟩
 have a01:=a0.keep k0.wf k1 id
 refine WpF.go f1d ?_
 simp-implicitDefEqProofs only[f1I,b2T,b14,d9i,d31,d9u,e0,a0.rd,show((c:Int)=0)=False from eq_false (by omega),r1.eq,a01.rd,hm,r2.eq,↓reduceIte,Nat.reduceEqDiff,Nat.reduceAdd,List.getElem?_cons_succ,List.getElem?_cons_zero,wA,wB,wC,wD]
theorem b7Y(hw:Wf m)(h:GAt m A S own)(ht:TAt m tt aa A.g){i:Nat}(hi:i=2∨i=3){x:Ino}(hx:InoAt S i x)(ho:x.Ok){t:Bk}(hr:S.rd 35=some t){k v:Nat}(hk:k<10)(hv:v<65536):
  ∃m' own',Step m m' A (S.wr 35 (spl t (32*(i % 2)) (enc {x with ps:=x.ps.set k v}))) own own'∧Ran Tryz.prog tb a0k [.ptr tt 0,.ptr A.o 0,.agg [iv i,iv 0,iv k],iv v] m (iv 0) m':=by
 obtain⟨m0,e0,a0,k0,n0⟩:=l6 hw D6 3 [iv i,iv 0,iv k]
 obtain⟨m1,k1,r1⟩:=a0I k0.wf (h.k0 hw k0) (ht.k0 hw k0) hi hx ho
 have k01:=k0.tf k1
 have hX:(s8 x.kind x.links x.size x.ps).length=13:=by rw[X5,ho.len]
 have hX2:(s8 x.kind x.links x.size (x.ps.set k v)).length=13:=by rw[X5,List.length_set,ho.len]
 obtain⟨m2,e2,a2,k2,n2⟩:=B0 k01.wf A3 13 z13
 obtain⟨m3,e3,a3,k3,n3⟩:=a2.st k2.wf 0 (s8 x.kind x.links x.size x.ps) (l':=s8 x.kind x.links x.size x.ps) (by unfold z6;rw[List.take_zero,List.nil_append,List.drop_of_length_le (by rw[hX];exact Nat.le_refl _),List.append_nil]) (by rw[hX];exact Nat.le_refl _)
 obtain⟨m4,e4,a4,k4,n4⟩:=a3.st k3.wf (3+k) [ivn v] (f8O (by rw[ho.len];exact hk)) (by rw[hX];simp;omega)
 have hn1:=k1.next
 have hn01:=k01.next
 have k14:Keep m1 m4 fun x=>x=m1.next:=(k2.ft k3).trans k4 fun _ _ e=>e
 have k04:Keep m m4 fun _=>False:=k01.trans k14 fun b hb e=>by omega
 have a04:=(a0.keep k0.wf k1 id).keep k1.wf k14 (by omega)
 have a03:=(a0.keep k0.wf k1 id).keep k1.wf (k2.ft k3) (by omega)
 have L4:m4.rdN m1.next 0 13=some (s8 x.kind x.links x.size (x.ps.set k v)):=by rw[a4.rdN (by omega),List.drop_zero,List.take_of_length_le (by omega)]
 have ho':Ino.Ok {x with ps:=x.ps.set k v}:=⟨ho.k1,ho.k2,ho.ln,ho.sz,by rw[List.length_set];exact ho.len,fun p hp=>by
  rcases List.mem_or_eq_of_mem_set hp with hp|rfl
  ·exact ho.p p hp
  ·exact hv⟩
 obtain⟨m5,own',st,r5⟩:=b0H k04.wf (h.k0 hw k04) (ht.k0 hw k04) hi hr ho'
 have hn4:=k04.next
 refine⟨m5,own',⟨st.at',fun y hy=>by rcases st.ow y hy with h|h;exact .inl h;exact .inr (by omega),k04.k0.tk st.kp⟩,?_⟩
 refine WpF.go f0W ?_
 simp-implicitDefEqProofs only[f2g,b1V,b24,e6T,e95,e0q,d5Z,e0,a0.rd,r1.eq,hX,e2,e3,a03.rd,(b9R m1.next hk).eq,e4,a04.rd,L4,r5.eq,↓reduceIte,Nat.reduceEqDiff,Nat.reduceAdd,List.getElem?_cons_succ,List.getElem?_cons_zero,wA,wB,wC,wD]
theorem b8p(hw:Wf m)(h:GAt m A S own){c a i v:Nat}{t:Bk}(hc:37≤c)(hc2:c<90)(hr:S.rd c=some t)(ha:a<32)(hv:v<65536):
  ∃m' own',Step m m' A (S.wr c (F5 t a v)) own own'∧Ran Tryz.prog tb a0k [.ptr tt 0,.ptr A.o 0,.agg [iv i,iv c,iv a],iv v] m (iv 0) m':=by
 obtain⟨m0,e0,a0,k0,n0⟩:=l6 hw D6 3 [iv i,iv c,iv a]
 obtain⟨m1,s,r,h1,h2,h3,k1,n1,r1⟩:=T8 k0.wf (h.k0 hw k0) hc2 hr
 have k01:=k0.tf k1
 obtain⟨m2,s2,b2,rb2,k2,n2,r2⟩:=f82 k01.wf (⟨h2⟩:RowB m1 s t r) h3 ha hv
 have k02:=k01.tf k2
 obtain⟨m3,own',st,r3⟩:=a2B k02.wf (h.k0 hw k02) (b:=c) (⟨rb2.bs,rb2.sl.kd⟩:BtU m2 _ (F5 t a v) b2) (by rw[b8s _ (by omega)];exact h3) (by omega) hc2
 have hn:=k02.next
 have hm:d8 Tryz.prog .mul d5 (iv 2) (iv (a:Int))=some (iv ((2*a:Nat):Int)):=by
  rw[O0 d5 (by omega) (by omega)];rfl
 refine⟨m3,own',⟨st.at',fun y hy=>by rcases st.ow y hy with h|h;exact .inl h;exact .inr (by omega),k02.k0.tk st.kp⟩,?_⟩
 have a01:=a0.keep k0.wf k1 id
 have a02:=a01.keep k1.wf k2 id
 refine WpF.go f0W ?_
 simp-implicitDefEqProofs only[f2g,b1V,b24,d7N,e47,d1P,d0a,d1c,e0,a0.rd,show((c:Int)=0)=False from eq_false (by omega),r1.eq,a01.rd,hm,r2.eq,a02.rd,r3.eq,↓reduceIte,Nat.reduceEqDiff,Nat.reduceAdd,List.getElem?_cons_succ,List.getElem?_cons_zero,wA,wB,wC,wD]
end
section
variable {m m' m'':M} {A:Ad} {S T:PS} {own own' own'':Nat→Prop} {tt aa:Nat}
theorem Step.trans(h:Step m m' A S own own')(k:Step m' m'' A T own' own''):Step m m'' A T own own'':=by
 have:=h.kp.next
 refine⟨k.at',fun x hx=> ?_,h.kp.tk k.kp⟩
 rcases k.ow x hx with h1|h1
 ·exact h.ow x h1
 ·exact .inr (by omega)
theorem Step.ft(k0:Keep m m' fun _=>False)(k:Step m' m'' A T own own''):Step m m'' A T own own'':=by
 have:=k0.next
 exact⟨k.at',fun x hx=>by rcases k.ow x hx with h|h;exact .inl h;exact .inr (by omega),k0.k0.tk k.kp⟩
theorem Step.tf(h:Step m m' A S own own')(k:Keep m' m'' fun _=>False):Step m m'' A S own own':=⟨h.at'.k0 h.kp.wf k,h.ow,h.kp.tf k⟩
theorem Step.rf(hw:Wf m)(h:GAt m A S own):Step m m A S own own:=⟨h,fun _=> .inl,Keep.refl hw _⟩
theorem Step.row(h:Step m m' A S own own'){q k:Nat}(kk:Keep m' m'' fun b=>b=q)(hq:m.next≤q)(hk:kd m' q k)(hne:k∉[0,a4l+1,a4z+1,a4F+1,l3+1]):Step m m'' A S own own':=
 ⟨h.at'.kp h.kp.wf (E:= [k]) (kk.k1 hk (by simp)) (fun x hx e=>hne (by cases List.mem_singleton.1 e;exact hx)),h.ow,h.kp.trans kk fun b hb e=>by omega⟩
theorem f7c(a b c:Int):Ran Tryz.prog tb b3H [iv a,iv b,iv c] m (.b (decide (b≤a)&&decide (a≤c))) m:=by
 refine WpF.go g6q ?_
 by_cases h:b≤a
 ·simp-implicitDefEqProofs only[f3I,b1t,b1R,h,↓reduceIte,Nat.reduceEqDiff,Nat.reduceAdd,wA,wB,wC,wD]
 ·simp-implicitDefEqProofs only[f3I,b1t,b1R,h,↓reduceIte,Nat.reduceEqDiff,Nat.reduceAdd,wA,wB,wC,wD]
theorem a9H(k:Nat):(i6 k).way.map Pa.at=if k<8 then[k] else if k<40 then[8,k-8] else[9,(k-40)/32,(k-40) % 32] :=by
 unfold i6
 by_cases h1:k<8
 ·rw[if_pos h1,if_pos h1];rfl
 ·rw[if_neg h1,if_neg h1]
  by_cases h2:k<40
  ·rw[if_pos h2,if_pos h2];rfl
  ·rw[if_neg h2,if_neg h2];rfl
theorem b88(hw:Wf m){k:Nat}(hk:k≤1063):∃m' r,At m' r d5 true (((i6 k).way.map Pa.at).map ivn)∧Keep m m' (fun _=>False)∧m.next≤r∧Ran Tryz.prog tb a6X [.agg i5,iv k] m (.tuple [.slice r 0 (i6 k).way.length (i6 k).way.length false,iv 0]) m':=by
 obtain⟨m1,e1,a1,k1,n1⟩:=l6 hw v7 12 i5
 have hl:m1.rdN m.next 0 12=some i5:=a1.rdN (by show 0+12≤12;omega)
 have rM:Ran Tryz.prog tb W8 [.agg i5] m1 (.tuple [iv 68096,iv 0]) m1:=P3 Tryz.func74 rfl
 have hs:d8 Tryz.prog .sub d5 (iv 68096) (iv 1)=some (iv 68095):=by kernel_rfl
 have hq:d8 Tryz.prog .quo d5 (iv 68095) (iv 64)=some (iv 1063):=by kernel_rfl
 have hq2:d8 Tryz.prog .quo d5 (iv 64) (iv 2)=some (iv 32):=by kernel_rfl
 have rW:=f7c (m:=m1) (k:Int) 0 1063
 rw[decide_eq_true (show(0:Int)≤(k:Int) by omega),decide_eq_true (show(k:Int)≤1063 by omega)] at rW
 by_cases h1:k<8
 ·obtain⟨m2,e2,a2,k2,n2⟩:=l6 k1.wf d5 1 [iv k]
  have hw8:(i6 k).way.length=1:=by unfold i6;rw[if_pos h1];rfl
  refine⟨m2,m1.next,by rw[a9H,if_pos h1];exact a2,k1.tf k2,by omega,?_⟩
  rw[hw8]
  have hrp:B4 1 [iv 0] = [iv 0] :=rfl
  refine WpF.go b3o ?_
  simp-implicitDefEqProofs only[b4f,a6p,a54,a6K,a50,a6t,a6z,a5h,c7F,e1,hl,rM.eq,a1.rd,hs,hq,rW.eq,hq2,sB (k:Int) 8,show((k:Int)-8<0)=True from eq_true (by omega),hrp,e2,↓reduceIte,Nat.reduceEqDiff,Nat.reduceAdd,Nat.reduceLeDiff,List.getElem?_cons_succ,List.getElem?_cons_zero,wA,wB,wC,wD]
 ·by_cases h2:k<40
  ·obtain⟨m2,e2,a2,k2,n2⟩:=l6 k1.wf d5 2 [iv 8,iv (k-8:Nat)]
   have hw8:(i6 k).way.length=2:=by unfold i6;rw[if_neg h1,if_pos h2];rfl
   refine⟨m2,m1.next,by rw[a9H,if_neg h1,if_pos h2];exact a2,k1.tf k2,by omega,?_⟩
   rw[hw8]
   have hrp:B4 2 [iv 0] = [iv 0,iv 0] :=rfl
   have hA:(k:Int)-8=((k-8:Nat):Int):=by omega
   refine WpF.go b3o ?_
   simp-implicitDefEqProofs only[b4f,a6p,a54,a6K,a50,a6t,a6z,a5h,b06,d2l,e1,hl,rM.eq,a1.rd,hs,hq,rW.eq,hq2,sB (k:Int) 8,hA,show(((k-8:Nat):Int)<0)=False from eq_false (by omega),show(((k-8:Nat):Int)<32)=True from eq_true (by omega),hrp,e2,↓reduceIte,Nat.reduceEqDiff,Nat.reduceAdd,Nat.reduceLeDiff,List.getElem?_cons_succ,List.getElem?_cons_zero,wA,wB,wC,wD]
  ·obtain⟨m2,e2,a2,k2,n2⟩:=l6 k1.wf d5 3 [iv 9,iv ((k-40)/32:Nat),iv ((k-40) % 32:Nat)]
   have hw8:(i6 k).way.length=3:=by unfold i6;rw[if_neg h1,if_neg h2];rfl
   refine⟨m2,m1.next,by rw[a9H,if_neg h1,if_neg h2];exact a2,k1.tf k2,by omega,?_⟩
   rw[hw8]
   have hrp:B4 3 [iv 0] = [iv 0,iv 0,iv 0] :=rfl
   have hA:(k:Int)-8=((k-8:Nat):Int):=by omega
   have hB:((k-8:Nat):Int)-32=((k-40:Nat):Int):=by omega
   have hdq:d8 Tryz.prog .quo d5 (iv ((k-40:Nat):Int)) (iv 32)=some (iv (((k-40)/32:Nat):Int)):=V8 (b:=32) d5 (by omega) (by omega)
   have hdr:d8 Tryz.prog .rem d5 (iv ((k-40:Nat):Int)) (iv 32)=some (iv (((k-40) % 32:Nat):Int)):=Y9 (b:=32) d5 (by omega) (by omega)
   refine WpF.go b3o ?_
   simp-implicitDefEqProofs only[b4f,a6p,a54,a6K,a50,a6t,a6z,a5h,b06,d6i,e7g,e1,hl,rM.eq,a1.rd,hs,hq,rW.eq,hq2,sB (k:Int) 8,hA,show(((k-8:Nat):Int)<0)=False from eq_false (by omega),show(((k-8:Nat):Int)<32)=False from eq_false (by omega),sB ((k-8:Nat):Int) 32,hB,hdq,hdr,hrp,e2,↓reduceIte,Nat.reduceEqDiff,Nat.reduceAdd,Nat.reduceLeDiff,List.getElem?_cons_succ,List.getElem?_cons_zero,exists_eq_left',wA,wB,wC,wD]
end
end Go.Proofs.YtooooiidpaecmaaGreatDoor
