import Derived.Test.YtooooiidpaecmaaGreatDoorIaA
import Derived.Test.YtooooiidpaecmaaGreatDoorAmRf
set_option linter.unusedVariables false
set_option linter.unusedSimpArgs false
/- Bytes in rows of their own. -/
namespace Go.Proofs.YtooooiidpaecmaaGreatDoor
open Go Go.Am
abbrev Bs:=List UInt8
theorem g37(z:List AV):B4 0 z= [] :=rfl
theorem g4z(b o l c:Nat)(q:Bool):d8 Tryz.prog .eql C7 (.slice b o l c q) j7=some (.b false):=by kernel_rfl
theorem f1j{m:M}{e:TypeId}{x:AV}{len:Nat}{cells:List AV}{o:Option Nat}(h:SlAt m e 1 x len cells o){k:Nat}(hk:k<len):∃b cap,x= .slice b 0 len cap false∧o=some b∧m.rd b k=cells[k]? :=by
 cases h with
 |nil=>omega
 |row h hl hj hc h0=>exact⟨_,_,rfl,rfl,by rw[h.rd,List.getElem?_append_left (by omega)]⟩
theorem f65{m:M}{e e' sz bytes k b:Nat}{z new cells:List AV}{y:AV}(hb:At m b e' true cells)(hw:Wf m)(hy:Rds m y sz k new)(h0:0<k)(hroom:F9 k bytes=true):
  ∃m',M5 e sz bytes z (.cst (.slice b 0 0 0 false)) (.cst y) .leaf m=some (.slice m.next 0 k k false,m')∧SlAt m' e sz (.slice m.next 0 k k false) k new (some m.next)∧Keep m m' (fun _=>False)∧m'.next=m.next+1:=by
 obtain⟨hy1,hy2,hy3⟩:=hy
 obtain⟨s',m',h1,h2,h3,h4⟩:=a4K (e:=e) (z:=z) hy3 h0 hw
 have hs:s'= .slice m.next 0 k k false:=by
  unfold J0 at h1
  rw[z7] at h1
  cases h1
  rfl
 subst hs
 have hrd:m.rdN b 0 0=some [] :=by rw[hb.rdN (by omega)];simp
 obtain⟨c,c1,c2,c3,c4,c5,c6,c7⟩:=hb.row
 refine⟨m',?_,h2,h3,h4⟩
 show(ob (Am.lenA y) fun k=>ob (G8 m sz k y) fun new=>H7 e sz bytes z m (.slice b 0 0 0 false) k new)=_
 rw[hy1,C5,hy2,C5,a89]
 rw[Nat.zero_add,A1,decide_eq_false (by omega),u7,hroom,l9,M.cel_some.2 c1,C5,Nat.zero_mul,hrd,C5,c4,c6]
 exact h1
theorem f0x{m:M}{l:Bs}{e:TypeId}{b:Nat}(h:SlAt m e 1 (.slice b 0 l.length l.length false) l.length (i9 l) (some b)):BsAt m (.slice b 0 l.length l.length false) l b:=by
 have hy:(i9 l).length=l.length:=by simp[i9]
 cases h with
 |row h hl hj hc h0=>exact .row h.r (by simp;omega) (by rw[List.drop_zero,List.take_append_of_le_length (by omega),List.take_of_length_le (by omega)])
section
variable {m:M}
theorem a2H(n:Nat):C1 (.y n)=some [.y n] :=rfl
theorem a9v(n:Nat)(a:AV):(List.replicate n [a]).flatten=List.replicate n a:=by
 induction n with
 |zero=>rfl
 |succ n ih=>rw[List.replicate_succ,List.flatten_cons,ih];rfl
theorem a0w(n:Nat)(x:UInt8):i9 (List.replicate n x)=List.replicate n (.y x.toNat):=by
 unfold i9
 rw[List.map_replicate]
end
abbrev uB:Nat:=l3+1
abbrev BtU(m:M)(s:AV)(l:Bs)(b:Nat):Prop:=Bt m l3 s l b
theorem a0x{m:M}{s:AV}{l:Bs}{b:Nat}(hw:Wf m)(h:BsAt m s l b)(h0:l≠[])(hl:l.length≤1000000):
  ∃m' s' b',BtU m' s' l b'∧SlAt m' l3 1 s' l.length (i9 l) (some b')∧Keep m m' (fun _=>False)∧m.next≤b'∧Ran Tryz.prog tb a0n [s] m s' m':=by
 have hpos:0<l.length:=List.length_pos_iff.2 h0
 obtain⟨m1,ea,ha,hk1,hn1⟩:=l6 hw l3 0 []
 have hw1:=hk1.wf
 have h1:=h.keep hw hk1 fun h=>h
 obtain⟨m2,hr,hs2,hk2,hn2⟩:=f65 (e:=l3) (bytes:=1) (z:= [.y 0]) ha hw1 h1.src hpos (U1 (by omega) (by omega))
 have hb31:d8 Tryz.prog .eql C7 s j7=some (.b false):=by cases h;exact g4z _ _ _ _ _
 refine⟨m2,_,_,⟨f0x hs2,hs2.kd⟩,hs2,hk1.ft hk2,by omega,?_⟩
 refine WpF.go g5b ?_
 simp-implicitDefEqProofs only[g7e,d9p,e3u,e6z,hb31,g37,ea,hr,↓reduceIte,Nat.reduceEqDiff,wA,wB,wC,wD]
structure Bu(m:M)(s:AV)(l:Bs)(b:Nat):Prop where
 bs:BsAt m s l b
 kd:Am.kd m b uB∨Am.kd m b roK
end Go.Proofs.YtooooiidpaecmaaGreatDoor
/- Numbers as bytes: shifts, bytes of numbers, field.Put. -/
namespace Go.Am
open Go Go.RowKit
section
variable {P:Program} {m:M} {fr:Fr}
theorem D8(sl:AV→AV→Option AV)(x y:RO):run (.slow sl x y) fr m=rto m (sl (ev x fr) (ev y fr)):=rfl
theorem N6(k:IntKind)(x:RO)(fr:Fr)(m:M):run (.convI k x) fr m=Z8 k (.cst (ev x fr)) .leaf m:=rfl
theorem P6(k:IntKind)(i:Int)(m:M):Z8 k (.cst (iv i)) .leaf m=some (ofI k (k.wrap i),m):=by
 show(ob (toI (iv i)) fun q=>some (ofI k (k.wrap q.2),m))=_
 rw[Y7];rfl
theorem a1d(n:Nat):ofI .u8 (IntKind.u8.wrap (n:Int))= .y (n % 256):=by
 rw[IntKind.wrap_u8];rfl
theorem O0(t:TypeId){a b:Int}(h1: -9223372036854775808≤a*b)(h2:a*b≤9223372036854775807):d8 P .mul t (iv a) (iv b)=some (iv (a*b)):=by
 rw[I8]
 show some (iv (IntKind.i64.wrap (a*b)))=_
 rw[IntWalk.i64_in _ ⟨h1,h2⟩]
theorem a3Q(t:TypeId){a k:Nat}(hk:k≤64):d8 P .shr t (iv (a:Int)) (iv (k:Int))=some (iv ((a/2^k:Nat):Int)):=by
 rw[I8]
 show(if(k:Int)<0 then none else some (ofI .i64 ((a:Int).fdiv (2^min (k:Int).toNat 64))))=_
 rw[if_neg (by omega),Int.toNat_natCast,Nat.min_eq_left hk]
 show some (iv ((a:Int).fdiv (2^k)))=_
 rw[Int.fdiv_eq_ediv_of_nonneg _ (by exact Int.pow_nonneg (by omega))]
 congr 2
theorem a69(sz:Nat)(x l h:RO):run (.sl sz false x (some l) (some h) none) fr m=rSl sz false (.cst (ev x fr)) (some (.cst (ev l fr))) (some (.cst (ev h fr))) none .leaf m:=rfl
theorem a1X(sz b off len cap:Nat)(lim:Bool){lo hi:Nat}(h1:lo<hi)(h2:hi≤cap):
  rSl sz false (.cst (.slice b off len cap lim)) (some (.cst (iv (lo:Int)))) (some (.cst (iv (hi:Int)))) none .leaf m=some (.slice b (off+lo*sz) (hi-lo) (cap-lo) lim,m):=by
 rw[a3m,P4,P4,Q0,Q0,O4 h2,J4,O4 (show lo≤hi by omega),J4,A1,decide_eq_true h2]
 simp only[l9,z7,A4]
 rw[decide_eq_false (show ¬cap=lo by omega)]
 show some (AV.slice b (off+lo*sz) (hi-lo) (cap-lo) (lim||false),m)=_
 rw[Bool.or_false]
theorem f0k{e:Nat}{n:Nat}{z:AV}(h:n≤1000000):a0X e 1 1 [z] (.cst (iv (n:Int))) (.cst (iv (n:Int))) .leaf m=some (.slice m.next 0 n n false,m.addZ e (n*1) [z]):=by
 show bc (Nat.ble n n&&(Nat.ble n 1099511627776&&Nat.ble (n*1) 1099511627776)) (fc (Nat.mul n 1) fun k=>some (AV.slice m.next (nat_lit 0) n n false,m.new (.cells ⟨e,k,.leaf,[z],none,false,true,false⟩))) none=_
 rw[A1,A1,A1,decide_eq_true (by omega),decide_eq_true (by omega),decide_eq_true (by omega)]
 rw[show(true&&(true&&true))=true from rfl,l9,z7]
 rfl
def le(w v:Nat):List UInt8:=(List.range w).map fun i=>UInt8.ofNat (v/2^(8*i))
theorem y4(w v:Nat):(le w v).length=w:=by simp[le]
theorem f8b(w v:Nat):i9 (le w v)=(List.range w).map fun i=>AV.y (v/2^(8*i) % 256):=by
 unfold i9 le
 rw[List.map_map]
 refine List.map_congr_left fun i _=> ?_
 show AV.y (UInt8.ofNat (v/2^(8*i))).toNat=_
 rw[UInt8.toNat_ofNat']
theorem f7R{v w k:Nat}{l junk:List AV}(hl:l.length=w)(hk:k<w):
  z6 ((List.range k).map (fun i=>AV.y (v/2^(8*i) % 256))++(l.drop k++junk)) k [AV.y (v/2^(8*k) % 256)] =(List.range (k+1)).map (fun i=>AV.y (v/2^(8*i) % 256))++(l.drop (k+1)++junk):=by
 unfold z6
 have h1:((List.range k).map (fun i=>AV.y (v/2^(8*i) % 256))).length=k:=by simp
 rw[List.take_append_of_le_length (by rw[h1];exact Nat.le_refl _),List.take_of_length_le (by rw[h1];exact Nat.le_refl _),show[AV.y (v/2^(8*k) % 256)].length=1 from rfl,List.drop_append,List.drop_of_length_le (by rw[h1];omega),List.nil_append,h1,show k+1-k=1 by omega,List.drop_append,List.drop_drop,List.range_succ,List.map_append]
 have h2:1-(l.drop k).length=0:=by rw[List.length_drop];omega
 rw[h2,List.drop_zero]
 simp
end
end Go.Am
namespace Go.Proofs.YtooooiidpaecmaaGreatDoor
open Go Go.Am
section
variable {m:M}
theorem c0j{b off len cap:Nat}{lim:Bool}{at' n:Nat}(h0:0<n)(h:at'+n≤len)(hl:len≤cap)(hc:len≤1000000000000):Ran Tryz.prog tb a3P [.slice b off len cap lim,iv at',iv n] m (.tuple [.slice b (off+at') n (cap-at') lim,.b true]) m:=by
 refine WpF.go g5Z ?_
 have hC:(at':Int)+(n:Int)=((at'+n:Nat):Int):=by omega
 have hD:at'+n-at'=n:=by omega
 simp-implicitDefEqProofs only[g6R,e8k,e8d,e9N,show((at':Int)<0)=False from eq_false (by omega),show((n:Int)<0)=False from eq_false (by omega),show((len:Int)<(at':Int))=False from eq_false (by omega),sB (len:Int) (at':Int),show(((len:Int)-(at':Int))<(n:Int))=False from eq_false (by omega),aD (at':Int) (n:Int),hC,a69,a1X 1 b off len cap lim (show at'<at'+n by omega) (show at'+n≤cap by omega),hD,Nat.mul_one,↓reduceIte,Nat.reduceEqDiff,Nat.reduceAdd,wA,wB,wC,wD]
theorem a85{b off len cap:Nat}{lim:Bool}{at' n:Nat}(hn:n=1∨n=2∨n=4)(h:at'+n≤len)(hl:len≤cap)(hc:len≤1000000000000):Ran Tryz.prog tb a6V [.slice b off len cap lim,iv at',iv n] m (.tuple [.slice b (off+at') n (cap-at') lim,iv 0]) m:=by
 have hp:=c0j (m:=m) (b:=b) (off:=off) (lim:=lim) (show 0<n by omega) h hl hc
 refine WpF.go g53 ?_
 rcases hn with rfl|rfl|rfl
 ·have e1:((1:Nat):Int)=1:=rfl
  rw[e1] at hp
  simp-implicitDefEqProofs only[b4c,a5Z,a6r,a6D,a56,a6A,a5M,e1,hp.eq,↓reduceIte,Nat.reduceEqDiff,Nat.reduceAdd,List.getElem?_cons_succ,List.getElem?_cons_zero,wA,wB,wC,wD]
 ·have e1:((2:Nat):Int)=2:=rfl
  rw[e1] at hp
  simp-implicitDefEqProofs only[b4c,a5Z,a6r,a6D,b1H,a56,a6A,a5M,e1,hp.eq,show((2:Int)=1)=False from eq_false (by omega),↓reduceIte,Nat.reduceEqDiff,Nat.reduceAdd,List.getElem?_cons_succ,List.getElem?_cons_zero,wA,wB,wC,wD]
 ·have e1:((4:Nat):Int)=4:=rfl
  rw[e1] at hp
  simp-implicitDefEqProofs only[b4c,a5Z,a6r,a6D,b1H,d6Y,a56,a6A,a5M,e1,hp.eq,show((4:Int)=1)=False from eq_false (by omega),show((4:Int)=2)=False from eq_false (by omega),↓reduceIte,Nat.reduceEqDiff,Nat.reduceAdd,List.getElem?_cons_succ,List.getElem?_cons_zero,wA,wB,wC,wD]
end
section
variable {m:M}
set_option maxRecDepth 20000 in
theorem g0P{b cap:Nat}{l:Bs}{w v:Nat}(hw:Wf m)(h:BsAt m (.slice b 0 w cap false) l b)(hc:w≤cap)(hlw:l.length=w)(hn:w=1∨w=2∨w=4)(hv:v<2^(8*w)):
  ∃m' s' b',SlAt m' l3 1 s' w (i9 (le w v)) (some b')∧Keep m m' (fun _=>False)∧m.next≤b'∧Ran Tryz.prog tb a1Z [.slice b 0 w cap false,iv 0,iv w,iv v] m (.tuple [s',iv 0]) m':=by
 obtain⟨m1,s1,b1,hbt,hs1,k1,hb1,rc⟩:=a0x hw h (fun e=>by rw[e] at hlw;simp at hlw;omega) (by omega)
 rw[hlw] at hs1
 have hys:(i9 l).length=w:=by simp[i9,hlw]
 generalize i9 l=ys at hs1 hys
 cases hs1 with
 | @row b1 _ c1 cells junk xt ha hl hj hc1 h0=>
 have hnum:=a85 (m:=m) (b:=b) (off:=0) (cap:=cap) (lim:=false) (at':=0) hn (by omega) hc (by omega)
 rw[nc0] at hnum
 have h8:v/2^(8*w)=0:=Nat.div_eq_of_lt hv
 have hC:((8:Int)*(w:Int))=((8*w:Nat):Int):=by omega
 have hv64:(v:Int)≤9223372036854775807:=by
  rcases hn with rfl|rfl|rfl<;>omega
 have key:WpF Tryz.prog tb a1Z [.slice b 0 w cap false,iv 0,iv w,iv v] m fun x m'=>x= .tuple [.slice b1 0 w c1 false,iv 0]∧At m' b1 l3 xt (i9 (le w v)++junk)∧Keep m m' (fun _=>False):=by
  refine WpF.go f0a ?_
  simp-implicitDefEqProofs only[a1a,b2q,b1K,b2K,b2M,b2t,b2W,hnum.eq,show((v:Int)<0)=False from eq_false (by omega),O0 d5 (show-9223372036854775808≤(8:Int)*(w:Int) by omega) (show(8:Int)*(w:Int)≤9223372036854775807 by omega),hC,D8,a3Q d5 (a:=v) (show 8*w≤64 by omega),h8,rc.eq,↓reduceIte,Nat.reduceEqDiff,Nat.reduceAdd,List.getElem?_cons_succ,List.getElem?_cons_zero,wA,wB,wC,wD]
  refine y7 (fun j fr mk=>∃k,k≤w∧j=w-k∧(ev (tm 1) fr=iv 0∧ev (tm 3) fr=iv v∧ev (tm 12) fr= .slice b1 0 w c1 false∧ev (tm 35) fr=iv w∧ev (tm 36) fr=iv k)∧At mk b1 l3 xt ((List.range k).map (fun i=>AV.y (v/2^(8*i) % 256))++(ys.drop k++junk))∧Keep m mk (fun _=>False)) (k:=w) ⟨0,Nat.zero_le _,rfl,by simp-implicitDefEqProofs only[nc0,d7,↓reduceIte,Nat.reduceEqDiff,nc0,and_self],by simpa using ha,k1⟩ ?_
  rintro j fr mk ⟨k,hk,rfl,⟨e1,e3,e12,e35,e36⟩,hak,kk⟩
  by_cases hlt:k<w
  ·obtain⟨m3,e6,ha3,k3,n3⟩:=hak.st kk.wf k [.y (v/2^(8*k) % 256)] (f7R (w:=w) (by rw[hl,Nat.mul_one]) hlt) (by simp;omega)
   have hD:((8:Int)*(k:Int))=((8*k:Nat):Int):=by omega
   have hE:(0:Int)+(k:Int)=(k:Int):=by omega
   have hF:(k:Int)+1=((k+1:Nat):Int):=by omega
   simp-implicitDefEqProofs only[a1a,a1B,a6L,a48,a5f,e1,e3,e12,e35,e36,show((k:Int)<(w:Int))=True from eq_true (by omega),aD (0:Int) (k:Int),hE,O0 d5 (show-9223372036854775808≤(8:Int)*(k:Int) by omega) (show(8:Int)*(k:Int)≤9223372036854775807 by omega),hD,D8,a3Q d5 (a:=v) (show 8*k≤64 by omega),N6,P6,a1d,x9 1 b1 0 w c1 false hlt,Nat.mul_one,a2H,e6,aD (k:Int) 1,↓reduceIte,Nat.reduceEqDiff,wA,wB,wC,wD]
   exact y8 (k':=w-(k+1)) (by omega) ⟨k+1,by omega,rfl,by simp-implicitDefEqProofs only[e1,e3,e12,e35,hF,d7,↓reduceIte,Nat.reduceEqDiff,and_self],ha3,kk.trans k3 fun x hx e=>by omega⟩
  ·have hkw:k=w:=by omega
   subst hkw
   simp-implicitDefEqProofs only[a1a,a1B,b0h,e12,e35,e36,↓reduceIte,Nat.reduceEqDiff,wA,wB,wC,wD]
   refine⟨?_,kk⟩
   rw[f8b]
   rwa [List.drop_of_length_le (by rw[hl,Nat.mul_one];exact Nat.le_refl _),List.nil_append] at hak
 obtain⟨v',m',⟨rfl,ha',kf⟩,r⟩:=key.ran
 exact⟨m',_,b1,.row ha' (by simp[i9,y4]) hj hc1 h0,kf,hb1,r⟩
end
end Go.Proofs.YtooooiidpaecmaaGreatDoor
/- The writer of package codec. -/
namespace Go.Am
open Go Go.RowKit
section
variable {P:Program} {m:M} {fr:Fr}
theorem g2p(e sz b:Nat)(z:List AV)(s x:RO):run (.appz e sz b z s x) fr m=a7m e sz b z (.cst (ev s fr)) (.cst (ev x fr)) .leaf m:=rfl
theorem SlAt.cl{e sz:Nat}{x:AV}{len:Nat}{cells:List AV}{o:Option Nat}(h:SlAt m e sz x len cells o):C1 x=some [x] :=by cases h<;>rfl
theorem b8A(z:AV):∀n,B4 n [z] =List.replicate n z
 |0=>rfl
 |n+1=>by rw[List.replicate_succ,←b8A z n];rfl
theorem SlAt.appz{e bytes:Nat}{s:AV}{len:Nat}{cells:List AV}{o:Option Nat}(hs:SlAt m e 1 s len cells o)(hw:Wf m){k:Nat}(hb:bytes=1)(hroom:len+k≤1000000):
  ∃s' m' o',a7m e 1 bytes [.y 0] (.cst s) (.cst (iv (k:Int))) .leaf m=some (s',m')∧SlAt m' e 1 s' (len+k) (cells++List.replicate k (.y 0)) o'∧Keep m m' (fun b=>o=some b)∧(o'=o∨∃b,o'=some b∧m.next≤b∧b<m'.next):=by
 subst hb
 have hy:=e4H m (List.replicate k (0:UInt8))
 have e1:i9 (List.replicate k (0:UInt8))=List.replicate k (.y 0):=by unfold i9;rw[List.map_replicate];rfl
 rw[List.length_replicate,e1] at hy
 obtain⟨s',m',o',h1,h2,h3,h4⟩:=hs.append (bytes:=1) (z:= [.y 0]) hw hy (U1 (by omega) (by omega))
 refine⟨s',m',o',?_,h2,h3,h4⟩
 rw[←h1]
 show bc (Nat.ble k 1099511627776&&Nat.ble (k*1) 281474976710656) (H7 e 1 1 [.y 0] m s k (B4 k [.y 0])) none=_
 rw[A1,A1,decide_eq_true (by omega),decide_eq_true (by omega),Bool.and_self,l9,b8A]
 show _=(ob (Go.Am.lenA (tv (List.replicate k (0:UInt8)))) fun k'=>ob (G8 m 1 k' (tv (List.replicate k (0:UInt8)))) fun new=>H7 e 1 1 [.y 0] m s k' new)
 rw[hy.1,C5,hy.2.1,C5]
end
end Go.Am
namespace Go.Proofs.YtooooiidpaecmaaGreatDoor
open Go Go.Am
section
variable {m0 m:M} {c:Nat} {bs:Bs}
abbrev wrK:Nat:=a1e+1
structure WrAt(m0 m:M)(c:Nat)(bs:Bs):Prop where
 kp:Keep m0 m fun _=>False
 lo:m0.next≤c
 ex:∃x o,At m c a1e true [x,iv 0]∧SlAt m l3 1 x bs.length (i9 bs) o∧∀b,o=some b→m0.next≤b
theorem WrAt.keep{m':M}{F:Nat→Prop}(h:WrAt m0 m c bs)(k:Keep m m' F)(hF:∀b,F b→¬(m0.next≤b∧b<m.next)∧m0.next≤b):WrAt m0 m' c bs:=by
 obtain⟨x,o,h1,h2,h3⟩:=h.ex
 refine⟨h.kp.trans k fun b hb hf=>absurd hb (by have:=(hF b hf).2;omega),h.lo,x,o,h1.keep h.kp.wf k fun hf=>(hF c hf).1 ⟨h.lo,h1.kd.lt h.kp.wf⟩,h2.keep h.kp.wf k fun b hb hf=>(hF b hf).1 ⟨h3 b hb,h2.blk_lt h.kp.wf hb⟩,h3⟩
theorem X1(a b:Bs):i9 (a++b)=i9 a++i9 b:=by simp[i9]
set_option maxRecDepth 20000 in
theorem cwn{w v:Nat}(h:WrAt m0 m c bs)(hbs:bs.length≤100000)(hn:w=1∨w=2∨w=4)(hv:v<2^(8*w)):
  ∃m',WrAt m0 m' c (bs++le w v)∧y6 m m' [uB,wrK]∧Ran Tryz.prog tb a2a [.ptr c 0,iv w,iv v] m (.tuple []) m':=by
 obtain⟨x,o,h1,h2,h3⟩:=h.ex
 have hw:=h.kp.wf
 have emk:=f0k (m:=m) (e:=l3) (z:= .y 0) (n:=w) (by omega)
 have ha:=At.addZr (m:=m) (e:=l3) (k:=w*1) (z:= [.y 0]) w rfl
 rw[a9v] at ha
 obtain⟨m1,e1,k1,n1⟩:∃m1,m.addZ l3 (w*1) [.y 0] =m1∧Keep m m1 (fun _=>False)∧m1.next=m.next+1:=⟨_,rfl,Keep.addZ hw,M.next_addZ ..⟩
 rw[e1] at ha emk
 have hz:BsAt m1 (.slice m.next 0 w w false) (List.replicate w 0) m.next:=by
  have hs:SlAt m1 l3 1 (.slice m.next 0 w w false) w (i9 (List.replicate w 0)) (some m.next):= .row (junk:= []) (by rw[List.append_nil,a0w];exact ha) (by simp[i9]) (by simp) (Nat.le_refl _) (by omega)
  have hs':SlAt m1 l3 1 (.slice m.next 0 (List.replicate w (0:UInt8)).length (List.replicate w (0:UInt8)).length false) (List.replicate w (0:UInt8)).length (i9 (List.replicate w 0)) (some m.next):=by rw[List.length_replicate];exact hs
  have:=f0x hs'
  rwa [List.length_replicate] at this
 obtain⟨m2,s2,b2,hs2,k2,hb2,r2⟩:=g0P k1.wf hz (Nat.le_refl _) (by simp) hn hv
 have k12:=k1.ft k2
 have hA:=h1.keep hw k12 (fun h=>h)
 have hS:=h2.keep hw k12 (fun _ _ h=>h)
 obtain⟨s3,m3,o3,e3,hS3,k3,ho3⟩:=hS.append (bytes:=1) (z:= [.y 0]) k12.wf hs2.src (U1 (by omega) (by omega))
 have hoc:¬o=some c:=fun e=>by
  rw[e] at h2
  exact absurd (h2.kd.inj h1.kd) (by decide)
 have hA3:=hA.keep k12.wf k3 hoc
 obtain⟨m4,e4,hA4,k4,n4⟩:=hA3.st k3.wf 0 [s3]
 have h23:C1 s3=some [s3] :=hS3.cl
 have hn12:=k12.next
 have hlt3:∀b,o3=some b→b≠c∧m0.next≤b:=fun b hb=>by
  refine⟨fun e=> ?_,?_⟩
  ·subst e
   rw[hb] at hS3
   exact absurd (hS3.kd.inj hA3.kd) (by decide)
  ·rcases ho3 with e|⟨b',e,h5,_⟩
   ·exact h3 b (e▸hb)
   ·rw[e] at hb
    cases hb
    have:=h.kp.next
    omega
 refine⟨m4,⟨(((h.kp.tf k12).trans k3 fun b hb e=>absurd (h3 b e) (by omega)).trans k4 fun b hb e=>absurd h.lo (by omega)),h.lo,s3,o3,hA4,?_,fun b hb=>(hlt3 b hb).2⟩,?_,?_⟩
 ·have:SlAt m4 l3 1 s3 (bs.length+w) (i9 bs++i9 (le w v)) o3:=hS3.keep k3.wf k4 fun b hb e=>(hlt3 b hb).1 e
  rw[X1,List.length_append,y4]
  exact this
 ·refine((k12.mono (G:=fun b=>o=some b∨b=c) fun _ _ h=>h.elim).trans k3 fun b hb e=> .inl e).trans k4 (fun b hb e=> .inr e)|>.mono fun b hb e=> ?_
  rcases e with e|e
  ·rw[e] at h2;exact .inl ⟨uB,by simp,h2.kd⟩
  ·subst e;exact .inl ⟨wrK,by simp,h1.kd⟩
 refine WpF.go g6v ?_
 simp-implicitDefEqProofs only[g6T,d3Q,d5T,e0X,emk,r2.eq,hA.rd,e3,h23,e4,↓reduceIte,Nat.reduceEqDiff,Nat.reduceAdd,List.getElem?_cons_succ,List.getElem?_cons_zero,wA,wB,wC,wD]
noncomputable abbrev ivn(n:Nat):AV:=iv (n:Int)
def les(w:Nat)(zs:List Nat):Bs:=(zs.map (le w)).flatten
theorem X7(w:Nat):∀zs,(les w zs).length=w*zs.length
 | [] =>rfl
 |z::zs=>by
  show(le w z++les w zs).length=_
  rw[List.length_append,y4,X7 w zs,List.length_cons,Nat.mul_add,Nat.mul_one,Nat.add_comm]
theorem b9q(w:Nat)(zs:List Nat)(z:Nat):les w (zs++ [z])=les w zs++le w z:=by simp[les]
abbrev b38(m:M)(x:AV)(zs:List Nat)(o:Option Nat):Prop:=SlAt m d5 1 x zs.length (zs.map ivn) o
set_option maxRecDepth 20000 in
theorem f1Q{w:Nat}{zs:List Nat}{x:AV}{o:Option Nat}(h:WrAt m0 m c bs)(hx:b38 m x zs o)(hbs:bs.length+w*zs.length≤100000)(hn:w=1∨w=2∨w=4)(hv:∀z∈zs,z<2^(8*w)):
  ∃m',WrAt m0 m' c (bs++les w zs)∧y6 m m' [uB,wrK]∧Ran Tryz.prog tb a0o [.ptr c 0,iv w,x] m (.tuple []) m':=by
 have hz:zs.length≤100000:=by
  have:zs.length≤w*zs.length:=Nat.le_mul_of_pos_left _ (by omega)
  omega
 have key:WpF Tryz.prog tb a0o [.ptr c 0,iv w,x] m fun v m'=>v= .tuple []∧WrAt m0 m' c (bs++les w zs)∧y6 m m' [uB,wrK] :=by
  refine WpF.go f0T ?_
  simp-implicitDefEqProofs only[a2k,b20,hx.len,↓reduceIte,Nat.reduceAdd,wA,wB,wC,wD]
  refine y7 (fun j fr mk=>∃k,k≤zs.length∧j=zs.length-k∧(ev (tm 0) fr= .ptr c 0∧ev (tm 1) fr=iv w∧ev (tm 8) fr=x∧ev (tm 9) fr=iv zs.length∧ev (tm 10) fr=iv k)∧WrAt m0 mk c (bs++les w (zs.take k))∧y6 m mk [uB,wrK]) (k:=zs.length) ⟨0,Nat.zero_le _,rfl,by simp-implicitDefEqProofs only[nc0,d7,↓reduceIte,Nat.reduceEqDiff,nc0,and_self],by simpa[les] using h,(Keep.refl h.kp.wf fun _=>False).k0⟩ ?_
  rintro j fr mk ⟨k,hk,rfl,⟨e0,e1,e8,e9,e10⟩,hWk,kk⟩
  by_cases hlt:k<zs.length
  ·have hz1:zs[k]? =some zs[k] :=List.getElem?_eq_getElem hlt
   have hzv:=hv _ (List.getElem_mem hlt)
   have htk:zs.take (k+1)=zs.take k++ [zs[k]] :=(List.take_append_getElem hlt).symm
   generalize zs[k] =z at hz1 hzv htk
   have hxk:=hx.kp h.kp.wf kk
   obtain⟨b,cap,hxe,_,hr⟩:=f1j hxk hlt
   rw[List.getElem?_map,hz1] at hr
   have hr:mk.rd b k=some (iv (z:Int)):=hr
   have hlen:(bs++les w (zs.take k)).length≤100000:=by
    rw[List.length_append,X7,List.length_take]
    have:w*min k zs.length≤w*zs.length:=Nat.mul_le_mul_left _ (by omega)
    omega
   obtain⟨m3,hW3,k3,r3⟩:=cwn hWk hlen hn hzv
   have hF:(k:Int)+1=((k+1:Nat):Int):=by omega
   rw[hxe] at e8
   simp-implicitDefEqProofs only[a2k,a3g,b2o,b1v,b1T,e0,e1,e8,e9,e10,show((k:Int)<(zs.length:Int))=True from eq_true (by omega),x9 1 b 0 zs.length cap false hlt,Nat.mul_one,hr,r3.eq,aD (k:Int) 1,↓reduceIte,Nat.reduceEqDiff,wA,wB,wC,wD]
   exact y8 (k':=zs.length-(k+1)) (by omega) ⟨k+1,by omega,rfl,by simp-implicitDefEqProofs only[e0,e1,e8,e9,hF,hxe,d7,↓reduceIte,Nat.reduceEqDiff,and_self],by rw[htk,b9q,←List.append_assoc];exact hW3,kk.tk k3⟩
  ·have hkz:k=zs.length:=by omega
   subst hkz
   rw[List.take_length] at hWk
   simp-implicitDefEqProofs only[a2k,a3g,e9,e10,↓reduceIte,wA,wB,wC,wD]
   exact⟨hWk,kk⟩
 obtain⟨v',m',⟨rfl,h1,h2⟩,r⟩:=key.ran
 exact⟨m',h1,h2,r⟩
end
end Go.Proofs.YtooooiidpaecmaaGreatDoor
/- field.Get: the number of bytes. -/
namespace Go.Am
open Go Go.RowKit
def ge:List UInt8→Nat
 | [] =>0
 |x::l=>x.toNat+256*ge l
theorem f0Q:∀l,ge l<256^l.length
 | [] =>by decide
 |x::l=>by
  have h1:=f0Q l
  have h2:=x.toNat_lt
  show x.toNat+256*ge l<256^(l.length+1)
  rw[Nat.pow_succ]
  omega
theorem g0v{l:List UInt8}{k:Nat}{z:UInt8}(h:l[k]? =some z):ge (l.drop k)=ge (l.drop (k+1))*256+z.toNat:=by
 obtain⟨hk,e⟩:=List.getElem?_eq_some_iff.1 h
 rw[List.drop_eq_getElem_cons hk,e]
 show z.toNat+256*_=_
 omega
section
variable {P:Program} {T:Tb} {m:M}
theorem WpY.mono{l:Nat}{args:List AV}{Q Q':AV→M→Prop}(h:WpY P T l args m Q)(k:∀v m',Q v m'→Q' v m'):WpY P T l args m Q':=by
 obtain⟨N,v,m',h1,h2⟩:=h
 exact⟨N,v,m',h1,k _ _ h2⟩
theorem g2S(t:TypeId){a:Nat}(h:a≤1000000000000):d8 P .shl t (iv (a:Int)) (.p (.int .u64 8))=some (iv ((a*256:Nat):Int)):=by
 unfold d8
 rw[Y7]
 show(if(8:Int)<0 then none else some (ofI .i64 (IntKind.i64.wrap ((a:Int)*2^min (8:Int).toNat 64))))=_
 rw[if_neg (by omega),show min (8:Int).toNat 64=8 from rfl,IntWalk.i64_in _ (by omega)]
 show some (iv ((a:Int)*2^8))=_
 congr 2
theorem g5S(t:TypeId){a c:Nat}(h:a≤1000000000000)(hc:c<256):d8 P .or t (iv ((a*256:Nat):Int)) (iv (c:Int))=some (iv ((a*256+c:Nat):Int)):=by
 rw[I8]
 show some (ofI .i64 (IntKind.i64.wrap ((BitVec.ofInt 64 ((a*256:Nat):Int)|||BitVec.ofInt 64 (c:Int)).toNat:Int)))=_
 rw[BitVec.ofInt_natCast,BitVec.ofInt_natCast,BitVec.toNat_or,BitVec.toNat_ofNat,BitVec.toNat_ofNat,Nat.mod_eq_of_lt (by omega),Nat.mod_eq_of_lt (by omega)]
 have e:a*256|||c=a*256+c:=by
  have:=Nat.shiftLeft_add_eq_or_of_lt (i:=8) hc a
  rw[Nat.shiftLeft_eq] at this
  exact this.symm
 rw[e,IntWalk.i64_in _ (by omega)]
 rfl
theorem g6f(x:UInt8):Z8 .i64 (.cst (.y x.toNat)) .leaf m=some (iv (x.toNat:Int),m):=by
 show some (ofI .i64 (IntKind.i64.wrap ((x.toNat:Nat):Int)),m)=_
 have:=x.toNat_lt
 rw[IntWalk.i64_in _ (by omega)];rfl
end
end Go.Am
namespace Go.Proofs.YtooooiidpaecmaaGreatDoor
open Go Go.Am
section
variable {m:M}
theorem _root_.Go.Am.BsAt.get{s:AV}{l:Bs}{b:Nat}(h:BsAt m s l b){k:Nat}{z:UInt8}(hz:l[k]? =some z):∃off cap lim,s= .slice b off l.length cap lim∧m.rd b (off+k)=some (.y z.toNat):=by
 have hlt:=(List.getElem?_eq_some_iff.1 hz).1
 cases h with
 | @row _ off cap lim _ cells hh hl' hc=>
  refine⟨off,cap,lim,rfl,?_⟩
  rw[hh.rd]
  have:((cells.drop off).take l.length)[k]? =some (AV.y z.toNat):=by rw[hc];unfold i9;rw[List.getElem?_map,hz];rfl
  rwa [List.getElem?_take_of_lt hlt,List.getElem?_drop] at this
set_option maxRecDepth 20000 in
theorem g43{l B b:Nat}{s:AV}{p:Bs}(hp:p.length≤1000000)(I:Nat→M→Prop)(hI:∀k mk,I k mk→At mk B C7 true [s]∧BsAt mk s p b)
  (hY:∀k mk z,p[k]? =some z→I (k+1) mk→WpY Tryz.prog tb l [iv k,.y z.toNat] mk fun v m'=>v= .b true∧I k m') (h0:I p.length m):WpF Tryz.prog tb a1R [.yield l,.ptr B 0] m fun _ m'=>I 0 m':=by
 obtain⟨hB,hS⟩:=hI _ _ h0
 refine WpF.go g48 ?_
 simp-implicitDefEqProofs only[a7F,e8r,hB.rd,hS.len,sB (p.length:Int) 1,↓reduceIte,Nat.reduceAdd,List.getElem?_cons_zero,wA,wB,wC,wD]
 refine y7 (fun j fr mk=>∃k,k≤p.length∧j=k∧(ev (tm 0) fr= .yield l∧ev (tm 1) fr= .ptr B 0∧ev (tm 3) fr=iv ((k:Int)-1))∧I k mk) (k:=p.length) ⟨p.length,Nat.le_refl _,rfl,by simp-implicitDefEqProofs only[d7,↓reduceIte,Nat.reduceEqDiff,and_self],h0⟩ ?_
 rintro j fr mk ⟨k,hk,rfl,⟨e0,e1,e3⟩,hIk⟩
 obtain⟨hBk,hSk⟩:=hI _ _ hIk
 cases j with
 |zero=>
  simp-implicitDefEqProofs only[a7F,b1G,e3,show((0:Int)≤0-1)=False from eq_false (by omega),↓reduceIte,wA,wB,wC,wD]
  exact hIk
 |succ k=>
  have hz:p[k]? =some p[k] :=List.getElem?_eq_getElem (by omega)
  generalize p[k] =z at hz
  obtain⟨off,cap,lim,hse,hr⟩:=hSk.get hz
  have hE:((k+1:Nat):Int)-1=(k:Int):=by omega
  rw[hE] at e3
  have hBr:mk.rd B 0=some s:=by rw[hBk.rd];rfl
  rw[hse] at hBr
  simp-implicitDefEqProofs only[a7F,b1G,d8V,e0,e1,e3,show((0:Int)≤(k:Int))=True from eq_true (by omega),hBr,x9 1 b off p.length cap lim (show k<p.length by omega),Nat.mul_one,hr,↓reduceIte,Nat.reduceEqDiff,wA,wB,wC,wD]
  refine(hY k mk z hz hIk).mono ?_
  rintro v m' ⟨rfl,hI'⟩
  simp-implicitDefEqProofs only[a7F,e2u,e3,sB (k:Int) 1,↓reduceIte,Nat.reduceEqDiff,wA,wB,wC,wD]
  exact y8 (k':=k) (by omega) ⟨k,by omega,rfl,by simp-implicitDefEqProofs only[e0,e1,d7,↓reduceIte,Nat.reduceEqDiff,and_self],hI'⟩
theorem f9C{s:AV}(hw:Wf m)(hs:C1 s=some [s]):∃m',m.addL C7 1 [s] =m'∧At m' m.next C7 true [s]∧Keep m m' (fun _=>False)∧m'.next=m.next+1∧Ran Tryz.prog tb b3T [s] m (.func a1R [.ptr m.next 0]) m':=by
 obtain⟨m1,e1,a1,k1,n1⟩:=l6 hw C7 1 [s]
 refine⟨m1,e1,a1,k1,n1,?_⟩
 refine WpF.go g6m ?_
 simp-implicitDefEqProofs only[g7z,e96,d9T,hs,e1,↓reduceIte,Nat.reduceEqDiff,wA,wB,wC,wD]
end
noncomputable def gG:Code:=a6e (Tryz.prog.funcs[114]?)
noncomputable def gQ:Code:=sL (sR (sR (sR gG)))
noncomputable def gR:Code:=bB (sR gQ)
noncomputable def f0M:Code:= .seq (sL gG) (.seq (sL (sR gG)) (.seq (sL (sR (sR gG))) (.seq (.seq (sL gQ) (.block 0 (.rangeFunc (rF gR) (rPs gR) (rAs gR) (rBd gR)))) (sR (sR (sR (sR gG)))))))
theorem g6w:Tryz.f114.body=some f0M:=by kernel_rfl
theorem gSl:y9 Tryz.f114.ntmps f0M=true:=by kernel_rfl
theorem gc0:j9 Tryz.prog (sL gG)= .reg b7f:=by kernel_rfl
theorem gc1:j9 Tryz.prog (sL (sR gG))= .reg b67:=by kernel_rfl
theorem gc2:j9 Tryz.prog (sL (sR (sR gG)))= .reg b7g:=by kernel_rfl
theorem gc3:j9 Tryz.prog (sL gQ)= .reg b7j:=by kernel_rfl
theorem gc6:j9 Tryz.prog (sR (sR (sR (sR gG))))= .seq (.reg b69) .ret:=by kernel_rfl
theorem gF:cO (rF gR)=tm 21:=by kernel_rfl
theorem gP:(rPs gR).toList= [22,23] :=by kernel_rfl
theorem gA:j9 Tryz.prog (rAs gR)= .reg a4s:=by kernel_rfl
theorem gB:j9 Tryz.prog (rBd gR)= .block 1 (.reg a8q):=by kernel_rfl
section
variable {m:M}
theorem _root_.Go.Am.BsAt.sub{b off n cap:Nat}{lim:Bool}{l:Bs}(h:BsAt m (.slice b off n cap lim) l b){at' w cap':Nat}{lim':Bool}(hw:at'+w≤l.length):BsAt m (.slice b (off+at') w cap' lim') ((l.drop at').take w) b:=by
 cases h with
 | @row _ _ _ _ _ cells hh hl hc=>
  have hlen:((l.drop at').take w).length=w:=by rw[List.length_take,List.length_drop];omega
  have:=BsAt.row (m:=m) (b:=b) (off:=off+at') (cap:=cap') (lim:=lim') (l:=(l.drop at').take w) hh (by rw[hlen];omega) (by
   rw[hlen]
   have h1:i9 ((l.drop at').take w)=((i9 l).drop at').take w:=by unfold i9;rw[List.map_take,List.map_drop]
   rw[h1,←hc,List.drop_take,List.take_take,List.drop_drop,Nat.min_eq_left (by omega)])
  rwa [hlen] at this
set_option maxRecDepth 20000 in
theorem f7q{m3:M}{V B b:Nat}{s:AV}{p:Bs}{fr:Fr}(hw:Wf m3)(hV:At m3 V d5 true [iv 0])(hB:At m3 B C7 true [s])(hS:BsAt m3 s p b)(hbV:b≠V)(hp:p.length≤1000000)(hpw:∀k,ge (p.drop k)≤1000000000000)
  (e10:ev (tm 10) fr= .ptr V 0) (e21:ev (tm 21) fr= .func a1R [.ptr B 0]):
  WpS Tryz.prog tb (.rangeFunc (rF gR) (rPs gR) (rAs gR) (rBd gR)) [] none fr m3 fun x f mm d=>x= .normal∧f=fr∧d= [m3.next]∧At mm V d5 true [iv (ge p:Nat)]∧Keep m3 mm (fun b=>b=V)∧mm.get m3.next=some (.obj (.dfr true))∧m3.next<mm.next:=by
 have hBV:B≠V:=fun e=>by subst e;exact absurd (hB.kd.inj hV.kd) (by decide)
 have hVlt:=hV.kd.lt hw
 refine WpS.range (h:=a1R) (caps:= [.ptr B 0]) (by rw[gF];exact e21) ?_
 have k1:Keep m3 (m3.new (.obj (.dfr true))) (fun _=>False):=Keep.new hw
 have n1:(m3.new (.obj (.dfr true))).next=m3.next+1:=M.next_new _ _
 have g1:(m3.new (.obj (.dfr true))).get m3.next=some (.obj (.dfr true)):=by rw[M.get_new,if_pos rfl]
 generalize m3.new (.obj (.dfr true))=m4 at k1 n1 g1⊢
 obtain⟨L0,hL0⟩:∃L0:ALoop,L0=⟨0,none,fr,(rPs gR).toList,rAs gR,rBd gR,m3.next⟩:=⟨_,rfl⟩
 rw[←hL0]
 have hst:L0.st=0:=by rw[hL0]
 have hpd:L0.pend=none:=by rw[hL0]
 have hfr:L0.fr=fr:=by rw[hL0]
 have hps:L0.params= [22,23] :=by rw[hL0];exact gP
 have has:j9 Tryz.prog L0.assign= .reg a4s:=by rw[hL0];exact gA
 have hbd:j9 Tryz.prog L0.body= .block 1 (.reg a8q):=by rw[hL0];exact gB
 clear hL0
 have k2:Keep m4 (m4.new (.obj (.loop L0))) (fun _=>False):=Keep.new k1.wf
 have n2:(m4.new (.obj (.loop L0))).next=m4.next+1:=M.next_new _ _
 have g2:(m4.new (.obj (.loop L0))).get m4.next=some (.obj (.loop L0)):=by rw[M.get_new,if_pos rfl]
 generalize m4.new (.obj (.loop L0))=m5 at k2 n2 g2⊢
 have g15:m5.get m3.next=some (.obj (.dfr true)):=(k2.get _ (by omega) fun h=>h).trans g1
 have bk:=g43 (m:=m5) (l:=m4.next) (B:=B) (b:=b) (s:=s) (p:=p) hp
  (fun k mk=>Keep m3 mk (fun b=>b=V)∧At mk V d5 true [iv (ge (p.drop k):Nat)]∧mk.get m3.next=some (.obj (.dfr true))∧mk.get m4.next=some (.obj (.loop L0))∧m4.next<mk.next)
  (fun k mk h=>⟨hB.keep hw h.1 hBV,hS.keep hw h.1 hbV⟩)
  (fun k mk z hz h=>by
   obtain⟨hk,hv,hd,hl,hnx⟩:=h
   have hwk:=hk.wf
   refine WpY.code (I3 hl) (by rw[hps];rfl) has hbd ?_
   rw[hps,hfr]
   show GX Tryz.prog tb (.reg a4s) _ (D5 23 (.y z.toNat) (D5 22 (iv k) fr)) mk
   simp-implicitDefEqProofs only[a4s,↓reduceIte,wA,wB,wC,wD]
   refine⟨L0,I3 hl,hst,?_⟩
   have kp:Keep mk (mk.put m4.next (.obj (.loop {L0 with st:=1}))) (fun b=>b=m4.next):=Keep.put hwk hnx rfl
   have np:(mk.put m4.next (.obj (.loop {L0 with st:=1}))).next=mk.next:=M.next_put ..
   have gp:(mk.put m4.next (.obj (.loop {L0 with st:=1}))).get m4.next=some (.obj (.loop {L0 with st:=1})):=by rw[M.get_put,if_pos rfl]
   have hvp:=hv.keep hwk kp (by omega)
   have hdp:=(kp.get _ (show m3.next<mk.next by omega) (by omega)).trans hd
   generalize mk.put m4.next (.obj (.loop {L0 with st:=1}))=mp at kp np gp hvp hdp⊢
   obtain⟨mq,eq,aq,kq,nq⟩:=hvp.st kp.wf 0 [iv ((ge (p.drop (k+1))*256+z.toNat:Nat):Int)]
   rw[←g0v hz] at aq
   have hzl:=z.toNat_lt
   simp-implicitDefEqProofs only[a8q,e10,hvp.rd,D8,g2S d5 (hpw (k+1)),N6,g6f,g5S d5 (hpw (k+1)) (show z.toNat<256 by omega),eq,↓reduceIte,Nat.reduceEqDiff,List.getElem?_cons_zero,wA,wB,wC,wD]
   have glq:=(kq.get m4.next (by omega) (by omega)).trans gp
   have gdq:=(kq.get m3.next (by omega) (by omega)).trans hdp
   refine⟨{L0 with st:=1},I3 glq,rfl,?_⟩
   have kz:Keep mq (mq.put m4.next (.obj (.loop L0))) (fun b=>b=m4.next):=Keep.put kq.wf (by omega) rfl
   have hfin:({({L0 with st:=1}:ALoop) with st:=bc (B8 .normal).isNone 0 2,pend:=B8 .normal}:ALoop)=L0:=by
    show({L0 with st:=0,pend:=none}:ALoop)=L0
    rw[←hst,←hpd]
   rw[hfin]
   refine⟨((hk.trans kp fun b hb e=>by omega).trans kq fun b hb e=>e).trans kz fun b hb e=>by omega,aq.keep kq.wf kz (by omega),(kz.get _ (by omega) (by omega)).trans gdq,by rw[M.get_put,if_pos rfl],?_⟩
   have:=M.next_put mq m4.next (.obj (.loop L0))
   omega)
  ⟨((k1.trans k2 fun _ _ h=>h).mono fun _ _ h=>h.elim),by
   have e:ge (p.drop p.length)=0:=by rw[List.drop_length];rfl
   rw[e]
   exact(hV.keep hw k1 (fun h=>h)).keep k1.wf k2 fun h=>h,g15,g2,by omega⟩
 refine bk.mono ?_
 rintro v m6 ⟨hk,hv,hd,hl,hnx⟩
 have kz:Keep m6 (m6.put m4.next (.obj (.loop {L0 with st:=3}))) (fun b=>b=m4.next):=Keep.put hk.wf hnx rfl
 have nz:=M.next_put m6 m4.next (.obj (.loop {L0 with st:=3}))
 refine⟨L0,.normal,I3 hl,by rw[hst];decide,by rw[hpd];rfl,rfl,rfl,rfl,hv.keep hk.wf kz (by omega),hk.trans kz fun b hb e=>by omega,(kz.get _ (by omega) (by omega)).trans hd,by omega⟩
set_option maxRecDepth 20000 in
theorem c1M{b off n cap:Nat}{lim:Bool}{l:Bs}{at' w:Nat}(hw:Wf m)(h:BsAt m (.slice b off n cap lim) l b)(hn:n=l.length)(hcap:n≤cap)(hl:n≤1000000)(hwd:w=1∨w=2∨w=4)(hat:at'+w≤n):
  ∃m',Keep m m' (fun _=>False)∧Ran Tryz.prog tb a4w [.slice b off n cap lim,iv at',iv w] m (.tuple [iv (ge ((l.drop at').take w):Nat),iv 0]) m':=by
 have hnum:=a85 (m:=m) (b:=b) (off:=off) (lim:=lim) hwd hat hcap (by omega)
 obtain⟨m1,e1,a1,k1,n1⟩:=B0 hw d5 1 [iv 0]
 obtain⟨m2,e2,a2,k2,n2⟩:=a1.st k1.wf 0 [iv 0]
 have k02:Keep m m2 fun _=>False:=k1.trans k2 fun b hb e=>by omega
 obtain⟨m3,e3,a3,k3,n3,r3⟩:=f9C (s:= .slice b (off+at') w (cap-at') lim) k02.wf rfl
 have k03:=k02.ft k3
 have hp:=(h.sub (cap':=cap-at') (lim':=lim) (at':=at') (w:=w) (by omega)).keep hw k03 fun h=>h
 have hpl:((l.drop at').take w).length=w:=by rw[List.length_take,List.length_drop];omega
 generalize (l.drop at').take w=p at hp hpl
 have a23:=a2.keep k02.wf k3 fun h=>h
 have hpw:∀k,ge (p.drop k)≤1000000000000:=fun k=>by
  have h1:=f0Q (p.drop k)
  have h2:(p.drop k).length≤4:=by rw[List.length_drop];omega
  have h3:256^(p.drop k).length≤256^4:=Nat.pow_le_pow_right (by omega) h2
  omega
 have key:WpF Tryz.prog tb a4w [.slice b off n cap lim,iv at',iv w] m fun v m'=>v= .tuple [iv (ge p:Nat),iv 0]∧Keep m m' (fun _=>False):=by
  refine WpF.body (a0H Tryz.func114) g6w gSl rfl rfl rfl ?_
  refine WpS.seq (WpS.code gc0 ?_)
  simp-implicitDefEqProofs only[b7f,Nat.reduceAdd,wA,wB,wC,wD]
  refine WpS.seq (WpS.code gc1 ?_)
  simp-implicitDefEqProofs only[b67,hnum.eq,↓reduceIte,Nat.reduceEqDiff,List.getElem?_cons_succ,List.getElem?_cons_zero,wA,wB,wC,wD]
  refine WpS.seq (WpS.code gc2 ?_)
  simp-implicitDefEqProofs only[b7g,e1,e2,↓reduceIte,wA,wB,wC,wD]
  refine WpS.seq (WpS.seq (WpS.code gc3 ?_))
  simp-implicitDefEqProofs only[b7j,r3.eq,↓reduceIte,Nat.reduceEqDiff,wA,wB,wC,wD]
  have hlt:=h.lt hw
  refine WpS.block ((f7q (V:=m.next) (B:=m2.next) (b:=b) (s:= .slice b (off+at') w (cap-at') lim) (p:=p) k3.wf a23 a3 hp (by omega) (by omega) hpw (by simp-implicitDefEqProofs only[d7,↓reduceIte,Nat.reduceEqDiff]) (by simp-implicitDefEqProofs only[d7,↓reduceIte])).mono ?_)
  rintro x f mm d ⟨rfl,rfl,rfl,hv,hk,hd,hnx⟩
  refine WpS.code gc6 ?_
  simp-implicitDefEqProofs only[b69,hv.rd,↓reduceIte,Nat.reduceEqDiff,List.getElem?_cons_zero,wA,wB,wC,wD]
  refine⟨.inr trivial,mm.put m3.next (.obj (.dfr false)),?_,_,f1i,?_⟩
  ·show(ob (mm.dfr m3.next) fun op=>bc op (I7 [] (mm.put m3.next (.obj (.dfr false)))) none)=_
   rw[a2Q hd];rfl
  ·simp-implicitDefEqProofs only[d7,b3E,↓reduceIte,Nat.reduceEqDiff,true_and]
   have hn3:=k03.next
   exact(k03.trans hk fun b hb e=>by omega).trans (Keep.put hk.wf hnx rfl) fun b hb e=>by omega
 obtain⟨v,m',⟨rfl,kf⟩,r⟩:=key.ran
 exact⟨m',kf,r⟩
end
end Go.Proofs.YtooooiidpaecmaaGreatDoor
/- A whole block of what was written; a log's header. -/
namespace Go.Am
open Go Go.RowKit
section
variable {P:Program} {m:M} {fr:Fr}
end
end Go.Am
namespace Go.Proofs.YtooooiidpaecmaaGreatDoor
open Go Go.Am
section
variable {m0 m:M} {c:Nat}
structure RowB(m:M)(s:AV)(l:Bs)(b:Nat):Prop where
 sl:SlAt m l3 1 s l.length (i9 l) (some b)
theorem RowB.shape{s:AV}{l:Bs}{b:Nat}(h:RowB m s l b):∃cap,s= .slice b 0 l.length cap false∧l.length≤cap:=by
 have h:=h.sl
 generalize i9 l=ys at h
 generalize l.length=n at h
 cases h with
 |row h hl hj hc h0=>exact⟨_,rfl,hc⟩
theorem RowB.bs{s:AV}{l:Bs}{b:Nat}(h:RowB m s l b):BsAt m s l b:=by
 have hl:(i9 l).length=l.length:=by simp[i9]
 obtain⟨cap,rfl,_⟩:=h.shape
 have h:=h.sl
 generalize hy:i9 l=ys at h hl
 cases h with
 |row h hl' hj hc h0=>exact .row h.r (by rw[List.length_append,hl];omega) (by rw[List.drop_zero,hy,List.take_append_of_le_length (by omega),List.take_of_length_le (by omega)])
theorem RowB.keep{s:AV}{l:Bs}{b:Nat}{m':M}{F:Nat→Prop}(h:RowB m s l b)(hw:Wf m)(k:Keep m m' F)(hf:¬F b):RowB m' s l b:=⟨h.sl.keep hw k fun x hx=>by cases hx;exact hf⟩
variable {bs:Bs}
theorem f6j(n:Nat):i9 (List.replicate n (0:UInt8))=List.replicate n (.y 0):=a0w n 0
set_option maxRecDepth 20000 in
theorem whole{n:Nat}(h:WrAt m0 m c bs)(h0:0<n)(hb:bs.length≤n)(hn:n≤100000):
  ∃m' s b,RowB m' s (bs++List.replicate (n-bs.length) 0) b∧Keep m0 m' (fun _=>False)∧m0.next≤b∧Ran Tryz.prog tb a7r [.ptr c 0,iv n] m (.tuple [s,iv 0]) m':=by
 obtain⟨x,o,h1,h2,h3⟩:=h.ex
 have hw:=h.kp.wf
 obtain⟨s,m1,o1,e1,hs,k1,ho⟩:=h2.appz (bytes:=1) hw (k:=n-bs.length) rfl (by omega)
 have hob:∃b,o1=some b∧m0.next≤b:=by
  rcases ho with e|⟨b,e,h4,_⟩
  ·cases ho1:o1 with
   |none=>
    rw[ho1] at hs
    have:bs.length+(n-bs.length)=0:=by
     generalize bs.length+(n-bs.length)=q at hs⊢
     generalize i9 bs++List.replicate (n-bs.length) (AV.y 0)=ys at hs
     cases hs;rfl
    omega
   |some b=>exact⟨b,rfl,h3 b (by rw[←e,ho1])⟩
  ·have:=h.kp.next
   exact⟨b,e,by omega⟩
 obtain⟨b,rfl,hb0⟩:=hob
 refine⟨m1,s,b,⟨?_⟩,h.kp.trans k1 (fun x hx e=>absurd (h3 x e) (by omega)),hb0,?_⟩
 ·rw[List.length_append,List.length_replicate,X1,f6j]
  exact hs
 have hC:(n:Int)-(bs.length:Int)=((n-bs.length:Nat):Int):=by omega
 have hr0:m.rd c 0=some x:=by rw[h1.rd];rfl
 have hr1:m.rd c 1=some (iv 0):=by rw[h1.rd];rfl
 refine WpF.go g6g ?_
 simp-implicitDefEqProofs only[g7y,d4R,d3k,e5s,hr0,hr1,h2.len,h2.aq,sB (n:Int) (bs.length:Int),hC,g2p,e1,↓reduceIte,Nat.reduceEqDiff,Nat.reduceAdd,List.getElem?_cons_succ,List.getElem?_cons_zero,exists_eq_left',wA,wB,wC,wD]
end
section
variable {m:M} {c b off n cap:Nat} {lim:Bool} {l:Bs}
theorem crn{at' w:Nat}(hw:Wf m)(hR:At m c J2 true [.slice b off n cap lim,iv at'])(h:BsAt m (.slice b off n cap lim) l b)(hn:n=l.length)(hcap:n≤cap)(hl:n≤1000000)(hwd:w=1∨w=2∨w=4)(hat:at'+w≤n):
  ∃m',At m' c J2 true [.slice b off n cap lim,iv (at'+w:Nat)]∧Keep m m' (fun x=>x=c)∧Ran Tryz.prog tb a3L [.ptr c 0,iv w] m (iv (ge ((l.drop at').take w):Nat)) m':=by
 obtain⟨m1,k1,r1⟩:=c1M hw h hn hcap hl hwd hat
 have hR1:=hR.keep hw k1 fun h=>h
 obtain⟨m2,e2,a2,k2,n2⟩:=hR1.st k1.wf 1 [iv (at'+w:Nat)]
 refine⟨m2,a2,k1.ft k2,?_⟩
 have hC:(at':Int)+(w:Int)=((at'+w:Nat):Int):=by omega
 refine WpF.go g6A ?_
 simp-implicitDefEqProofs only[g7f,e9O,d5n,d9b,d9Q,hR.rd,r1.eq,hR1.rd,aD (at':Int) (w:Int),hC,e2,↓reduceIte,Nat.reduceEqDiff,Nat.reduceAdd,List.getElem?_cons_succ,List.getElem?_cons_zero,exists_eq_left',wA,wB,wC,wD]
set_option maxRecDepth 20000 in
theorem b4a{at' w N hb:Nat}{e:TypeId}{x:AV}{o:Option Nat}{f:Nat→List AV}{os:Nat→Nat}(hw:Wf m)(hR:At m c J2 true [.slice b off n cap lim,iv at'])(h:BsAt m (.slice b off n cap lim) l b)(hn:n=l.length)(hcap:n≤cap)(hl:n≤1000000)(hwd:w=1∨w=2∨w=4)(hat:at'+N*w≤n)
  (hbc:b≠c) (hbh:b≠hb) (hch:c≠hb) (hH:At m hb e true (f 0)) (hf:∀k,k<N→z6 (f k) (os k) [iv (ge ((l.drop (at'+k*w)).take w):Nat)] =f (k+1)∧os k+1≤(f k).length)
  (hx:SlAt m P8 1 x N ((List.range N).map fun k=> .ptr hb (os k)) o) (ho:∀bo,o=some bo→bo≠c∧bo≠hb):
  ∃m',At m' hb e true (f N)∧At m' c J2 true [.slice b off n cap lim,iv (at'+N*w:Nat)]∧Keep m m' (fun x=>x=c∨x=hb)∧Ran Tryz.prog tb a0m [.ptr c 0,iv w,x] m (.tuple []) m':=by
 have hN:N≤1000000:=by
  have:N≤N*w:=Nat.le_mul_of_pos_right _ (by omega)
  omega
 have key:WpF Tryz.prog tb a0m [.ptr c 0,iv w,x] m fun v m'=>v= .tuple []∧At m' hb e true (f N)∧At m' c J2 true [.slice b off n cap lim,iv (at'+N*w:Nat)]∧Keep m m' (fun x=>x=c∨x=hb):=by
  refine WpF.go f06 ?_
  simp-implicitDefEqProofs only[a1c,b2x,hx.len,↓reduceIte,Nat.reduceAdd,wA,wB,wC,wD]
  refine y7 (fun j fr mk=>∃k,k≤N∧j=N-k∧(ev (tm 0) fr= .ptr c 0∧ev (tm 1) fr=iv w∧ev (tm 8) fr=x∧ev (tm 9) fr=iv N∧ev (tm 10) fr=iv k)∧At mk hb e true (f k)∧At mk c J2 true [.slice b off n cap lim,iv (at'+k*w:Nat)]∧Keep m mk (fun x=>x=c∨x=hb)) (k:=N) ⟨0,Nat.zero_le _,rfl,by simp-implicitDefEqProofs only[nc0,d7,↓reduceIte,Nat.reduceEqDiff,nc0,and_self],hH,by rw[Nat.zero_mul,Nat.add_zero];exact hR,Keep.refl hw _⟩ ?_
  rintro j fr mk ⟨k,hk,rfl,⟨e0,e1,e8,e9,e10⟩,hHk,hRk,kk⟩
  by_cases hlt:k<N
  ·obtain⟨hf1,hf2⟩:=hf k hlt
   have hxk:=hx.keep hw kk fun bo hbo e=>e.elim (ho bo hbo).1 (ho bo hbo).2
   obtain⟨bb,cp,hxe,_,hr⟩:=f1j hxk hlt
   rw[List.getElem?_map,List.getElem?_range hlt] at hr
   have hr:mk.rd bb k=some (.ptr hb (os k)):=hr
   have hmul:k*w+w≤N*w:=by
    have:=Nat.mul_le_mul_right w (show k+1≤N from hlt)
    rw[Nat.add_mul,Nat.one_mul] at this
    exact this
   obtain⟨m3,hR3,k3,r3⟩:=crn kk.wf hRk (h.keep hw kk fun e=>e.elim hbc hbh) hn hcap hl hwd (by omega)
   have hH3:=hHk.keep kk.wf k3 fun e=>hch e.symm
   obtain⟨m4,e4,a4,k4,n4⟩:=hH3.st k3.wf (os k) [iv (ge ((l.drop (at'+k*w)).take w):Nat)] hf1 hf2
   have hF:(k:Int)+1=((k+1:Nat):Int):=by omega
   rw[hxe] at e8
   simp-implicitDefEqProofs only[a1c,a1K,a59,a5T,a6n,e0,e1,e8,e9,e10,show((k:Int)<(N:Int))=True from eq_true (by omega),x9 1 bb 0 N cp false hlt,Nat.mul_one,hr,r3.eq,e4,aD (k:Int) 1,↓reduceIte,Nat.reduceEqDiff,wA,wB,wC,wD]
   refine y8 (k':=N-(k+1)) (by omega) ⟨k+1,by omega,rfl,by simp-implicitDefEqProofs only[e0,e1,e8,e9,hF,hxe,d7,↓reduceIte,Nat.reduceEqDiff,and_self],a4,?_,(kk.trans k3 fun _ _ e=> .inl e).trans k4 fun _ _ e=> .inr e⟩
   have hR4:=hR3.keep k3.wf k4 hch
   rw[Nat.add_mul,Nat.one_mul,←Nat.add_assoc]
   exact hR4
  ·have hkz:k=N:=by omega
   subst hkz
   simp-implicitDefEqProofs only[a1c,a1K,e9,e10,↓reduceIte,wA,wB,wC,wD]
   exact⟨hHk,hRk,kk⟩
 obtain⟨v',m',⟨rfl,h1,h2,h3⟩,r⟩:=key.ran
 exact⟨m',h1,h2,h3,r⟩
theorem c3r{s1 s2:AV}{t1 t2:Bs}{b1 b2:Nat}(h1:BsAt m s1 t1 b1)(h2:BsAt m s2 t2 b2):Ran Tryz.prog tb a7c [s1,s2] m (.b (decide (t1=t2))) m:=by
 refine WpF.go g5Q ?_
 simp-implicitDefEqProofs only[g6H,d5S,d3i,h1.run_b2s,h2.run_b2s,↓reduceIte,Nat.reduceEqDiff,Nat.reduceAdd,wA,wB,wC,wD]
end
end Go.Proofs.YtooooiidpaecmaaGreatDoor
