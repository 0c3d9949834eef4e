import Derived.Test.YtooooiidpaecmaaGreatDoorDh
import Derived.Test.YtooooiidpaecmaaGreatDoorDd
import Derived.Test.YtooooiidpaecmaaGreatDoorFk
import Derived.Test.YtooooiidpaecmaaGreatDoorAmWm
import Derived.Test.YtooooiidpaecmaaGreatDoorPm
import Derived.Test.YtooooiidpaecmaaGreatDoorAmV
import Derived.Test.YtooooiidpaecmaaGreatDoorRows
import Derived.Shelf.SlIterI.Nil
import Derived.Shelf.SlIterI.Sorted
import Derived.Shelf.SortM.Plain
import Derived.Shelf.SortM.SortNone
import Derived.Ground.GgzProg
import Derived.Ground.SlgmProg
import Derived.Test.YtooooiidpaecmaaGreatDoorIaA
import Derived.Test.YtooooiidpaecmaaGreatDoorAmSc
import Derived.Test.YtooooiidpaecmaaGreatDoorTie
import Derived.Test.YtooooiidpaecmaaGreatDoorCards
import Derived.Lay
import Derived.SevenTiedAt
import Derived.Deep.Slices
import Derived.Deep.Fields
import Derived.ChangeSame
import Derived.ProofKit
import Derived.Shelf.Abstract
set_option linter.unusedVariables false
set_option linter.unusedSimpArgs false
/- What stands in a directory behind a name's writing, and behind a cut, without a machine. -/
namespace Go.Proofs.YtooooiidpaecmaaGreatDoor
open Go Go.Am
section
variable {S T:PS} {X Y:Nat→Ino} {D:List (Nat×Bs)} {e:Nat×Bs} {k:Nat}
theorem e6j{x y:Ino}{a n:Nat}(h:∀j,j<n→fby T y (a+j)=fby S x (a+j)):rdF T y a n=rdF S x a n:=by
 unfold rdF
 refine List.map_congr_left fun j hj=>h j (List.mem_range.1 hj)
def Lvs(S:PS)(X:Nat→Ino)(n:Nat):Prop:=∀k,k≤1063→(nd S (X 3) (i5 k)=0↔n≤64*k)
theorem e85(hW:Wrt S I2 X T Y 3 (16*k) (ent e))(he:EOk e)(hk:k≤1000){j:Nat}(hj:j≤1000):rdF T (Y 3) (16*j) 16=if j=k then ent e else rdF S (X 3) (16*j) 16:=by
 have hl:=a1L he
 have hb:=hW.by'
 rw[hl] at hb
 by_cases h:j=k
 ·subst h
  rw[if_pos rfl]
  have:=e9Q (S:=T) (x:=Y 3) (at':=16*j) (d:=ent e) fun i hi=>by
   rw[hl] at hi
   rw[hb _ (by omega),if_pos (by omega),show 16*j+i-16*j=i by omega]
  rwa [hl] at this
 ·rw[if_neg h]
  exact e6j fun i hi=>by rw[hb _ (by omega),if_neg (by omega)]
theorem DirAt.add(h:DirAt S X D)(hW:Wrt S I2 X T Y 3 (16*D.length) (ent e))(he:EOk e)(hl:D.length≤999):DirAt T Y (D++ [e]):=by
 have hel:=a1L he
 refine⟨(hW.kl 3 (by simp)).1.trans h.kd,(hW.kl 3 (by simp)).2.trans h.lk,?_,fun x hx=> ?_,fun j x hx=> ?_⟩
 ·rw[hW.sz,h.sz,hel,List.length_append,List.length_singleton];omega
 ·rw[List.mem_append,List.mem_singleton] at hx
  rcases hx with hx|rfl
  ·exact h.ok x hx
  ·exact he
 ·have hj:j<(D++ [e]).length:=(List.getElem?_eq_some_iff.1 hx).1
  rw[List.length_append,List.length_singleton] at hj
  rw[e85 hW he (by omega) (by omega)]
  by_cases hjk:j=D.length
  ·subst hjk
   rw[List.getElem?_append_right (Nat.le_refl _),Nat.sub_self] at hx
   cases hx
   rw[if_pos rfl]
  ·rw[if_neg hjk]
   rw[List.getElem?_append_left (by omega)] at hx
   exact h.by' j x hx
theorem Lvs.put{n:Nat}(h:Lvs S X n)(hW:Wrt S I2 X T Y 3 (16*k) (ent e))(he:EOk e)(hk:16*k≤n)(hn:n % 16=0):Lvs T Y (max n (16*k+16)):=fun j hj=>by
 have:=hW.zr j hj
 rw[a1L he,h j hj] at this
 rw[this]
 omega
end
theorem a7c:∀{D:List (Nat×Bs)} {k:Nat} {e:Nat×Bs} (J:List AV),D[k]? =some e→((y9 D++J).drop (k*2)).take 2= [ivn e.1,tv e.2]
 |x::D,0,e,J,h=>by cases h;rfl
 |x::D,k+1,e,J,h=>by
  have ih:=a7c (D:=D) (k:=k) J h
  show(([ivn x.1,tv x.2] ++y9 D++J).drop ((k+1)*2)).take 2=_
  rw[show(k+1)*2=k*2+2 by omega]
  exact ih
section
variable {m:M} {x:AV} {ob:Option Nat} {D:List (Nat×Bs)} {e:Nat×Bs} {k:Nat}
theorem a8R(h:SlAt m o7 2 x D.length (y9 D) ob)(hk:D[k]? =some e):∃b cap,x= .slice b 0 D.length cap false∧m.rdN b (k*2) 2=some [ivn e.1,tv e.2]∧m.rd b (k*2)=some (ivn e.1):=by
 have hlt:=(List.getElem?_eq_some_iff.1 hk).1
 have hl:=a3c D
 generalize hc:y9 D=cs at h hl
 generalize hn:D.length=n at h hl hlt
 cases h with
 |nil=>omega
 |row h h1 h2 h3 h4=>
  rename_i b cap junk xt
  refine⟨b,cap,rfl,?_,?_⟩
  ·rw[h.rdN (by rw[List.length_append];omega),←hc,a7c junk hk]
  ·have:=a7c junk hk
   rw[h.rd,←hc]
   have h5:=congrArg (fun l=>l[0]?) this
   simpa[List.getElem?_take,List.getElem?_drop] using h5
theorem e5b(hw:Wf m)(e:Nat×Bs){q:Nat}{s:Bs}(hq:At m q D6 true [tv s]):∃m',Keep m m' (fun _=>False)∧Ran Tryz.prog tb a0S [.agg [ivn e.1,tv e.2],.ptr q 0] m (.b (decide (e.2=s))) m':=by
 obtain⟨m1,e1,a1,k1,n1⟩:=l8 hw o7 2 [ivn e.1,tv e.2]
 have hq1:=hq.keep hw k1 id
 refine⟨m1,k1,?_⟩
 refine WpF.go f3U ?_
 simp-implicitDefEqProofs only[f5k,c8e,c8n,e1,a1.rd,hq1.rd,↓reduceIte,Nat.reduceEqDiff,Nat.reduceAdd,List.getElem?_cons_succ,List.getElem?_cons_zero,wA,wB,wC,wD]
def ixD(D:List (Nat×Bs))(s:Bs):Option Nat:=D.findIdx? fun e=>decide (e.2=s)
noncomputable def ixV(r:Option Nat):AV:=match r with
 |some k=>iv (k:Nat)
 |none=>iv (-1)
theorem e7K(hw:Wf m)(h:SlAt m o7 2 x D.length (y9 D) ob){q:Nat}{s:Bs}(hq:At m q D6 true [tv s])(hl:D.length≤10000):
  ∃m',Keep m m' (fun _=>False)∧Ran Tryz.prog tb a47 [x,.func a0S [.ptr q 0]] m (ixV (ixD D s)) m':=by
 have key:WpF Tryz.prog tb a47 [x,.func a0S [.ptr q 0]] m fun v m'=>v=ixV (ixD D s)∧Keep m m' fun _=>False:=by
  refine WpF.go f3O ?_
  simp-implicitDefEqProofs only[a5B,c77,d9f,h.len,↓reduceIte,Nat.reduceEqDiff,Nat.reduceAdd,wA,wB,wC,wD]
  refine A5 (fun j fr mk=>∃k,k≤D.length∧j=D.length-k∧(ev (tm 0) fr=x∧ev (tm 1) fr= .func a0S [.ptr q 0]∧ev (tm 7) fr=iv (D.length:Nat)∧ev (tm 8) fr=iv (k:Nat))∧(∀j e,j<k→D[j]? =some e→e.2≠s)∧Keep m mk fun _=>False) (k:=D.length) ⟨0,Nat.zero_le _,rfl,by simp-implicitDefEqProofs only[nc0,d6,↓reduceIte,Nat.reduceEqDiff,nc0,and_self],fun j e hj=>by omega,Keep.refl hw _⟩ ?_
  rintro j fr mk ⟨k,hk,rfl,⟨f0,f1,f7,f8⟩,hz,kk⟩
  by_cases hlt:k<D.length
  ·have hv:D[k]? =some D[k] :=List.getElem?_eq_getElem hlt
   generalize D[k] =e at hv
   obtain⟨b,cap,rfl,hrd,_⟩:=a8R (h.keep hw kk fun _ _=>id) hv
   have hia:=B5 (m:=mk) 2 b 0 D.length cap false hlt
   rw[Nat.zero_add] at hia
   have hqk:=hq.keep hw kk id
   obtain⟨m1,k1,r1⟩:=e5b kk.wf e hqk
   by_cases h0:e.2=s
   ·rw[decide_eq_true h0] at r1
    simp-implicitDefEqProofs only[a5B,a4D,a8v,a9J,c9g,f0,f1,f7,f8,show((k:Int)<(D.length:Int))=True from eq_true (by omega),hia,hrd,r1.eq,↓reduceIte,Nat.reduceEqDiff,wA,wB,wC,wD]
    refine⟨?_,kk.tf k1⟩
    have:ixD D s=some k:=by
     unfold ixD
     rw[List.findIdx?_eq_some_iff_getElem]
     refine⟨hlt,?_,fun j hj=> ?_⟩
     ·have:=(List.getElem?_eq_some_iff.1 hv).2
      rw[this];exact decide_eq_true h0
     ·have:=hz j D[j] hj (List.getElem?_eq_getElem (by omega))
      simpa using this
    rw[this];rfl
   ·rw[decide_eq_false h0] at r1
    simp-implicitDefEqProofs only[a5B,a4D,a8v,a9J,d0k,f0,f1,f7,f8,show((k:Int)<(D.length:Int))=True from eq_true (by omega),hia,hrd,r1.eq,aD (k:Int) 1,↓reduceIte,Nat.reduceEqDiff,wA,wB,wC,wD]
    refine C6 (k':=D.length-(k+1)) (by omega) ⟨k+1,by omega,rfl,by simp-implicitDefEqProofs only[f0,f1,f7,show(k:Int)+1=((k+1:Nat):Int) from rfl,d6,↓reduceIte,Nat.reduceEqDiff,and_self],fun j e' hj he=> ?_,kk.tf k1⟩
    by_cases hjk:j=k
    ·subst hjk
     rw[hv] at he
     cases he
     exact h0
    ·exact hz j e' (by omega) he
  ·obtain rfl:k=D.length:=by omega
   simp-implicitDefEqProofs only[a5B,a4D,d7U,f7,f8,↓reduceIte,wA,wB,wC,wD]
   refine⟨?_,kk⟩
   have:ixD D s=none:=by
    unfold ixD
    rw[List.findIdx?_eq_none_iff]
    intro e he
    obtain⟨j,hj,e2⟩:=List.mem_iff_getElem.1 he
    have:=hz j e hj (by rw[List.getElem?_eq_getElem hj,e2])
    simpa using this
   rw[this];rfl
 obtain⟨v,m',⟨rfl,k⟩,r⟩:=key.ran
 exact⟨m',k,r⟩
end
structure DS(S:PS)(X:Nat→Ino)(D:List (Nat×Bs)):Prop where
 fs:FS S I2 X
 dir:DirAt S X D
 lv:Lvs S X (16*D.length)
 len:D.length≤31
 z:D= []→∀k,k<10→(X 3).ps.getD k 0=0
section
variable {m:M} {A:Ad} {S:PS} {own:Nat→Prop} {X:Nat→Ino} {tt aa n:Nat} {D:List (Nat×Bs)} {s:Bs} {e:Nat×Bs} {k:Nat} {x:AV} {ob:Option Nat}
theorem e6u(hw:Wf m)(h:GAt m A S own)(ht:TAt m tt aa A.g)(hD:DS S X D)(hs:Low s):
  ∃m' n x ob,Keep m m' (fun _=>False)∧m.next≤n∧At m' n K5 true (nmL A.o tt x)∧SlAt m' o7 2 x D.length (y9 D) ob∧(∀b,ob=some b→m.next≤b)∧
   Ran Tryz.prog tb a2e [.ptr A.o 0,.ptr tt 0,.agg j9,iv 3,tv s] m (.tuple [.ptr n 0,ixV (ixD D s),iv 0]) m':=by
 obtain⟨m1,e1,a1,k1,n1⟩:=l8 hw x9 12 j9
 obtain⟨m2,e2,a2,k2,n2⟩:=l8 k1.wf D6 1 [tv s]
 obtain⟨m3,k3,r3⟩:=a7w k2.wf hs
 have k13:=k2.tf k3
 have k03:=k1.tf k13
 obtain⟨m4,n,x,ob,k4,hn,N4,S4,o4,r4⟩:=b5L k03.wf (h.k0 hw k03) (ht.k0 hw k03) hD.fs hD.dir (by have:=hD.len;omega)
 have k04:=k03.tf k4
 obtain⟨m5,k5,r5⟩:=e7K k04.wf S4 (s:=s) ((a2.keep k2.wf k3 id).keep k03.wf k4 id) (by have:=hD.len;omega)
 have hn3:=k03.next
 have hP:m3.rdN m.next 0 12=some j9:=(a1.keep k1.wf k13 id).rdN (by show 0+12≤12;omega)
 have hx:m4.rd n 15=some x:=by rw[N4.rd];rfl
 refine⟨m5,n,x,ob,k04.tf k5,by omega,N4.keep k04.wf k5 id,S4.keep k04.wf k5 fun _ _=>id,fun b hb=>by have:=o4 b hb;omega,?_⟩
 refine WpF.go f3z ?_
 simp-implicitDefEqProofs only[f5p,d3P,d4R,d60,d40,c7j,c67,e1,e2,a2.rd,r3.eq,hP,r4.eq,hx,r5.eq,↓reduceIte,Nat.reduceEqDiff,Nat.reduceAdd,List.getElem?_cons_succ,List.getElem?_cons_zero,wA,wB,wC,wD]
theorem e8d:t8 40 (.agg j9) (.agg j9)=true:=by kernel_rfl
theorem f4V:∀j,j<8→(i5 j).way.length≤1:=by decide
theorem e7v(hw:Wf m)(h:GAt m A S own)(ht:TAt m tt aa A.g)(hF:FS S I2 X)(hn:At m n K5 true (nmL A.o tt x))(he:EOk e)(hk:k<32)(hc:o9 S≤51):
  ∃m' own' T Y,Wrt S I2 X T Y 3 (16*k) (ent e)∧o9 T≤o9 S+1∧Step m m' A T own own'∧Ran Tryz.prog tb b0Q [.ptr n 0,iv k,.agg [ivn e.1,tv e.2]] m (iv 0) m':=by
 have hel:=a1L he
 obtain⟨m1,e1,a1,k1,n1⟩:=l8 hw o7 2 [ivn e.1,tv e.2]
 obtain⟨m2,s2,b2,R2,k2,hb2,r2⟩:=b5a k1.wf he
 have k02:=k1.tf k2
 obtain⟨cap,rfl,hcap⟩:=R2.shape
 have hnp:npc (16*k) (ent e).length=1:=by rw[hel];unfold npc;rw[if_neg (by omega)];omega
 have hne:ent e≠[] :=fun e0=>by rw[e0] at hel;cases hel
 have key:WpF Tryz.prog tb a2X [.ptr A.o 0,.ptr tt 0,.agg j9,ivn 3,ivn (16*k),.slice b2 0 (ent e).length cap false] m2 fun v m'=>∃own' T Y,v=iv 0∧Wrt S I2 X T Y 3 (16*k) (ent e)∧o9 T≤o9 S+1∧Step m2 m' A T own own':=
  e6n (w:=1) k02.wf (h.k0 hw k02) (ht.k0 hw k02) hF (by simp) R2.bs hcap R2.sl.kd (by decide) hne (by omega) (by omega) (fun j _ hj=>f4V j (by omega))
   (fun m' own' T Y hW hcn st=>⟨own',T,Y,rfl,hW,by rw[hnp] at hcn;omega,st⟩) (fun h53=>by rw[hnp] at h53;omega)
 obtain⟨v,m3,⟨own',T,Y,rfl,hW,hcn,st⟩,r3⟩:=key.ran
 refine⟨m3,own',T,Y,hW,hcn,Step.ft k02 st,?_⟩
 have hn2:=hn.keep hw k02 id
 have hn3:=hn2.kp k02.wf st.kp
 have hL:m1.rdN m.next 0 2=some [ivn e.1,tv e.2] :=a1.rdN (by show 0+2≤2;omega)
 have q1:m2.rd n 0=some (.ptr A.o 0):=by rw[hn2.rd];rfl
 have q2:m2.rd n 1=some (.ptr tt 0):=by rw[hn2.rd];rfl
 have q3:m2.rdN n 2 12=some j9:=hn2.rdN (by show 2+12≤16;omega)
 have q4:m2.rd n 14=some (iv 3):=by rw[hn2.rd];rfl
 have t1:m3.rd n 0=some (.ptr A.o 0):=by rw[hn3.rd];rfl
 have t2:m3.rd n 1=some (.ptr tt 0):=by rw[hn3.rd];rfl
 have t3:m3.rdN n 2 12=some j9:=hn3.rdN (by show 2+12≤16;omega)
 have t4:m3.rd n 14=some (iv 3):=by rw[hn3.rd];rfl
 have hm:=a0w (a:=(k:Int)) (b:=16) b0 (by omega) (by omega)
 rw[show(k:Int)*16=((16*k:Nat):Int) by omega] at hm
 have r3:Ran Tryz.prog tb a2X [.ptr A.o 0,.ptr tt 0,.agg j9,iv 3,iv (16*k:Nat),.slice b2 0 (ent e).length cap false] m2 (iv 0) m3:=r3
 refine WpF.go f2G ?_
 simp-implicitDefEqProofs only[f4E,c6r,c9Y,d2C,d6H,e1,hL,r2.eq,q1,q2,q3,q4,hm,r3.eq,e8d,↓reduceIte,Nat.reduceEqDiff,Nat.reduceAdd,List.getElem?_cons_succ,List.getElem?_cons_zero,exists_eq_left',wA,wB,wC,wD]
end
section
variable {m:M} {A:Ad} {S:PS} {own:Nat→Prop} {X:Nat→Ino} {tt aa n:Nat} {D:List (Nat×Bs)} {s:Bs} {e:Nat×Bs} {k:Nat} {x:AV} {ob:Option Nat}
theorem DS.add{T:PS}{Y:Nat→Ino}(h:DS S X D)(hW:Wrt S I2 X T Y 3 (16*D.length) (ent e))(he:EOk e)(hl:D.length≤30):DS T Y (D++ [e]):=
 ⟨hW.fs,h.dir.add hW he (by omega),by
  have:=h.lv.put hW he (Nat.le_refl _) (by omega)
  rw[List.length_append,List.length_singleton]
  rwa [show max (16*D.length) (16*D.length+16)=16*(D.length+1) by omega] at this,by rw[List.length_append,List.length_singleton];omega,fun e0=>by have:=congrArg List.length e0;rw[List.length_append,List.length_singleton] at this;exact absurd this (by show ¬_=0;omega)⟩
set_option maxRecDepth 20000 in
theorem e73(hw:Wf m)(h:GAt m A S own)(ht:TAt m tt aa A.g)(hD:DS S X D)(he:EOk e)(fr:Bool)(hc:o9 S≤51)(hr:fr=true∧ixD D e.2=none∧k=D.length∧D.length≤30∨fr=false∧ixD D e.2=some k∧k<D.length):
  ∃m' own' T Y,Wrt S I2 X T Y 3 (16*k) (ent e)∧o9 T≤o9 S+1∧Step m m' A T own own'∧Ran Tryz.prog tb b0V [.ptr A.o 0,.ptr tt 0,.agg j9,iv 3,tv e.2,ivn e.1,.b fr] m (iv 0) m':=by
 have h1:=he.i1
 have h2:=he.i2
 have hl:=hD.len
 obtain⟨m1,e1,a1,k1,n1⟩:=l8 hw x9 12 j9
 obtain⟨m2,k2,r2⟩:=a7w k1.wf he.nm
 have k02:=k1.tf k2
 obtain⟨m3,n,x,ob,k3,hn,N3,S3,o3,r3⟩:=e6u k02.wf (h.k0 hw k02) (ht.k0 hw k02) hD he.nm
 have k03:=k02.tf k3
 have hP:m2.rdN m.next 0 12=some j9:=(a1.keep k1.wf k2 id).rdN (by show 0+12≤12;omega)
 have hx:m3.rd n 15=some x:=by rw[N3.rd];rfl
 obtain⟨m4,own',T,Y,hW,hcn,st,r4⟩:=e7v (k:=k) k03.wf (h.k0 hw k03) (ht.k0 hw k03) hD.fs N3 he (by omega) hc
 refine⟨m4,own',T,Y,hW,hcn,Step.ft k03 st,?_⟩
 rcases hr with⟨rfl,hi,rfl,_⟩|⟨rfl,hi,hk⟩
 ·rw[hi] at r3
  have r3:Ran Tryz.prog tb a2e [.ptr A.o 0,.ptr tt 0,.agg j9,iv 3,tv e.2] m2 (.tuple [.ptr n 0,iv (-1),iv 0]) m3:=r3
  refine WpF.go d9L ?_
  simp-implicitDefEqProofs only[e07,a96,a9V,a9s,a9B,a90,a8N,a8K,a8g,b86,a8m,e1,r2.eq,show((e.1:Int)<1)=False from eq_false (by omega),show((65535:Int)<(e.1:Int))=False from eq_false (by omega),hP,r3.eq,show((0:Int)≤-1)=False from eq_false (by omega),hx,S3.len,r4.eq,↓reduceIte,Nat.reduceEqDiff,Nat.reduceAdd,Nat.reduceLeDiff,List.getElem?_cons_succ,List.getElem?_cons_zero,wA,wB,wC,wD]
 ·rw[hi] at r3
  have r3:Ran Tryz.prog tb a2e [.ptr A.o 0,.ptr tt 0,.agg j9,iv 3,tv e.2] m2 (.tuple [.ptr n 0,iv (k:Nat),iv 0]) m3:=r3
  refine WpF.go d9L ?_
  simp-implicitDefEqProofs only[e07,a96,a9V,a9s,a9B,a90,a8N,a8K,a8g,c5G,a8m,e1,r2.eq,show((e.1:Int)<1)=False from eq_false (by omega),show((65535:Int)<(e.1:Int))=False from eq_false (by omega),hP,r3.eq,show((k:Int)<0)=False from eq_false (by omega),r4.eq,↓reduceIte,Nat.reduceEqDiff,Nat.reduceAdd,Nat.reduceLeDiff,List.getElem?_cons_succ,List.getElem?_cons_zero,wA,wB,wC,wD]
theorem e9s(hw:Wf m)(h:GAt m A S own)(ht:TAt m tt aa A.g)(hD:DS S X D)(he:EOk e)(hc:o9 S≤51)(hi:ixD D e.2=none)(hl:D.length≤30):
  ∃m' own' T Y,DS T Y (D++ [e])∧o9 T≤o9 S+1∧Step m m' A T own own'∧Ran Tryz.prog tb a2g [.ptr A.o 0,.ptr tt 0,.agg j9,iv 3,tv e.2,ivn e.1] m (iv 0) m':=by
 obtain⟨m1,e1,a1,k1,n1⟩:=l8 hw x9 12 j9
 have hP:m1.rdN m.next 0 12=some j9:=a1.rdN (by show 0+12≤12;omega)
 obtain⟨m2,own',T,Y,hW,hcn,st,r2⟩:=e73 k1.wf (h.k0 hw k1) (ht.k0 hw k1) hD he true hc (.inl ⟨rfl,hi,rfl,hl⟩)
 refine⟨m2,own',T,Y,hD.add hW he hl,hcn,Step.ft k1 st,?_⟩
 refine WpF.go f2M ?_
 simp-implicitDefEqProofs only[f5e,c8b,d7c,e1,hP,r2.eq,↓reduceIte,Nat.reduceEqDiff,Nat.reduceAdd,wA,wB,wC,wD]
end
structure Ls(m:M)(D:List (Nat×Bs))(c:Nat):Prop where
 wf:Wf m
 pl:At m 1 x9 true j9
 ex:∃own S X,GAt m A2 S own∧TAt m 181 179 A2.g∧DS S X D∧o9 S≤c
section
variable {m m':M} {D:List (Nat×Bs)} {c k:Nat} {e:Nat×Bs} {s:Bs}
theorem Ls.keep(h:Ls m D c)(kk:Keep m m' fun _=>False):Ls m' D c:=by
 obtain⟨own,S,X,h1,h2,h3,h4⟩:=h.ex
 exact⟨kk.wf,h.pl.keep h.wf kk id,own,S,X,h1.k0 h.wf kk,h2.k0 h.wf kk,h3,h4⟩
theorem Ls.ins(h:Ls m D c)(he:EOk e)(hc:c≤51)(hi:ixD D e.2=none)(hl:D.length≤30):∃m',Ls m' (D++ [e]) (c+1)∧B6 m m' [] A2.ms∧Ran Tryz.prog tb a2g [.ptr 185 0,.ptr 181 0,.agg j9,iv 3,tv e.2,ivn e.1] m (iv 0) m':=by
 obtain⟨own,S,X,h1,h2,h3,h4⟩:=h.ex
 obtain⟨m',own',T,Y,hD,hcn,st,r⟩:=e9s h.wf h1 h2 h3 he (by omega) hi hl
 exact⟨m',⟨st.kp.wf,h.pl.kp h.wf st.kp,own',T,Y,st.at',h2.kp h.wf st.kp,hD,by omega⟩,st.kp,r⟩
end
end Go.Proofs.YtooooiidpaecmaaGreatDoor
set_option linter.unusedVariables false
set_option linter.unusedSimpArgs false
/- Names in order; what a sort by insertion leaves. -/
namespace Go.Am
open Go Go.RowKit
theorem a3h(a b:UInt8)(l k:List UInt8):v7 (a::l) (b::k)=(decide (a.toNat<b.toNat)||(decide (a.toNat=b.toNat)&&v7 l k)):=by
 show(Nat.ble (Nat.succ a.toNat) b.toNat||(Nat.beq a.toNat b.toNat&&v7 l k))=_
 rw[v8,y4];rfl
theorem b7c:∀a:List UInt8,v7 a a=false
 | [] =>rfl
 |a::l=>by
  rw[a3h,b7c l,Bool.and_false,Bool.or_false,decide_eq_false (by omega)]
theorem a8f:∀{a b c:List UInt8},v7 a b=true→v7 b c=true→v7 a c=true
 |_,_,[],_,h=>by cases h':(‹_› :List UInt8)<;>simp[v7] at h
 |_,[],_::_,h,_=>by simp[v7] at h
 | [],_::_,_::_,_,_=>rfl
 |a::l,b::k,c::j,h,h'=>by
  rw[a3h] at h h'⊢
  simp only[Bool.or_eq_true,Bool.and_eq_true,decide_eq_true_eq] at h h'⊢
  rcases h with h|⟨h,h2⟩
  ·rcases h' with h'|⟨h',_⟩
   ·exact .inl (by omega)
   ·exact .inl (by omega)
  ·rcases h' with h'|⟨h',h3⟩
   ·exact .inl (by omega)
   ·exact .inr ⟨by omega,a8f h2 h3⟩
theorem a7O:∀{a b:List UInt8},v7 a b=false→v7 b a=false→a=b
 | [],[],_,_=>rfl
 | [],_::_,h,_=>by simp[v7] at h
 |_::_,[],_,h=>by simp[v7] at h
 |a::l,b::k,h,h'=>by
  rw[a3h] at h h'
  simp only[Bool.or_eq_false_iff,Bool.and_eq_false_iff,decide_eq_false_iff_not] at h h'
  have e:a=b:=UInt8.toNat_inj.1 (by omega)
  subst e
  rw[a7O (a:=l) (b:=k) (h.2.resolve_left fun x=>x rfl) (h'.2.resolve_left fun x=>x rfl)]
def nle(a b:List UInt8):Prop:=v7 b a=false
theorem e6H{a b:List UInt8}(h:v7 a b=true):nle a b:=by
 unfold nle
 cases h':v7 b a with
 |false=>rfl
 |true=>have:=a8f h h';rw[b7c] at this;cases this
theorem f2j{a b c:List UInt8}(h:nle a b)(h':nle b c):nle a c:=by
 unfold nle at*
 cases h3:v7 c a with
 |false=>rfl
 |true=>
  cases h4:v7 b c with
  |true=>rw[a8f h4 h3] at h;cases h
  |false=>rw[a7O h4 h'] at h;rw[h] at h3;cases h3
theorem e79{a b:List UInt8}(h:nle a b)(h':nle b a):a=b:=a7O h' h
structure Srt(D D':List (Nat×List UInt8))(a e:Nat):Prop where
 perm:D'.Perm D
 out:∀k,k<a∨e≤k→D'[k]? =D[k]?
 srt:∀p q x y,a≤p→p<q→q<e→D'[p]? =some x→D'[q]? =some y→nle x.2 y.2
theorem Srt.len{D D':List (Nat×List UInt8)}{a e:Nat}(h:Srt D D' a e):D'.length=D.length:=h.perm.length_eq
theorem Srt.none{D:List (Nat×List UInt8)}{a e:Nat}(h:e≤a+1):Srt D D a e:=⟨.refl _,fun _ _=>rfl,fun p q x y h1 h2 h3=>by omega⟩
structure Ins(D D':List (Nat×List UInt8))(a i j:Nat):Prop where
 perm:D'.Perm D
 out:∀k,k<a∨i<k→D'[k]? =D[k]?
 srt:∀p q x y,a≤p→p<q→q≤i→q≠j→D'[p]? =some x→D'[q]? =some y→nle x.2 y.2
theorem Ins.len{D D':List (Nat×List UInt8)}{a i j:Nat}(h:Ins D D' a i j):D'.length=D.length:=h.perm.length_eq
theorem Srt.ins{D D':List (Nat×List UInt8)}{a i:Nat}(h:Srt D D' a i):Ins D D' a i i:=⟨h.perm,fun k hk=>h.out k (by omega),fun p q x y h1 h2 h3 h4=>h.srt p q x y h1 h2 (by omega)⟩
theorem Ins.done0{D D':List (Nat×List UInt8)}{a i:Nat}(h:Ins D D' a i a):Srt D D' a (i+1):=⟨h.perm,fun k hk=>h.out k (by omega),fun p q x y h1 h2 h3=>h.srt p q x y h1 h2 (by omega) (by omega)⟩
theorem Ins.done1{D D':List (Nat×List UInt8)}{a i j:Nat}(h:Ins D D' a i j){x y:Nat×List UInt8}(hx:D'[j-1]? =some x)(hy:D'[j]? =some y)(hl:v7 y.2 x.2=false)(hj:a<j)(hi:j≤i):Srt D D' a (i+1):=
 ⟨h.perm,fun k hk=>h.out k (by omega),fun p q u v h1 h2 h3 hu hv=>by
  by_cases hq:q=j
  ·subst hq
   rw[hy] at hv;cases hv
   by_cases hp:p=q-1
   ·rw[hp,hx] at hu;cases hu;exact hl
   ·exact f2j (h.srt p (q-1) u x h1 (by omega) (by omega) (by omega) hu hx) hl
  ·exact h.srt p q u v h1 h2 (by omega) hq hu hv⟩
theorem Ins.swap{D D':List (Nat×List UInt8)}{a i j:Nat}(h:Ins D D' a i j){x y:Nat×List UInt8}(hx:D'[j-1]? =some x)(hy:D'[j]? =some y)(hl:v7 y.2 x.2=true)(hj:a<j)(hi:j≤i):Ins D ((D'.set j x).set (j-1) y) a i (j-1):=by
 obtain⟨hjl,ey⟩:=List.getElem?_eq_some_iff.1 hy
 obtain⟨hxl,ex⟩:=List.getElem?_eq_some_iff.1 hx
 have g:∀k,((D'.set j x).set (j-1) y)[k]? =if k=j-1 then some y else if k=j then some x else D'[k]? :=fun k=>by
  rw[List.getElem?_set]
  by_cases h1:j-1=k
  ·rw[if_pos h1,if_pos (by rw[List.length_set];omega),if_pos h1.symm]
  ·rw[if_neg h1,if_neg fun e=>h1 e.symm,List.getElem?_set]
   by_cases h2:j=k
   ·rw[if_pos h2,if_pos hjl,if_pos h2.symm]
   ·rw[if_neg h2,if_neg fun e=>h2 e.symm]
 refine⟨?_,fun k hk=> ?_,fun p q u v h1 h2 h3 h4 hu hv=> ?_⟩
 ·have:=List.set_set_perm hjl hxl
  rw[ey,ex] at this
  have h2:=List.set_set_perm hxl hjl
  rw[ey,ex] at h2
  refine List.Perm.trans ?_ h.perm
  first|exact this|exact h2
 ·rw[g,if_neg (by omega),if_neg (by omega)];exact h.out k hk
 ·rw[g,if_neg (by omega)] at hv
  rw[g] at hu
  by_cases hq:q=j
  ·rw[if_pos hq] at hv;cases hv
   by_cases hp:p=j-1
   ·rw[if_pos hp] at hu;cases hu;exact e6H hl
   ·rw[if_neg hp,if_neg (by omega)] at hu
    exact h.srt p (j-1) u x h1 (by omega) (by omega) (by omega) hu hx
  ·rw[if_neg hq] at hv
   by_cases hp:p=j-1
   ·rw[if_pos hp] at hu;cases hu
    exact h.srt j q y v (by omega) (by omega) h3 hq hy hv
   ·rw[if_neg hp] at hu
    by_cases hp2:p=j
    ·rw[if_pos hp2] at hu;cases hu
     exact h.srt (j-1) q x v (by omega) (by omega) h3 hq hx hv
    ·rw[if_neg hp2] at hu
     exact h.srt p q u v h1 h2 h3 hq hu hv
theorem Srt.same{D D':List (Nat×List UInt8)}{e:Nat}(h:Srt D D' 0 e)(he:D.length≤e)(hD:∀(p q:Nat) (x y:Nat×List UInt8),p<q→D[p]? =some x→D[q]? =some y→nle x.2 y.2)(hn:∀x∈D,∀y∈D,x.2=y.2→x=y):D'=D:=by
 have pw:∀L:List (Nat×List UInt8),(∀(p q:Nat) (x y:Nat×List UInt8),p<q→L[p]? =some x→L[q]? =some y→nle x.2 y.2)→L.Pairwise (fun x y:Nat×List UInt8=>nle x.2 y.2):=fun L hL=>by
  rw[List.pairwise_iff_getElem]
  intro i j hi hj hij
  exact hL i j _ _ hij (List.getElem?_eq_getElem hi) (List.getElem?_eq_getElem hj)
 refine List.Perm.eq_of_pairwise (le:=fun x y:Nat×List UInt8=>nle x.2 y.2) (fun x y hx hy h1 h2=>hn x (h.perm.mem_iff.1 hx) y hy (e79 h1 h2)) (pw D' fun p q x y hpq hx hy=>h.srt p q x y (Nat.zero_le _) hpq ?_ hx hy) (pw D hD) h.perm
 have:=(List.getElem?_eq_some_iff.1 hy).1
 rw[h.len] at this
 omega
theorem b0n{P:Program}(t:TypeId)(a b:List UInt8):d8 P .lss t (tv a) (tv b)=some (.b (v7 a b)):=by rw[a3s];rfl
theorem e0u{P:Program}(t:TypeId)(a b:List UInt8):d8 P .gtr t (tv a) (tv b)=some (.b (!(v7 a b||decide (a=b)))):=by
 rw[a3s]
 show some (AV.b (!(v7 a b||E1 a b)))=_
 rw[a0o]
end Go.Am
namespace Go.Proofs.YtooooiidpaecmaaGreatDoor
open Go Go.Am
theorem b5j:∀{D:List (Nat×Bs)} {k:Nat} (e:Nat×Bs) (J:List AV),k<D.length→u9 (y9 D++J) (k*2) [ivn e.1,tv e.2] =y9 (D.set k e)++J
 |_::_,0,_,_,_=>rfl
 |x::D,k+1,e,J,h=>by
  have ih:=b5j (D:=D) (k:=k) e J (by simpa using h)
  rw[show(k+1)*2=k*2+1+1 by omega]
  show u9 (ivn x.1::tv x.2::(y9 D++J)) (k*2+1+1) [ivn e.1,tv e.2] =ivn x.1::tv x.2::(y9 (D.set k e)++J)
  rw[←ih]
  unfold u9
  rw[List.take_succ_cons,List.take_succ_cons,show k*2+1+1+ [ivn e.1,tv e.2].length=k*2+ [ivn e.1,tv e.2].length+1+1 by omega,List.drop_succ_cons,List.drop_succ_cons]
  rfl
structure DRw(m:M)(b cap:Nat)(D:List (Nat×Bs)):Prop where
 ex:∃xt J,At m b o7 xt (y9 D++J)∧J.length=(cap-D.length)*2
 le:D.length≤cap
 pos:0<cap
section
variable {m m':M} {x:AV} {ob:Option Nat} {D D':List (Nat×Bs)} {e u v:Nat×Bs} {k b cap a n:Nat}
theorem DRw.sl(h:DRw m b cap D):SlAt m o7 2 (.slice b 0 D.length cap false) D.length (y9 D) (some b):=by
 obtain⟨xt,J,h1,h2⟩:=h.ex
 exact .row h1 (by rw[a3c];omega) h2 h.le h.pos
theorem DRw.keep{F:Nat→Prop}(h:DRw m b cap D)(hw:Wf m)(k:Keep m m' F)(hb:¬F b):DRw m' b cap D:=by
 obtain⟨xt,J,h1,h2⟩:=h.ex
 exact⟨⟨xt,J,h1.keep hw k hb,h2⟩,h.le,h.pos⟩
theorem DRw.rd(h:DRw m b cap D)(hk:D[k]? =some e):m.rdN b (k*2) 2=some [ivn e.1,tv e.2]∧m.rd b (k*2)=some (ivn e.1):=by
 obtain⟨b',cap',e1,h1,h2⟩:=a8R h.sl hk
 cases e1
 exact⟨h1,h2⟩
theorem DRw.st(h:DRw m b cap D)(hw:Wf m)(hk:k<D.length)(e:Nat×Bs):∃m',m.wr b (k*2) [ivn e.1,tv e.2] =some m'∧DRw m' b cap (D.set k e)∧Keep m m' (fun x=>x=b):=by
 obtain⟨xt,J,h1,h2⟩:=h.ex
 obtain⟨m',e1,a1,k1,_⟩:=h1.st hw (k*2) [ivn e.1,tv e.2] (b5j e J hk) (by rw[List.length_append,a3c];show k*2+2≤_;omega)
 exact⟨m',e1,⟨⟨xt,J,a1,by rw[List.length_set];exact h2⟩,by rw[List.length_set];exact h.le,h.pos⟩,k1⟩
theorem a1E(s:Bs):Ran Tryz.prog tb a4Z [tv s] m (.b false) m:=by
 refine WpF.go f3y ?_
 simp-implicitDefEqProofs only[f4N,c92,c7v,eq_self,↓reduceIte,Nat.reduceEqDiff,wA,wB,wC,wD]
theorem e9K(s t:Bs):∃c:Int,(c<0↔v7 s t=true)∧Ran Tryz.prog tb b0M [tv s,tv t] m (iv c) m:=by
 by_cases h1:v7 s t=true
 ·refine⟨-1,⟨fun _=>h1,fun _=>by omega⟩,?_⟩
  refine WpF.go b0r ?_
  simp-implicitDefEqProofs only[b1g,a4f,a4F,a31,a3V,a4j,a30,c0r,(a1E s).eq,(a1E t).eq,b0n,h1,↓reduceIte,Nat.reduceEqDiff,Nat.reduceAdd,wA,wB,wC,wD]
 ·have h1:v7 s t=false:=by simpa using h1
  by_cases h2:s=t
  ·refine⟨0,⟨fun h=>by omega,fun h=>by rw[h1] at h;cases h⟩,?_⟩
   subst h2
   refine WpF.go b0r ?_
   simp-implicitDefEqProofs only[b1g,a4f,a4F,a31,a3V,a4j,a30,a7Z,c2s,(a1E s).eq,b0n,e0u,h1,eq_self,↓reduceIte,Nat.reduceEqDiff,Nat.reduceAdd,wA,wB,wC,wD]
  ·refine⟨1,⟨fun h=>by omega,fun h=>by rw[h1] at h;cases h⟩,?_⟩
   refine WpF.go b0r ?_
   simp-implicitDefEqProofs only[b1g,a4f,a4F,a31,a3V,a4j,a30,a7Z,c3l,(a1E s).eq,(a1E t).eq,b0n,e0u,h1,eq_false h2,↓reduceIte,Nat.reduceEqDiff,Nat.reduceAdd,wA,wB,wC,wD]
theorem e66(hw:Wf m)(u v:Nat×Bs):∃m' c,(c<0↔v7 u.2 v.2=true)∧Keep m m' (fun _=>False)∧Ran Tryz.prog tb C3 [.agg [ivn u.1,tv u.2],.agg [ivn v.1,tv v.2]] m (iv c) m':=by
 obtain⟨m1,e1,a1,k1,n1⟩:=l8 hw o7 2 [ivn u.1,tv u.2]
 obtain⟨m2,e2,a2,k2,n2⟩:=l8 k1.wf o7 2 [ivn v.1,tv v.2]
 obtain⟨c,hc,r⟩:=e9K (m:=m2) u.2 v.2
 have a1:=a1.keep k1.wf k2 id
 refine⟨m2,c,hc,k1.tf k2,?_⟩
 refine WpF.go f2D ?_
 simp-implicitDefEqProofs only[f4A,d2L,d53,e1,e2,a1.rd,a2.rd,r.eq,↓reduceIte,Nat.reduceEqDiff,Nat.reduceAdd,List.getElem?_cons_succ,List.getElem?_cons_zero,wA,wB,wC,wD]
set_option maxRecDepth 20000 in
set_option maxHeartbeats 1000000 in
theorem a7r{e:Nat}(hw:Wf m)(h:DRw m b cap D)(hae:a≤e)(he:e≤D.length)(hl:D.length≤1000):
  ∃m' D',DRw m' b cap D'∧Keep m m' (fun x=>x=b)∧Srt D D' a e∧Ran Tryz.prog tb P2 [.slice b 0 D.length cap false,iv a,iv e,.func C3 []] m (.tuple []) m':=by
 have key:WpF Tryz.prog tb P2 [.slice b 0 D.length cap false,iv a,iv e,.func C3 []] m fun v m'=>v= .tuple []∧∃D',DRw m' b cap D'∧Keep m m' (fun x=>x=b)∧Srt D D' a e:=by
  refine WpF.go d9X ?_
  simp-implicitDefEqProofs only[V8,a8U,aD (a:Int) 1,↓reduceIte,Nat.reduceEqDiff,Nat.reduceAdd,wA,wB,wC,wD]
  refine A5 (fun j fr mk=>∃i,a+1≤i∧j=e-i∧(ev (tm 0) fr= .slice b 0 D.length cap false∧ev (tm 1) fr=iv a∧ev (tm 2) fr=iv e∧ev (tm 3) fr= .func C3 []∧ev (tm 8) fr=iv (i:Nat))∧∃D',DRw mk b cap D'∧Keep m mk (fun x=>x=b)∧Srt D D' a i∧(i≤e∨(i=a+1∧D'=D))) (k:=e-(a+1))
   ⟨a+1,Nat.le_refl _,rfl,by simp-implicitDefEqProofs only[show(a:Int)+1=((a+1:Nat):Int) from rfl,d6,↓reduceIte,Nat.reduceEqDiff,and_self],D,h,Keep.refl hw _,.none (Nat.le_refl _),.inr ⟨rfl,rfl⟩⟩ ?_
  rintro j fr mk ⟨i,hi,rfl,⟨f0,f1,f2,f3,f8⟩,D',hR,kk,hS,hor⟩
  by_cases hlt:i<e
  ·have hlen:=hS.len
   simp-implicitDefEqProofs only[V8,a3O,d5E,f2,f8,show((i:Int)<(e:Int))=True from eq_true (by omega),↓reduceIte,Nat.reduceEqDiff,wA,wB,wC,wD]
   refine A5 (fun j' fr mk=>∃j,a≤j∧j≤i∧j'=j∧(ev (tm 0) fr= .slice b 0 D.length cap false∧ev (tm 1) fr=iv a∧ev (tm 2) fr=iv e∧ev (tm 3) fr= .func C3 []∧ev (tm 8) fr=iv (i:Nat)∧ev (tm 9) fr=iv (j:Nat))∧∃D',DRw mk b cap D'∧Keep m mk (fun x=>x=b)∧Ins D D' a i j) (k:=i)
    ⟨i,by omega,Nat.le_refl _,rfl,by simp-implicitDefEqProofs only[f0,f1,f2,f3,f8,d6,↓reduceIte,Nat.reduceEqDiff,and_self],D',hR,kk,hS.ins⟩ ?_
   clear f0 f1 f2 f3 f8 hR kk hS hor hlen
   rintro j' fr mk ⟨j,haj,hji,rfl,⟨f0,f1,f2,f3,f8,f9⟩,D',hR,kk,hS⟩
   have hlen:=hS.len
   by_cases hja:a<j'
   ·obtain⟨y,hy⟩:∃y,D'[j']? =some y:=⟨_,List.getElem?_eq_getElem (by omega)⟩
    obtain⟨x,hx⟩:∃x,D'[j'-1]? =some x:=⟨_,List.getElem?_eq_getElem (by omega)⟩
    obtain⟨m1,c,hc,k1,r1⟩:=e66 kk.wf y x
    have hR1:=hR.keep kk.wf k1 id
    have hj1:(j':Int)-1=((j'-1:Nat):Int):=by omega
    have q1:=B5 (m:=mk) 2 b 0 D.length cap false (show j'<D.length by omega)
    have q2:=B5 (m:=mk) 2 b 0 D.length cap false (show j'-1<D.length by omega)
    have q3:=B5 (m:=m1) 2 b 0 D.length cap false (show j'<D.length by omega)
    have q4:=B5 (m:=m1) 2 b 0 D.length cap false (show j'-1<D.length by omega)
    rw[Nat.zero_add] at q1 q2 q3 q4
    cases hcmp:v7 y.2 x.2 with
    |false=>
     have hc0:¬c<0:=fun h=>by rw[hc.1 h] at hcmp;cases hcmp
     simp-implicitDefEqProofs only[V8,a4x,a8z,f0,f1,f3,f8,f9,show((a:Int)<(j':Int))=True from eq_true (by omega),sB (j':Int) 1,hj1,q1,q2,(hR.rd hy).1,(hR.rd hx).1,r1.eq,eq_false hc0,a8M,aD (i:Int) 1,↓reduceIte,Nat.reduceEqDiff,List.getElem?_cons_succ,List.getElem?_cons_zero,exists_eq_left',wA,wB,wC,wD]
     exact C6 (k':=e-(i+1)) (by omega) ⟨i+1,by omega,rfl,by simp-implicitDefEqProofs only[f0,f1,f2,f3,show(i:Int)+1=((i+1:Nat):Int) from rfl,d6,↓reduceIte,Nat.reduceEqDiff,and_self],D',hR1,kk.tf k1,hS.done1 hx hy hcmp hja hji,.inl (by omega)⟩
    |true=>
     have hc0:=hc.2 hcmp
     obtain⟨m2,e2,hR2,k2⟩:=hR1.st k1.wf (show j'<D'.length by omega) x
     obtain⟨m3,e3,hR3,k3⟩:=hR2.st k2.wf (show j'-1<(D'.set j' x).length by rw[List.length_set];omega) y
     have q5:=B5 (m:=m2) 2 b 0 D.length cap false (show j'-1<D.length by omega)
     rw[Nat.zero_add] at q5
     simp-implicitDefEqProofs only[V8,a4x,d3s,d5V,f0,f1,f3,f9,show((a:Int)<(j':Int))=True from eq_true (by omega),sB (j':Int) 1,hj1,q1,q2,q3,q4,q5,(hR.rd hy).1,(hR.rd hx).1,(hR1.rd hy).1,(hR1.rd hx).1,r1.eq,eq_true hc0,a8M,e2,e3,↓reduceIte,Nat.reduceEqDiff,Nat.reduceAdd,List.getElem?_cons_succ,List.getElem?_cons_zero,exists_eq_left',wA,wB,wC,wD]
     exact C6 (k':=j'-1) (by omega) ⟨j'-1,by omega,by omega,rfl,by simp-implicitDefEqProofs only[f0,f1,f2,f3,f8,d6,↓reduceIte,Nat.reduceEqDiff,and_self],_,hR3,((kk.tf k1).trans k2 fun _ _ h=>h).trans k3 fun _ _ h=>h,hS.swap hx hy hcmp hja hji⟩
   ·obtain rfl:a=j':=by omega
    simp-implicitDefEqProofs only[V8,a4x,a8z,f1,f8,f9,aD (i:Int) 1,↓reduceIte,Nat.reduceEqDiff,List.getElem?_cons_succ,List.getElem?_cons_zero,exists_eq_left',wA,wB,wC,wD]
    exact C6 (k':=e-(i+1)) (by omega) ⟨i+1,by omega,rfl,by simp-implicitDefEqProofs only[f0,f1,f2,f3,show(i:Int)+1=((i+1:Nat):Int) from rfl,d6,↓reduceIte,Nat.reduceEqDiff,and_self],D',hR,kk,hS.done0,.inl (by omega)⟩
  ·simp-implicitDefEqProofs only[V8,a3O,f2,f8,show((i:Int)<(e:Int))=False from eq_false (by omega),↓reduceIte,Nat.reduceEqDiff,wA,wB,wC,wD]
   refine⟨D',hR,kk,?_⟩
   rcases hor with h1|⟨h1,rfl⟩
   ·obtain rfl:i=e:=by omega
    exact hS
   ·exact .none (by omega)
 obtain⟨v,m',⟨rfl,D',h1,h2,h3⟩,r⟩:=key.ran
 exact⟨m',D',h1,h2,h3,r⟩
end
section
variable {m m':M} {A:Ad} {S:PS} {own:Nat→Prop} {X:Nat→Ino} {tt aa:Nat} {x:AV} {ob:Option Nat} {D D':List (Nat×Bs)} {b cap a n:Nat}
theorem e5J(hw:Wf m)(h:DRw m b cap D)(hl:D.length≤20):
  ∃m' D',DRw m' b cap D'∧Keep m m' (fun x=>x=b)∧Srt D D' 0 D.length∧Ran Tryz.prog tb Z4 [.slice b 0 D.length cap false,iv D.length,.func C3 []] m (.tuple []) m':=by
 by_cases h20:D.length=20
 ·obtain⟨m1,D1,hR1,k1,S1,r1⟩:=a7r (e:=20) (a:=0) hw h (by omega) (by omega) (by omega)
  have hl1:=S1.len
  obtain⟨m2,D2,hR2,k2,S2,r2⟩:=a7r (e:=20) (a:=20) k1.wf hR1 (by omega) (by omega) (by omega)
  have e2:D2=D1:=List.ext_getElem? fun k=>S2.out k (by omega)
  subst e2
  rw[hl1] at r2
  rw[h20] at r1 r2⊢
  refine⟨m2,D2,hR2,k1.trans k2 fun _ _ h=>h,S1,?_⟩
  have r1:Ran Tryz.prog tb P2 [.slice b 0 20 cap false,iv 0,iv 20,.func C3 []] m (.tuple []) m1:=r1
  have r2:Ran Tryz.prog tb P2 [.slice b 0 20 cap false,iv 20,iv 20,.func C3 []] m1 (.tuple []) m2:=r2
  have key:WpF Tryz.prog tb Z4 [.slice b 0 20 cap false,iv 20,.func C3 []] m fun v m'=>v= .tuple []∧m'=m2:=by
   refine WpF.go b0R ?_
   simp-implicitDefEqProofs only[N0,a4G,a4E,↓reduceIte,Nat.reduceEqDiff,Nat.reduceAdd,wA,wB,wC,wD]
   refine A5 (fun j fr mk=>j=1∧(ev (tm 0) fr= .slice b 0 20 cap false∧ev (tm 1) fr=iv 20∧ev (tm 2) fr= .func C3 []∧ev (tm 6) fr=iv 20∧ev (tm 7) fr=iv 0∧ev (tm 8) fr=iv 20)∧mk=m∨j=0∧(ev (tm 0) fr= .slice b 0 20 cap false∧ev (tm 1) fr=iv 20∧ev (tm 2) fr= .func C3 []∧ev (tm 6) fr=iv 20∧ev (tm 7) fr=iv 20∧ev (tm 8) fr=iv 40)∧mk=m1) (k:=1) (.inl ⟨rfl,by simp-implicitDefEqProofs only[d6,↓reduceIte,Nat.reduceEqDiff,and_self],rfl⟩) ?_
   rintro j fr mk (⟨rfl,⟨f0,f1,f2,f6,f7,f8⟩,rfl⟩|⟨rfl,⟨f0,f1,f2,f6,f7,f8⟩,rfl⟩)
   ·simp-implicitDefEqProofs only[N0,a1N,d1E,d5F,d7g,f0,f1,f2,f6,f7,f8,r1.eq,aD (20:Int) 20,↓reduceIte,Nat.reduceEqDiff,wA,wB,wC,wD]
    exact C6 (k':=0) (by omega) (.inr ⟨rfl,by simp-implicitDefEqProofs only[f0,f1,f2,f6,show(20:Int)+20=40 from rfl,d6,↓reduceIte,Nat.reduceEqDiff,and_self],rfl⟩)
   ·simp-implicitDefEqProofs only[N0,a1N,a4e,f0,f1,f2,f7,f8,show((40:Int)≤20)=False from eq_false (by omega),r2.eq,↓reduceIte,Nat.reduceEqDiff,wA,wB,wC,wD]
    refine A5 (fun j fr mk=>(ev (tm 0) fr= .slice b 0 20 cap false∧ev (tm 1) fr=iv 20∧ev (tm 6) fr=iv 20)∧mk=m2) (k:=0) ⟨by simp-implicitDefEqProofs only[f0,f1,f6,d6,↓reduceIte,Nat.reduceEqDiff,and_self],rfl⟩ ?_
    clear f0 f1 f2 f6 f7 f8
    rintro j fr mk ⟨⟨f0,f1,f6⟩,rfl⟩
    simp-implicitDefEqProofs only[N0,a4M,f1,f6,↓reduceIte,Nat.reduceEqDiff,wA,wB,wC,wD]
  exact key
 ·obtain⟨m1,D1,hR1,k1,S1,r1⟩:=a7r (e:=D.length) (a:=0) hw h (by omega) (by omega) (by omega)
  have r1:Ran Tryz.prog tb P2 [.slice b 0 D.length cap false,iv 0,iv D.length,.func C3 []] m (.tuple []) m1:=r1
  refine⟨m1,D1,hR1,k1,S1,?_⟩
  have key:WpF Tryz.prog tb Z4 [.slice b 0 D.length cap false,iv D.length,.func C3 []] m fun v m'=>v= .tuple []∧m'=m1:=by
   refine WpF.go b0R ?_
   simp-implicitDefEqProofs only[N0,a4G,a4E,↓reduceIte,Nat.reduceEqDiff,Nat.reduceAdd,wA,wB,wC,wD]
   refine A5 (fun j fr mk=>(ev (tm 0) fr= .slice b 0 D.length cap false∧ev (tm 1) fr=iv D.length∧ev (tm 2) fr= .func C3 []∧ev (tm 6) fr=iv 20∧ev (tm 7) fr=iv 0∧ev (tm 8) fr=iv 20)∧mk=m) (k:=0) ⟨by simp-implicitDefEqProofs only[d6,↓reduceIte,Nat.reduceEqDiff,and_self],rfl⟩ ?_
   rintro j fr mk ⟨⟨f0,f1,f2,f6,f7,f8⟩,rfl⟩
   simp-implicitDefEqProofs only[N0,a1N,a4e,f0,f1,f2,f7,f8,show((20:Int)≤(D.length:Int))=False from eq_false (by omega),r1.eq,↓reduceIte,Nat.reduceEqDiff,wA,wB,wC,wD]
   refine A5 (fun j fr mk=>(ev (tm 0) fr= .slice b 0 D.length cap false∧ev (tm 1) fr=iv D.length∧ev (tm 6) fr=iv 20)∧mk=m1) (k:=0) ⟨by simp-implicitDefEqProofs only[f0,f1,f6,d6,↓reduceIte,Nat.reduceEqDiff,and_self],rfl⟩ ?_
   clear f0 f1 f2 f6 f7 f8
   rintro j fr mk ⟨⟨f0,f1,f6⟩,rfl⟩
   simp-implicitDefEqProofs only[N0,a4M,f1,f6,show((20:Int)<(D.length:Int))=False from eq_false (by omega),↓reduceIte,Nat.reduceEqDiff,wA,wB,wC,wD]
  exact key
theorem SlAt.drw(h:SlAt m o7 2 x D.length (y9 D) ob):(x=i7∧D= []∧ob=none)∨∃b cap,x= .slice b 0 D.length cap false∧ob=some b∧DRw m b cap D:=by
 generalize hc:y9 D=cs at h
 generalize hn:D.length=n at h
 cases h with
 |nil=>exact .inl ⟨rfl,List.length_eq_zero_iff.1 hn,rfl⟩
 |row h h1 h2 h3 h4=>
  subst hc hn
  exact .inr ⟨_,_,rfl,rfl,⟨_,_,h,h2⟩,h3,h4⟩
theorem e5T(hw:Wf m)(h:SlAt m o7 2 x D.length (y9 D) ob)(hl:D.length≤20):
  ∃m' D',SlAt m' o7 2 x D.length (y9 D') ob∧Keep m m' (fun b=>ob=some b)∧Srt D D' 0 D.length∧Ran Tryz.prog tb b0h [x,.func C3 []] m (.tuple []) m':=by
 rcases SlAt.drw h with⟨rfl,rfl,rfl⟩|⟨b,cap,rfl,rfl,hR⟩
 ·have key:WpF Tryz.prog tb Z4 [i7,iv 0,.func C3 []] m fun v m'=>v= .tuple []∧m'=m:=by
   have i0:Ran Tryz.prog tb P2 [i7,iv 0,iv 0,.func C3 []] m (.tuple []) m:=by
    show WpF _ _ _ _ _ _
    refine WpF.go d9X ?_
    simp-implicitDefEqProofs only[V8,a8U,aD (0:Int) 1,↓reduceIte,Nat.reduceEqDiff,Nat.reduceAdd,wA,wB,wC,wD]
    refine A5 (fun j fr mk=>(ev (tm 2) fr=iv 0∧ev (tm 8) fr=iv 1)∧mk=m) (k:=0) ⟨by simp-implicitDefEqProofs only[show(0:Int)+1=1 from rfl,d6,↓reduceIte,Nat.reduceEqDiff,and_self],rfl⟩ ?_
    rintro j fr mk ⟨⟨f2,f8⟩,rfl⟩
    simp-implicitDefEqProofs only[V8,a3O,f2,f8,show((1:Int)<0)=False from eq_false (by omega),↓reduceIte,Nat.reduceEqDiff,wA,wB,wC,wD]
   refine WpF.go b0R ?_
   simp-implicitDefEqProofs only[N0,a4G,a4E,↓reduceIte,Nat.reduceEqDiff,Nat.reduceAdd,wA,wB,wC,wD]
   refine A5 (fun j fr mk=>(ev (tm 0) fr=i7∧ev (tm 1) fr=iv 0∧ev (tm 2) fr= .func C3 []∧ev (tm 6) fr=iv 20∧ev (tm 7) fr=iv 0∧ev (tm 8) fr=iv 20)∧mk=m) (k:=0) ⟨by simp-implicitDefEqProofs only[d6,↓reduceIte,Nat.reduceEqDiff,and_self],rfl⟩ ?_
   rintro j fr mk ⟨⟨f0,f1,f2,f6,f7,f8⟩,rfl⟩
   simp-implicitDefEqProofs only[N0,a1N,a4e,f0,f1,f2,f7,f8,show((20:Int)≤0)=False from eq_false (by omega),i0.eq,↓reduceIte,Nat.reduceEqDiff,wA,wB,wC,wD]
   refine A5 (fun j fr mk'=>(ev (tm 1) fr=iv 0∧ev (tm 6) fr=iv 20)∧mk'=mk) (k:=0) ⟨by simp-implicitDefEqProofs only[f1,f6,d6,↓reduceIte,Nat.reduceEqDiff,and_self],rfl⟩ ?_
   clear f0 f1 f2 f6 f7 f8
   rintro j fr mk' ⟨⟨f1,f6⟩,rfl⟩
   simp-implicitDefEqProofs only[N0,a4M,f1,f6,show((20:Int)<0)=False from eq_false (by omega),↓reduceIte,Nat.reduceEqDiff,wA,wB,wC,wD]
  have key:Ran Tryz.prog tb Z4 [i7,iv 0,.func C3 []] m (.tuple []) m:=key
  refine⟨m,[],h,Keep.refl hw _,.none (by simp),?_⟩
  refine WpF.go e0b ?_
  simp-implicitDefEqProofs only[e2k,a9I,key.eq,↓reduceIte,Nat.reduceEqDiff,Nat.reduceAdd,wA,wB,wC,wD]
 ·obtain⟨m1,D1,hR1,k1,S1,r1⟩:=e5J hw hR hl
  refine⟨m1,D1,?_,k1.mono fun _ _ e=>by rw[e],S1,?_⟩
  ·have:=hR1.sl
   rw[S1.len] at this
   exact this
  refine WpF.go e0b ?_
  simp-implicitDefEqProofs only[e2k,a9I,r1.eq,↓reduceIte,Nat.reduceEqDiff,Nat.reduceAdd,wA,wB,wC,wD]
theorem e6J(hw:Wf m)(h:GAt m A S own)(ht:TAt m tt aa A.g)(hD:DS S X D)(hl:D.length≤20):
  ∃m' x ob D',SlAt m' o7 2 x D.length (y9 D') ob∧Srt D D' 0 D.length∧Keep m m' (fun _=>False)∧(∀b,ob=some b→m.next≤b)∧
   Ran Tryz.prog tb a0R [.ptr A.o 0,.ptr tt 0,.agg j9,iv 3] m (.tuple [x,iv 0]) m':=by
 obtain⟨m1,e1,a1,k1,n1⟩:=l8 hw x9 12 j9
 obtain⟨m2,n,x,ob,k2,hn,N2,S2,o2,r2⟩:=b5L k1.wf (h.k0 hw k1) (ht.k0 hw k1) hD.fs hD.dir (by omega)
 obtain⟨m3,D',S3,k3,hS,r3⟩:=e5T k2.wf S2 hl
 have hP:m1.rdN m.next 0 12=some j9:=a1.rdN (by show 0+12≤12;omega)
 have hx:m2.rd n 15=some x:=by rw[N2.rd];rfl
 have hnb:¬ob=some n:=fun e=>by
  subst e
  exact(N2.kd.ne S2.kd) rfl
 have N3:=N2.keep k2.wf k3 hnb
 have hx3:m3.rd n 15=some x:=by rw[N3.rd];rfl
 refine⟨m3,x,ob,D',S3,hS,(k1.tf k2).trans k3 fun b hb e=>by have:=o2 b e;omega,fun b hb=>by have:=o2 b hb;omega,?_⟩
 refine WpF.go f2L ?_
 simp-implicitDefEqProofs only[f43,d0a,d1d,d37,d87,d5P,e1,hP,r2.eq,hx,r3.eq,hx3,↓reduceIte,Nat.reduceEqDiff,Nat.reduceAdd,List.getElem?_cons_succ,List.getElem?_cons_zero,wA,wB,wC,wD]
end
def E(i:Nat):Nat×Bs:=(i+1,[UInt8.ofNat (97+i)])
theorem E_c{i:Nat}(h:i<26):(UInt8.ofNat (97+i)).toNat=97+i:=by rw[UInt8.toNat_ofNat'];omega
theorem f4O{i:Nat}(h:i<26):EOk (E i):=⟨by show 1≤i+1;omega,by show i+1≤65535;omega,by show 1≤1;omega,by show 1≤13;omega,fun c hc=>by
 have:c=UInt8.ofNat (97+i):=by simpa[E] using hc
 rw[this,E_c h];omega⟩
theorem e0r{i j:Nat}(hi:i<26)(hj:j<26)(h:(E i).2=(E j).2):i=j:=by
 have h1:UInt8.ofNat (97+i)=UInt8.ofNat (97+j):=by simpa[E] using h
 have h2:=congrArg UInt8.toNat h1
 rw[E_c hi,E_c hj] at h2
 omega
theorem e7U{D:List (Nat×Bs)}{s:Bs}(h:∀e∈D,e.2≠s):ixD D s=none:=by
 unfold ixD
 rw[List.findIdx?_eq_none_iff]
 intro e he
 simpa using h e he
section
variable {m:M}
theorem wakesD_ran:Ran Tryz.prog tb b4v [] m (.b true) m:=R0 Tryz.func6 rfl
theorem smallD_ran:Ran Tryz.prog tb b4A [] m (.agg j9) m:=R0 Tryz.func7 rfl
theorem f0p(hw:Wf m){i:Nat}(h:i<26):∃m',m.addL j6 1 [.y (97+i)] =m'∧Keep m m' (fun _=>False)∧W4 (.cst (.slice m.next 0 1 1 false)) .leaf m'=some (tv (E i).2,m'):=by
 obtain⟨m1,e1,a1,k1,n1⟩:=l8 hw j6 1 [.y (97+i)]
 refine⟨m1,e1,k1,?_⟩
 have hb:BsAt m1 (.slice m.next 0 [UInt8.ofNat (97+i)].length 1 false) [UInt8.ofNat (97+i)] m.next:= .row a1.r (by show 0+1≤1;omega) (by
  show[AV.y (97+i)] = [AV.y (UInt8.ofNat (97+i)).toNat]
  rw[E_c h])
 exact hb.run_b2s
end
section
theorem e6A(q:Option Blk):∃mz mw m1,(mS q).addZ x9 12 z12=mz∧mz.wr 1 0 j9=some mw∧mw.rdN 1 0 12=some j9∧Keep (mS q) m1 (fun _=>False)∧Ls m1 [] 0∧Ran Tryz.prog tb a6W [.agg j9] mw (.tuple [.ptr 177 0,.ptr 181 0,.ptr 185 0]) m1:=by
 obtain⟨mz,ez,az,kz,nz⟩:=A4 (f2J q) x9 12 z12
 obtain⟨mw,ew,aw,kw,nw⟩:=az.st kz.wf 0 j9
 have e1:(mS q).next=1:=rfl
 rw[e1] at ew aw
 have hm:mQ q=some mw:=by
  unfold mQ
  rw[ez,ew]
 obtain⟨m1,hw1,k01,hpl,hG,hT,r1⟩:=e7i hm
 exact⟨mz,mw,m1,ez,ew,aw.rdN (by show 0+12≤12;omega),k01,⟨hw1,hpl,a5O,S0,X0,hG,hT,⟨fs0,⟨rfl,rfl,rfl,nofun,nofun⟩,fun k hk=>⟨fun _=>Nat.zero_le _,fun _=>nd0 _ _ _⟩,Nat.zero_le _,fun _ k hk=>ps0 3 k⟩,Nat.le_of_eq f46⟩,r1⟩
end
noncomputable def DE(n:Nat):List (Nat×Bs):=(List.range n).map E
theorem M0(n:Nat):(DE n).length=n:=by simp[DE]
theorem d9g{n k:Nat}(h:k<n):(DE n)[k]? =some (E k):=by simp[DE,h]
theorem f3F{n p q:Nat}{x y:Nat×Bs}(hn:n≤26)(h:p<q)(hx:(DE n)[p]? =some x)(hy:(DE n)[q]? =some y):nle x.2 y.2:=by
 have hq:=(List.getElem?_eq_some_iff.1 hy).1
 rw[M0] at hq
 rw[d9g (by omega)] at hx hy
 cases hx;cases hy
 show v7 [UInt8.ofNat (97+q)] [UInt8.ofNat (97+p)] =false
 rw[a3h,E_c (by omega),E_c (by omega),decide_eq_false (by omega),decide_eq_false (by omega)];rfl
section
variable {m m':M} {n c:Nat}
theorem Ls.list(h:Ls m (DE n) c)(hn:n≤20):∃m' x ob,SlAt m' o7 2 x n (y9 (DE n)) ob∧Keep m m' (fun _=>False)∧(∀b,ob=some b→m.next≤b)∧
  Ran Tryz.prog tb a0R [.ptr 185 0,.ptr 181 0,.agg j9,iv 3] m (.tuple [x,iv 0]) m':=by
 obtain⟨own,S,X,h1,h2,h3,h4⟩:=h.ex
 obtain⟨m',x,ob,D',hs,hS,k,ho,r⟩:=e6J h.wf h1 h2 h3 (by rw[M0];exact hn)
 have e:D'=DE n:=hS.same (Nat.le_refl _) (fun p q x y=>f3F (by omega)) fun x hx y hy e=>by
  obtain⟨i,hi,rfl⟩:=List.mem_map.1 hx
  obtain⟨j,hj,rfl⟩:=List.mem_map.1 hy
  rw[e0r (by have:=List.mem_range.1 hi;omega) (by have:=List.mem_range.1 hj;omega) e]
 subst e
 rw[M0] at hs
 exact⟨m',x,ob,hs,k,ho,r⟩
theorem d9z{x:AV}{ob:Option Nat}(h:SlAt m o7 2 x n (y9 (DE n)) ob){k:Nat}(hk:k<n):∃b cap,x= .slice b 0 n cap false∧m.rd b (k*2)=some (iv ((k:Int)+1)):=by
 have h':SlAt m o7 2 x (DE n).length (y9 (DE n)) ob:=by rw[M0];exact h
 obtain⟨b,cap,rfl,_,h2⟩:=a8R h' (d9g hk)
 rw[M0]
 exact⟨b,cap,rfl,h2⟩
set_option maxHeartbeats 2000000 in
set_option maxRecDepth 20000 in
theorem a6X{q:Option Blk}{n:Nat}(h1n:1≤n)(hn:n≤20){fr:Go.Am.Fr}(f0:ev (tm 0) fr=iv n):GX Tryz.prog tb a3L (FK Tryz.prog [.tmp 2] fun v _=>v= .b true) fr (mS q):=by
 obtain⟨mz,mw,m1,ez,ew,hP,k01,h1,r1⟩:=e6A q
 have e1:(mS q).next=1:=rfl
 have hP1:=h1.pl.rdN (show 0+12≤12 by omega)
 have pl:∀{mk:M} {D c},Ls mk D c→mk.rdN 1 0 12=some j9:=fun h=>h.pl.rdN (show 0+12≤12 by omega)
 simp-implicitDefEqProofs only[a0d,d8X,d2m,c76,smallD_ran.eq,ez,e1,ew,hP,r1.eq,↓reduceIte,Nat.reduceEqDiff,Nat.reduceAdd,List.getElem?_cons_succ,List.getElem?_cons_zero,wA,wB,wC,wD]
 refine A5 (fun j fr mk=>∃i,i≤n∧j=n-i∧(ev (tm 0) fr=iv n∧ev (tm 3) fr= .ptr 1 0∧ev (tm 5) fr= .ptr 181 0∧ev (tm 6) fr= .ptr 185 0∧ev (tm 7) fr=iv (i:Nat))∧Ls mk (DE i) i) (k:=n) ⟨0,Nat.zero_le _,rfl,by simp-implicitDefEqProofs only[nc0,f0,d6,↓reduceIte,Nat.reduceEqDiff,nc0,and_self],h1⟩ ?_
 clear f0
 rintro j fr mk ⟨i,hi,rfl,⟨f0,f3,f5,f6,f7⟩,hL⟩
 by_cases hlt:i<n
 ·have hi26:i<26:=by omega
  obtain⟨m2,e2,k2,r2⟩:=f0p hL.wf hi26
  have hne:ixD (DE i) (E i).2=none:=e7U fun e he h=>by
   obtain⟨k,hk,rfl⟩:=List.mem_map.1 he
   have:=List.mem_range.1 hk
   have:=e0r (by omega) hi26 h
   omega
  obtain⟨m3,h3,_,r3⟩:=(hL.keep k2).ins (f4O hi26) (by omega) hne (by rw[M0];omega)
  unfold DE at h3
  rw[←List.map_singleton,←List.map_append,←List.range_succ] at h3
  have r3:Ran Tryz.prog tb a2g [.ptr 185 0,.ptr 181 0,.agg j9,iv 3,tv (E i).2,iv ((i:Int)+1)] m2 (iv 0) m3:=r3
  have hC:(97:Int)+(i:Int)=((97+i:Nat):Int):=by omega
  have hmod:(97+i) % 256=97+i:=by omega
  simp-implicitDefEqProofs only[a0d,a9x,c3r,d5g,f0,f3,f5,f6,f7,show((i:Int)<(n:Int))=True from eq_true (by omega),pl hL,aD (97:Int) (i:Int),hC,a1D,a3y,W3,hmod,e2,r2,aD (i:Int) 1,r3.eq,↓reduceIte,Nat.reduceEqDiff,Nat.reduceLeDiff,wA,wB,wC,wD]
  exact C6 (k':=n-(i+1)) (by omega) ⟨i+1,by omega,rfl,by simp-implicitDefEqProofs only[f0,f3,f5,f6,show(i:Int)+1=((i+1:Nat):Int) from rfl,d6,↓reduceIte,Nat.reduceEqDiff,and_self],h3⟩
 ·obtain rfl:i=n:=by omega
  obtain⟨m2,x2,o2,s2,k2,n2,r2⟩:=hL.list hn
  have hL2:=hL.keep k2
  obtain⟨m3,x3,o3,s3,k3,n3,r3⟩:=hL2.list hn
  have hL3:=hL2.keep k3
  have s23:=s2.keep k2.wf k3 fun _ _=>id
  simp-implicitDefEqProofs only[a0d,a9x,c2r,c4D,b70,c33,f0,f3,f5,f6,f7,show((i:Int)<(i:Int))=False from eq_false (by omega),pl hL,r2.eq,pl hL2,r3.eq,s2.len,s3.len,eq_self,↓reduceIte,Nat.reduceEqDiff,List.getElem?_cons_succ,List.getElem?_cons_zero,wA,wB,wC,wD]
  have s23':SlAt m3 o7 2 x2 (DE i).length (y9 (DE i)) o2:=by rw[M0];exact s23
  rcases SlAt.drw s23' with⟨rfl,hD0,_⟩|⟨b2,cap,rfl,rfl,hR⟩
  ·have:=M0 i
   rw[hD0] at this
   simp at this
   omega
  rw[M0]
  have hb2:=n2 b2 rfl
  have hb2':=s2.blk_lt k2.wf rfl
  have hx3:¬o3=some b2:=fun e=>by have:=n3 b2 e;omega
  refine A5 (fun j fr mk'=>∃k,k≤i∧j=i-k∧(ev (tm 0) fr=iv i∧ev (tm 3) fr= .ptr 1 0∧ev (tm 5) fr= .ptr 181 0∧ev (tm 6) fr= .ptr 185 0∧ev (tm 8) fr= .slice b2 0 i cap false∧ev (tm 10) fr=x3∧ev (tm 12) fr=iv (k:Nat))∧∃D,D.length=i∧DRw mk' b2 cap D∧Keep m3 mk' (fun x=>x=b2)) (k:=i)
   ⟨0,Nat.zero_le _,rfl,by simp-implicitDefEqProofs only[nc0,f0,f3,f5,f6,d6,↓reduceIte,Nat.reduceEqDiff,nc0,and_self],_,M0 i,hR,Keep.refl k3.wf _⟩ ?_
  clear f0 f3 f5 f6 f7
  rintro j fr mk' ⟨k,hk,rfl,⟨f0,f3,f5,f6,f8,f10,f12⟩,D,hDl,hR',kk⟩
  by_cases hlt:k<i
  ·obtain⟨m4,e4,hR4,k4⟩:=hR'.st kk.wf (k:=k) (by omega) (99,[122])
   have e4:mk'.wr b2 (k*2) [iv 99,tv [122]] =some m4:=e4
   have hia:=B5 (m:=mk') 2 b2 0 i cap false hlt
   rw[Nat.zero_add] at hia
   simp-implicitDefEqProofs only[a0d,a71,c5P,c1u,f0,f8,f12,show((k:Int)<(i:Int))=True from eq_true (by omega),hia,e4,aD (k:Int) 1,↓reduceIte,Nat.reduceEqDiff,Nat.reduceAdd,Nat.reduceLeDiff,wA,wB,wC,wD]
   exact C6 (k':=i-(k+1)) (by omega) ⟨k+1,by omega,rfl,by simp-implicitDefEqProofs only[f0,f3,f5,f6,f8,f10,show(k:Int)+1=((k+1:Nat):Int) from rfl,d6,↓reduceIte,Nat.reduceEqDiff,and_self],_,by rw[List.length_set];exact hDl,hR4,kk.trans k4 fun _ _ h=>h⟩
  ·obtain rfl:k=i:=by omega
   obtain⟨m4,e4,a4,k4,n4⟩:=l8 kk.wf o7 2 [iv 98,tv [121]]
   have src:SlAt m4 o7 2 (.slice mk'.next 0 1 1 false) 1 [iv 98,tv [121]] (some mk'.next):= .row (junk:= []) a4 rfl rfl (Nat.le_refl _) (by decide)
   have sA:=(hR'.keep kk.wf k4 id).sl
   rw[hDl] at sA
   obtain⟨x5,m5,o5,e5,s5,k5,_⟩:=sA.append (bytes:=24) (z:= [iv 0,tv []]) k4.wf src.src (a0v (by omega) (by omega))
   have hkn:=kk.next
   have k05:Keep m3 m5 (fun x=>x=b2):=(kk.tf k4).trans k5 fun b _ h=>by cases h;rfl
   have hk3n:=k3.next
   have kL5:Keep mk m5 (fun _=>False):=(k2.tf k3).trans k05 fun b hb e=>by omega
   have hL5:=hL.keep kL5
   have s35:=s3.keep k3.wf k05 fun b hb e=>hx3 (by rw[hb,e])
   obtain⟨m6,x6,o6,s6,k6,n6,r6⟩:=hL5.list hn
   have s36:=s35.keep k05.wf k6 fun _ _=>id
   have hlen5:I0 false x5=some (k+1):=s5.len
   simp-implicitDefEqProofs only[a0d,a71,b98,c5m,c49,c3P,f0,f3,f5,f6,f8,f12,show((k:Int)<(k:Int))=False from eq_false (by omega),e4,e5,pl hL5,r6.eq,s6.len,hlen5,eq_self,aD (k:Int) 1,show(((k+1:Nat):Int)=(k:Int)+1)=True from eq_true (by omega),↓reduceIte,Nat.reduceEqDiff,Nat.reduceAdd,Nat.reduceLeDiff,List.getElem?_cons_succ,List.getElem?_cons_zero,wA,wB,wC,wD]
   refine A5 (fun j fr mk'=>∃i,i≤k∧j=k-i∧(ev (tm 0) fr=iv k∧ev (tm 10) fr=x3∧ev (tm 13) fr=x6∧ev (tm 14) fr=iv (i:Nat))∧mk'=m6) (k:=k)
    ⟨0,Nat.zero_le _,rfl,by simp-implicitDefEqProofs only[nc0,f0,f10,d6,↓reduceIte,Nat.reduceEqDiff,nc0,and_self],rfl⟩ ?_
   clear f0 f3 f5 f6 f8 f10 f12
   rintro j fr mk' ⟨i,hi,rfl,⟨f0,f10,f13,f14⟩,rfl⟩
   by_cases hlt:i<k
   ·obtain⟨b3,cap3,rfl,h3⟩:=d9z s36 hlt
    obtain⟨b6,cap6,rfl,h6⟩:=d9z s6 hlt
    have q3:=B5 (m:=mk') 2 b3 0 k cap3 false hlt
    have q6:=B5 (m:=mk') 2 b6 0 k cap6 false hlt
    rw[Nat.zero_add] at q3 q6
    simp-implicitDefEqProofs only[a0d,a8r,b7Z,c4x,f0,f10,f13,f14,show((i:Int)<(k:Int))=True from eq_true (by omega),q3,q6,h3,h6,aD (i:Int) 1,eq_self,↓reduceIte,Nat.reduceEqDiff,wA,wB,wC,wD]
    exact C6 (k':=k-(i+1)) (by omega) ⟨i+1,by omega,rfl,by simp-implicitDefEqProofs only[f0,f10,f13,show(i:Int)+1=((i+1:Nat):Int) from rfl,d6,↓reduceIte,Nat.reduceEqDiff,and_self],rfl⟩
   ·obtain rfl:i=k:=by omega
    simp-implicitDefEqProofs only[a0d,a8r,c5H,f0,f14,show((i:Int)<(i:Int))=False from eq_false (by omega),↓reduceIte,Nat.reduceEqDiff,wA,wB,wC,wD]
theorem e4R{q:Option Blk}{n:Int}:WpF Tryz.prog tb d9v [iv n] (mS q) fun v _=>v= .b true:=by
 obtain⟨K,hK⟩:∃K,K=a3L:=⟨_,rfl⟩
 have o5:∀Q fr m,GX Tryz.prog tb b05 Q fr m=GX Tryz.prog tb (.seq (.reg a1V) (.seq a0C (.seq a0B K))) Q fr m:=fun _ _ _=>by rw[hK];rfl
 refine WpF.go f2O ?_
 rw[o5]
 by_cases h1:n<1
 ·simp-implicitDefEqProofs only[a0C,a17,a19,a0B,a1X,a1P,a1V,a4J,a4H,a4p,a4T,wakesD_ran.eq,eq_true h1,↓reduceIte,Nat.reduceEqDiff,wA,wB,wC,wD]
  subst hK
  exact a6X (n:=4) (by omega) (by omega) (by simp-implicitDefEqProofs only[d6,↓reduceIte];rfl)
 ·by_cases h2:20<n
  ·simp-implicitDefEqProofs only[a0C,a17,a19,a0B,a1X,a1P,a1V,a4J,a4H,a4p,a4T,wakesD_ran.eq,eq_false h1,eq_true h2,↓reduceIte,Nat.reduceEqDiff,wA,wB,wC,wD]
   subst hK
   exact a6X (n:=4) (by omega) (by omega) (by simp-implicitDefEqProofs only[d6,↓reduceIte];rfl)
  ·obtain⟨a,rfl⟩:∃a:Nat,n=a:=⟨n.toNat,by omega⟩
   simp-implicitDefEqProofs only[a0C,a17,a19,a0B,a1X,a1P,a1V,a4J,a4H,a4p,a4T,wakesD_ran.eq,eq_false h1,eq_false h2,↓reduceIte,Nat.reduceEqDiff,wA,wB,wC,wD]
   subst hK
   exact a6X (n:=a) (by omega) (by omega) (by simp-implicitDefEqProofs only[d6,↓reduceIte,Nat.reduceEqDiff])
end
end Go.Proofs.YtooooiidpaecmaaGreatDoor
/- The contracts of the library's maps.Keys, slices.Sorted and slices.Sort, laid at this translation. -/
namespace Go.Proofs
open Go.RowKit Go.Maps Go.Sort Go.Shelf
def Tryz.keysW_ren:Go.Shelf.Ren:=⟨fun|7=>200|10=>214|n=>n,fun|23=>118|26=>3|3=>33|28=>301|0=>0|27=>300|33=>39|4=>4|n=>n,fun|n=>n⟩
theorem Tryz.keysW:Go.Proofs.SlLaysZI.n7 Tryz.prog Tryz.keysW_ren:={
 mixed:=by kernel_rfl
 f7:=⟨Tryz.f200.name,by decide,Tryz.func200.trans (congrArg some (by kernel_rfl))⟩
 f10:=⟨Tryz.f214.name,by decide,Tryz.func214.trans (congrArg some (by kernel_rfl))⟩
 t0:=Tryz.underlying0
 a0:=Tryz.isAgg0
 z0:=Tryz.sizeOf0
 v0:=Tryz.zeroValue0
 t4:=Tryz.underlying4
 a4:=Tryz.isAgg4
 z4:=Tryz.sizeOf4
 v4:=Tryz.zeroValue4
 t23:=Tryz.underlying118
 a23:=Tryz.isAgg118
 z23:=Tryz.sizeOf118
 v23:=Tryz.zeroValue118
 t26:=Tryz.underlying3
 a26:=Tryz.isAgg3
 z26:=Tryz.sizeOf3
 v26:=Tryz.zeroValue3
 t27:=Tryz.underlying300
 a27:=Tryz.isAgg300
 z27:=Tryz.sizeOf300
 v27:=Tryz.zeroValue300
 t28:=Tryz.underlying301
 a28:=Tryz.isAgg301
 z28:=Tryz.sizeOf301
 v28:=Tryz.zeroValue301
 t33:=Tryz.underlying39
 a33:=Tryz.isAgg39
 z33:=Tryz.sizeOf39
 v33:=Tryz.zeroValue39}
def Tryz.keysC_ren:Go.Shelf.Ren:=⟨fun|7=>223|10=>224|n=>n,fun|23=>124|26=>3|3=>287|28=>301|0=>0|27=>300|33=>39|4=>4|n=>n,fun|n=>n⟩
theorem Tryz.keysC:Go.Proofs.SlLaysZI.n7 Tryz.prog Tryz.keysC_ren:={
 mixed:=by kernel_rfl
 f7:=⟨Tryz.f223.name,by decide,Tryz.func223.trans (congrArg some (by kernel_rfl))⟩
 f10:=⟨Tryz.f224.name,by decide,Tryz.func224.trans (congrArg some (by kernel_rfl))⟩
 t0:=Tryz.underlying0
 a0:=Tryz.isAgg0
 z0:=Tryz.sizeOf0
 v0:=Tryz.zeroValue0
 t4:=Tryz.underlying4
 a4:=Tryz.isAgg4
 z4:=Tryz.sizeOf4
 v4:=Tryz.zeroValue4
 t23:=Tryz.underlying124
 a23:=Tryz.isAgg124
 z23:=Tryz.sizeOf124
 v23:=Tryz.zeroValue124
 t26:=Tryz.underlying3
 a26:=Tryz.isAgg3
 z26:=Tryz.sizeOf3
 v26:=Tryz.zeroValue3
 t27:=Tryz.underlying300
 a27:=Tryz.isAgg300
 z27:=Tryz.sizeOf300
 v27:=Tryz.zeroValue300
 t28:=Tryz.underlying301
 a28:=Tryz.isAgg301
 z28:=Tryz.sizeOf301
 v28:=Tryz.zeroValue301
 t33:=Tryz.underlying39
 a33:=Tryz.isAgg39
 z33:=Tryz.sizeOf39
 v33:=Tryz.zeroValue39}
def Tryz.sortedC_ren:Go.Shelf.Ren:=⟨fun|6=>199|8=>213|9=>37|11=>222|13=>69|12=>68|23=>124|24=>125|14=>115|15=>116|16=>117|17=>118|18=>119|19=>120|20=>121|21=>122|22=>123|25=>152|26=>153|27=>154|28=>155|29=>156|30=>157|31=>180|n=>n,fun|26=>3|28=>301|24=>40|0=>0|3=>3|37=>168|48=>228|50=>230|4=>4|40=>220|39=>219|45=>225|5=>5|9=>9|51=>257|55=>162|57=>279|58=>280|33=>39|n=>n,fun|n=>n⟩
theorem Tryz.sortedC:Go.Proofs.SlLaysZI.n6 Tryz.prog Tryz.sortedC_ren:={
 mixed:=by kernel_rfl
 f6:=⟨Tryz.f199.name,by decide,Tryz.func199.trans (congrArg some (by kernel_rfl))⟩
 f8:=⟨Tryz.f213.name,by decide,Tryz.func213.trans (congrArg some (by kernel_rfl))⟩
 f11:=⟨Tryz.f222.name,by decide,Tryz.func222.trans (congrArg some (by kernel_rfl))⟩
 t0:=Tryz.underlying0
 a0:=Tryz.isAgg0
 z0:=Tryz.sizeOf0
 v0:=Tryz.zeroValue0
 t24:=Tryz.underlying40
 a24:=Tryz.isAgg40
 z24:=Tryz.sizeOf40
 v24:=Tryz.zeroValue40
 t26:=Tryz.underlying3
 a26:=Tryz.isAgg3
 z26:=Tryz.sizeOf3
 v26:=Tryz.zeroValue3
 t28:=Tryz.underlying301
 a28:=Tryz.isAgg301
 z28:=Tryz.sizeOf301
 v28:=Tryz.zeroValue301
 i26:=by kernel_rfl}
def Tryz.sortC_ren:Go.Shelf.Ren:=⟨fun|5=>37|8=>69|7=>68|19=>124|20=>125|10=>115|11=>116|12=>117|13=>118|14=>119|15=>120|16=>121|17=>122|18=>123|30=>152|31=>153|32=>154|33=>155|34=>156|35=>157|40=>180|n=>n,fun|23=>40|25=>3|3=>3|32=>168|22=>40|0=>0|44=>228|46=>230|4=>4|36=>220|35=>219|41=>225|5=>5|9=>9|53=>257|57=>162|63=>279|64=>280|n=>n,fun|n=>n⟩
theorem Tryz.sortC:Go.Proofs.SlLaysM.n5 Tryz.prog Tryz.sortC_ren:={
 mixed:=by kernel_rfl
 f5:=⟨Tryz.f37.name,by decide,Tryz.func37.trans (congrArg some (by kernel_rfl))⟩
 f7:=⟨Tryz.f68.name,by decide,Tryz.func68.trans (congrArg some (by kernel_rfl))⟩
 f8:=Tryz.func69.trans (congrArg some (by kernel_rfl))
 f10:=⟨Tryz.f115.name,by decide,Tryz.func115.trans (congrArg some (by kernel_rfl))⟩
 f11:=⟨Tryz.f116.name,by decide,Tryz.func116.trans (congrArg some (by kernel_rfl))⟩
 f12:=⟨Tryz.f117.name,by decide,Tryz.func117.trans (congrArg some (by kernel_rfl))⟩
 f13:=⟨Tryz.f118.name,by decide,Tryz.func118.trans (congrArg some (by kernel_rfl))⟩
 f14:=⟨Tryz.f119.name,by decide,Tryz.func119.trans (congrArg some (by kernel_rfl))⟩
 f15:=⟨Tryz.f120.name,by decide,Tryz.func120.trans (congrArg some (by kernel_rfl))⟩
 f16:=⟨Tryz.f121.name,by decide,Tryz.func121.trans (congrArg some (by kernel_rfl))⟩
 f17:=⟨Tryz.f122.name,by decide,Tryz.func122.trans (congrArg some (by kernel_rfl))⟩
 f18:=⟨Tryz.f123.name,by decide,Tryz.func123.trans (congrArg some (by kernel_rfl))⟩
 f19:=Tryz.func124.trans (congrArg some (by kernel_rfl))
 f20:=Tryz.func125.trans (congrArg some (by kernel_rfl))
 f30:=⟨Tryz.f152.name,by decide,Tryz.func152.trans (congrArg some (by kernel_rfl))⟩
 f31:=Tryz.func153.trans (congrArg some (by kernel_rfl))
 f32:=Tryz.func154.trans (congrArg some (by kernel_rfl))
 f33:=⟨Tryz.f155.name,by decide,Tryz.func155.trans (congrArg some (by kernel_rfl))⟩
 f34:=⟨Tryz.f156.name,by decide,Tryz.func156.trans (congrArg some (by kernel_rfl))⟩
 f35:=⟨Tryz.f157.name,by decide,Tryz.func157.trans (congrArg some (by kernel_rfl))⟩
 f40:=⟨Tryz.f180.name,by decide,Tryz.func180.trans (congrArg some (by kernel_rfl))⟩
 t0:=Tryz.underlying0
 a0:=Tryz.isAgg0
 z0:=Tryz.sizeOf0
 v0:=Tryz.zeroValue0
 t3:=Tryz.underlying3
 a3:=Tryz.isAgg3
 z3:=Tryz.sizeOf3
 v3:=Tryz.zeroValue3
 t4:=Tryz.underlying4
 a4:=Tryz.isAgg4
 z4:=Tryz.sizeOf4
 v4:=Tryz.zeroValue4
 t5:=Tryz.underlying5
 a5:=Tryz.isAgg5
 z5:=Tryz.sizeOf5
 v5:=Tryz.zeroValue5
 t9:=Tryz.underlying9
 a9:=Tryz.isAgg9
 z9:=Tryz.sizeOf9
 v9:=Tryz.zeroValue9
 t22:=Tryz.underlying40
 a22:=Tryz.isAgg40
 z22:=Tryz.sizeOf40
 v22:=Tryz.zeroValue40
 t23:=Tryz.underlying40
 a23:=Tryz.isAgg40
 z23:=Tryz.sizeOf40
 v23:=Tryz.zeroValue40
 t25:=Tryz.underlying3
 a25:=Tryz.isAgg3
 z25:=Tryz.sizeOf3
 v25:=Tryz.zeroValue3
 t32:=Tryz.underlying168
 a32:=Tryz.isAgg168
 z32:=Tryz.sizeOf168
 v32:=Tryz.zeroValue168
 t35:=Tryz.underlying219
 a35:=Tryz.isAgg219
 z35:=Tryz.sizeOf219
 v35:=Tryz.zeroValue219
 t36:=Tryz.underlying220
 a36:=Tryz.isAgg220
 z36:=Tryz.sizeOf220
 v36:=Tryz.zeroValue220
 t41:=Tryz.underlying225
 a41:=Tryz.isAgg225
 z41:=Tryz.sizeOf225
 v41:=Tryz.zeroValue225
 t44:=Tryz.underlying228
 a44:=Tryz.isAgg228
 z44:=Tryz.sizeOf228
 v44:=Tryz.zeroValue228
 t46:=Tryz.underlying230
 a46:=Tryz.isAgg230
 z46:=Tryz.sizeOf230
 v46:=Tryz.zeroValue230
 t53:=Tryz.underlying257
 a53:=Tryz.isAgg257
 z53:=Tryz.sizeOf257
 v53:=Tryz.zeroValue257
 t57:=Tryz.underlying162
 a57:=Tryz.isAgg162
 z57:=Tryz.sizeOf162
 v57:=Tryz.zeroValue162
 t63:=Tryz.underlying279
 a63:=Tryz.isAgg279
 z63:=Tryz.sizeOf279
 v63:=Tryz.zeroValue279
 t64:=Tryz.underlying280
 a64:=Tryz.isAgg280
 z64:=Tryz.sizeOf280
 v64:=Tryz.zeroValue280}
theorem Tryz.sortsC(m:Nat):AnyZI.SortsIn Tryz.prog Tryz.sortedC_ren Fence.wide m:=
 ⟨fun blk off cap ss W hH hblk hsz=>callsIn_wide.2 (AnyM.slices_Sort_int Tryz.sortC blk off cap ss W hH hblk hsz),
  fun p cap W=>callsIn_wide.2 (AnyM.slices_Sort_int_none Tryz.sortC p cap W)⟩
end Go.Proofs
namespace Go.Proofs.YtooooiidpaecmaaGreatDoor
open Go.ChangeShapes Go.WideShapes Go.ChangeAt Go.RowKit Go.Maps Go.Sort Go.Shelf
set_option maxHeartbeats 1000000 in
theorem e5B:Am.SortsKeys Tryz.prog 199 214 3 3:={
 key:=by kernel_rfl
 elem:=by kernel_rfl
 enters:=enters_of Tryz.func199 (by kernel_rfl) rfl
 keys:=by
  intro Bm b nn D0 W hBm hcell hown hsize
  refine(callsIn_wide (n:=5)).1 ?_
  have hmax:Maps.size D0≤maxLen:=Nat.le_trans hsize (by decide)
  have hbytes:Maps.size D0*8≤140737488355328:=by omega
  have hseq:SeqGives Fence.wide 2 Tryz.prog 214 #[.pointer (some ⟨Bm,0,none⟩)] encZ (fun ss=>ss.Perm (intKeys D0)) (Maps.size D0) W:=
   AnyZI.keys_gives (ρ:=Tryz.keysW_ren) {Tryz.keysW with} Fence.wide _ trivial rfl (by omega) Bm b nn D0 W hBm hcell hown
  have cS:=AnyZI.sorted_in Tryz.sortedC Fence.wide 5 trivial trivial trivial trivial rfl (by omega) (Tryz.sortsC _) (enters_of Tryz.func37 (by kernel_rfl) rfl) 214 #[.pointer (some ⟨Bm,0,none⟩)] trivial (enters_of Tryz.func214 (by kernel_rfl) rfl) _ _ hmax hbytes _ hseq
  exact cS.mono fun e w' ⟨v,ss,h1,h2,h3,h4,h5⟩=>⟨v,ss,h1,h2,h3,h4.2,h5⟩
 none:=by
  intro Bm W hBm hcell
  refine(callsIn_wide (n:=5)).1 ?_
  have hseq:SeqGives Fence.wide 2 Tryz.prog 214 #[.pointer (some ⟨Bm,0,none⟩)] encZ (fun ss:List Int=>ss= []) 0 W:=
   AnyZI.keys_gives_nil (ρ:=Tryz.keysW_ren) {Tryz.keysW with} Fence.wide _ trivial rfl Bm W hBm hcell
  have cS:=AnyZI.sorted_in Tryz.sortedC Fence.wide 5 trivial trivial trivial trivial rfl (by omega) (Tryz.sortsC _) (enters_of Tryz.func37 (by kernel_rfl) rfl) 214 #[.pointer (some ⟨Bm,0,none⟩)] trivial (enters_of Tryz.func214 (by kernel_rfl) rfl) _ 0 (Nat.zero_le _) (by omega) _ hseq
  refine cS.mono fun e w' ⟨v,ss,h1,h2,h3,h4,h5⟩=> ?_
  subst h2
  obtain rfl:v= .slice none 0 0:=h4.2 rfl
  exact⟨h1,h5⟩
 }
set_option maxHeartbeats 1000000 in
theorem e5u:Am.SortsKeys Tryz.prog 199 224 3 3:={
 key:=by kernel_rfl
 elem:=by kernel_rfl
 enters:=enters_of Tryz.func199 (by kernel_rfl) rfl
 keys:=by
  intro Bm b nn D0 W hBm hcell hown hsize
  refine(callsIn_wide (n:=5)).1 ?_
  have hmax:Maps.size D0≤maxLen:=Nat.le_trans hsize (by decide)
  have hbytes:Maps.size D0*8≤140737488355328:=by omega
  have hseq:SeqGives Fence.wide 2 Tryz.prog 224 #[.pointer (some ⟨Bm,0,none⟩)] encZ (fun ss=>ss.Perm (intKeys D0)) (Maps.size D0) W:=
   AnyZI.keys_gives (ρ:=Tryz.keysC_ren) {Tryz.keysC with} Fence.wide _ trivial rfl (by omega) Bm b nn D0 W hBm hcell hown
  have cS:=AnyZI.sorted_in Tryz.sortedC Fence.wide 5 trivial trivial trivial trivial rfl (by omega) (Tryz.sortsC _) (enters_of Tryz.func37 (by kernel_rfl) rfl) 224 #[.pointer (some ⟨Bm,0,none⟩)] trivial (enters_of Tryz.func224 (by kernel_rfl) rfl) _ _ hmax hbytes _ hseq
  exact cS.mono fun e w' ⟨v,ss,h1,h2,h3,h4,h5⟩=>⟨v,ss,h1,h2,h3,h4.2,h5⟩
 none:=by
  intro Bm W hBm hcell
  refine(callsIn_wide (n:=5)).1 ?_
  have hseq:SeqGives Fence.wide 2 Tryz.prog 224 #[.pointer (some ⟨Bm,0,none⟩)] encZ (fun ss:List Int=>ss= []) 0 W:=
   AnyZI.keys_gives_nil (ρ:=Tryz.keysC_ren) {Tryz.keysC with} Fence.wide _ trivial rfl Bm W hBm hcell
  have cS:=AnyZI.sorted_in Tryz.sortedC Fence.wide 5 trivial trivial trivial trivial rfl (by omega) (Tryz.sortsC _) (enters_of Tryz.func37 (by kernel_rfl) rfl) 224 #[.pointer (some ⟨Bm,0,none⟩)] trivial (enters_of Tryz.func224 (by kernel_rfl) rfl) _ 0 (Nat.zero_le _) (by omega) _ hseq
  refine cS.mono fun e w' ⟨v,ss,h1,h2,h3,h4,h5⟩=> ?_
  subst h2
  obtain rfl:v= .slice none 0 0:=h4.2 rfl
  exact⟨h1,h5⟩
 }
noncomputable def tbL:Am.Tb:=Am.libTb Tryz.prog 199 3 [214,224] []
theorem d8l(w0:World):Am.TbOk Tryz.prog w0 tbL:=Am.libTb_ok (kt:=3) (fun kf h=>by
 simp only[List.mem_cons,List.not_mem_nil,or_false] at h
 rcases h with rfl|rfl
 ·exact e5B
 ·exact e5u) (fun c h=>by
 cases h)
theorem Tryz.own:ownKnob Tryz.prog.godebug=none:=by kernel_rfl
theorem Tryz.good:Am.goodB Tryz.prog=true:=by decide+kernel
end Go.Proofs.YtooooiidpaecmaaGreatDoor
/- What is known ahead holds. -/
namespace Go.Proofs.YtooooiidpaecmaaGreatDoor
open Go Go.Am Go.RowKit
theorem e6b:Am.isTrue (Am.arun Tryz.prog tbL 100000 6 [] Am.m0)=true:=by decide+kernel
theorem f1G:Am.TrueAt Tryz.prog 6:=⟨enters_of Tryz.func6 (by kernel_rfl) rfl,fun w=>Am.closed_calls (Am.good_of Tryz.good) d8l e6b Tryz.func6 rfl w⟩
theorem e59:SortsRows Tryz.prog 37:={
 enters:=enters_of Tryz.func37 (by kernel_rfl) rfl
 sort:=fun blk off cap ss W hH hblk hsz=>Go.Proofs.AnyM.slices_Sort_int Tryz.sortC blk off cap ss W hH hblk hsz
 none:=fun p cap W=>Go.Proofs.AnyM.slices_Sort_int_none Tryz.sortC p cap W}
noncomputable def tb2:Tb:=a7E (a7K tbL [6]) 37
theorem d4A(w0:World):TbOk Tryz.prog w0 tb2:=e41 (Am.withTrue_ok (d8l w0) fun g h=>by
 simp only[List.mem_cons,List.not_mem_nil,or_false] at h
 subst h
 exact f1G) e59
def d1y:Value:= .agg #[.int .i64 64,.int .i64 90,.int .i64 6,.int .i64 30,.int .i64 2,.int .i64 32,.int .i64 1,.int .i64 33,.int .i64 1,.int .i64 34,.int .i64 3,.int .i64 37]
theorem b6q(ρ:Ren):d5 ρ T7=some d1y:=rfl
theorem e6F:Am.isVal T7 (Am.arun Tryz.prog tb2 100000 7 [] Am.m0)=true:=by decide+kernel
theorem f2p:Am.ValAt Tryz.prog 7 T7 d1y:=⟨enters_of Tryz.func7 (by kernel_rfl) rfl,b6q,fun w=>Am.closed_val (Am.good_of Tryz.good) d4A e6F b6q Tryz.func7 rfl w⟩
theorem d6Z(w0:World):TbOk Tryz.prog w0 tb0:=e46 (d4A w0) f2p
theorem f2w:cls.all (fun c=>isVal c.x (arun Tryz.prog tb0 100000 c.g c.args m0))=true:=by decide+kernel
theorem f4D:∀c∈cls,ClOk Tryz.prog tb0 c:=fun c hc=>by
 have hr:=List.all_eq_true.1 f2w c hc
 unfold cls at hc
 simp only[List.mem_cons,List.not_mem_nil,or_false] at hc
 rcases hc with rfl|rfl|rfl|rfl
 ·exact⟨⟨fun args w=>enters_of Tryz.func53 (by kernel_rfl) rfl args w,_,_,Tryz.func53,rfl⟩,hr,⟨_,fun ρ=>rfl⟩,_,fun ρ=>rfl⟩
 ·exact⟨⟨fun args w=>enters_of Tryz.func74 (by kernel_rfl) rfl args w,_,_,Tryz.func74,rfl⟩,hr,⟨_,fun ρ=>rfl⟩,_,fun ρ=>rfl⟩
 ·exact⟨⟨fun args w=>enters_of Tryz.func56 (by kernel_rfl) rfl args w,_,_,Tryz.func56,rfl⟩,hr,⟨_,fun ρ=>rfl⟩,_,fun ρ=>rfl⟩
 ·exact⟨⟨fun args w=>enters_of Tryz.func56 (by kernel_rfl) rfl args w,_,_,Tryz.func56,rfl⟩,hr,⟨_,fun ρ=>rfl⟩,_,fun ρ=>rfl⟩
theorem f1V(w0:World):TbOk Tryz.prog w0 tbA:=e6E (Am.good_of Tryz.good) d6Z f4D
theorem f3Z(w0:World):TbOk Tryz.prog w0 tb:=e5e (Am.good_of Tryz.good) (f1V w0) fun g hg=>by
 simp only[List.mem_cons,List.not_mem_nil,or_false] at hg
 subst hg
 exact⟨fun args w=>enters_of Tryz.func8 (by kernel_rfl) rfl args w,_,_,Tryz.func8,rfl⟩
end Go.Proofs.YtooooiidpaecmaaGreatDoor
set_option linter.unusedVariables false
set_option linter.unusedSimpArgs false
/- The law 'skerrylaw15.DirKeeps' returns true for every number; the card's listed variables are those of the program's text. Conditions: none beyond those that the statement itself has. -/
namespace Go.Proofs.YtooooiidpaecmaaGreatDoor
open Go Go.Am Go.ChangeShapes Go.WideShapes Go.ChangeAt Go.ChangeMaps Go.RowKit Go.Deep
theorem e82 {ρ : Ren} {x : AV} {v : Value} (h : d5 ρ x = some v) {l : List AV} {vs : List Value} (k : d9 ρ l = some vs) : d9 ρ (x :: l) = some (v :: vs) := l6.2 ⟨v, vs, h, k, rfl⟩
theorem e6Y (W : World) : ∃ ρ, Sim Tryz.prog W ρ (mS none) W := by
 obtain ⟨k1, _⟩ := (Sim.start (P := Tryz.prog) W).bump ⟨0, 0, 0⟩
 exact ⟨_, k1.same (fun b => by rw [a9a, M.get_bump, a1U]; split <;> rfl) rfl⟩
set_option maxRecDepth 100000 in
theorem e3N (os : Os) (started : os.Started) (H : Type) (enc : TypeId × Value → H) :
  ReturnsInHanded {} Tryz.checked os 3 .any (fun w args => (Rows.dirKeepsSpec.pre enc Tryz.prog Tryz.f3 [] false w args ∧ laidMetH Tryz.prog Rows.dirKeepsRow.laid w) ∧ sizedMet enc Tryz.prog Tryz.f3 (OpenSpec.ofChange Rows.dirKeepsSpec) false w args)
   (Rows.dirKeepsSpec.post enc Tryz.prog Tryz.f3 false true false false) := by
 refine returnsInHanded_of_change_and (C := Tryz.checked) (X := fun w _ => laidMetH Tryz.prog Rows.dirKeepsRow.laid w) (fun _ _ _ hh h => h.of_heap hh) Tryz.own started (by kernel_rfl) Tryz.func3
  (ChangeSpec.witness_shaped (enc := enc) (C := Tryz.checked) (os := os) (X := fun w _ => laidMetH Tryz.prog Rows.dirKeepsRow.laid w) false (World.laidAll Tryz.prog os Rows.dirKeepsRow.laid) #[.int .i64 0] 8 (World.laidAll_os _ _ _)
   (World.shaped_of_ZipB (by kernel_rfl) (by kernel_rfl)) (by kernel_rfl) (by kernel_rfl) (by kernel_rfl)
   (by rw [MakeChecks.laidMetH_plain _ _ _ (by kernel_rfl)]; exact laidMet_laidAll _ (by kernel_rfl) (by kernel_rfl))) ?_
 intro W base args ds gs before hval0 hW _ _ hL _
 have hval : ∀ (j : Nat) t v, Tryz.f3.params[j]? = some t → args[j]? = some v → Value.okWide Tryz.prog W .any base t v := hval0
 have hW' := hW
 obtain ⟨p, q, hA0, hV, rfl, hfz, hnd⟩ := hW
 have hA : DataW.TrodAll enc Tryz.prog W 0 (fun _ => true) true Tryz.f3.params.toList args.toList ds p := hA0
 rw [Tryz.params3] at hA hval
 obtain ⟨v0, d0, rfl, rfl, h0⟩ := trodAll_one hA
 obtain ⟨rfl, rfl⟩ := trodVars_none hV
 obtain ⟨a, rfl, rfl, rfl, wa⟩ := open_int Tryz.underlying3 (hval 0 3 v0 rfl rfl) h0
 obtain ⟨ρ1, hs1⟩ := e6Y W
 refine (e8B (Am.good_of Tryz.good) f3Z (e4R (q := none) (n := a)) (e82 (v := .int .i64 a) (e8v ρ1 .i64 a) (l5 ρ1)) hs1 Tryz.func3 rfl).mono fun e W' ⟨he, hb⟩ => ?_
 subst he
 exact ⟨_, rfl, e5S hW' (fun _ _ _ => trodAll_mk1 (shut_bool Tryz.underlying4 true)) (trodAll_mk1 (shut_int Tryz.underlying3 wa)) rfl hb⟩
theorem e3W : Rows.DirKeepsSaid :=
 OpenClaim.holds_of_wide 3 Tryz.f3 rfl rfl rfl rfl rfl rfl rfl ⟨rfl, rfl, rfl, rfl, rfl⟩ rfl rfl rfl rfl rfl (by kernel_rfl) Tryz.func3 (by kernel_rfl)
  (of_decide_eq_true (by kernel_rfl)) (by unfold Func.isWrapper; first | (rw [if_pos (by decide +kernel)]; kernel_rfl) | (rw [if_neg (by decide +kernel)]; exact ⟨rfl, rfl⟩))
  (fun os started H enc _ => e3N os started H enc)
end Go.Proofs.YtooooiidpaecmaaGreatDoor
namespace Go.Proofs.YtooooiidpaecmaaGreatDoor
open Go Go.Am Go.ChangeShapes Go.WideShapes Go.ChangeAt Go.ChangeMaps Go.RowKit Go.Deep
theorem dirKeeps_card : Rows.DirKeepsCardSaid :=
 Claim7.holds_tied_plain_at .later [] [.data, .pinned] true (true, "ddef3db846584d53f138c810d6efd84787f5f89495365acd8514a08512c391dd") false e3W (fun _ h => by cases h) (by kernel_rfl) (fun _ h => by cases h) dirKeeps_row_tie rfl ⟨rfl, rfl⟩ (by kernel_rfl) rfl
  (fun f fn hf hfn => by
   obtain rfl : f = 3 := Option.some.inj ((show Tryz.prog.funcNamed Rows.dirKeepsRow.func = some 3 by kernel_rfl).symm.trans hf) |>.symm
   obtain rfl : fn = Tryz.f3 := (Option.some.inj (Tryz.func3.symm.trans hfn)).symm
   exact ⟨by kernel_rfl, fun j t ht => by
    rw [Tryz.params3] at ht
    have hm : t ∈ [3] := by simpa using Array.mem_of_getElem? ht
    have hall : ([3].all fun u => !Tryz.prog.wantsStandIn u) = true := by kernel_rfl
    exact (show Tryz.prog.wantsStandIn t = false by simpa using List.all_eq_true.1 hall t hm)⟩)
  (by kernel_rfl)
#print axioms dirKeeps_card
end Go.Proofs.YtooooiidpaecmaaGreatDoor
