import Derived.Test.YtooooiidpaecmaaGreatDoorDh
import Derived.Test.YtooooiidpaecmaaGreatDoorDd
import Derived.Test.YtooooiidpaecmaaGreatDoorFk
import Derived.Test.YtooooiidpaecmaaGreatDoorPm
import Derived.Test.YtooooiidpaecmaaGreatDoorAmWm
set_option linter.unusedVariables false
/- What stands in a directory behind a name's writing, and behind a cut, without a machine. -/
namespace Go.Proofs.YtooooiidpaecmaaGreatDoor
open Go Go.Am
section
variable {S T:PS} {X Y:Nat→Ino} {D:List (Nat×Bs)} {e:Nat×Bs} {k:Nat}
theorem b8t{x y:Ino}{a n:Nat}(h:∀j,j<n→fby T y (a+j)=fby S x (a+j)):rdF T y a n=rdF S x a n:=by
 unfold rdF
 refine List.map_congr_left fun j hj=>h j (List.mem_range.1 hj)
def Lvs(S:PS)(X:Nat→Ino)(n:Nat):Prop:=∀k,k≤1063→(nd S (X 3) (i6 k)=0↔n≤64*k)
theorem c1R(hW:Wrt S I2 X T Y 3 (16*k) (ent e))(he:EOk e)(hk:k≤1000){j:Nat}(hj:j≤1000):rdF T (Y 3) (16*j) 16=if j=k then ent e else rdF S (X 3) (16*j) 16:=by
 have hl:=a1p he
 have hb:=hW.by'
 rw[hl] at hb
 by_cases h:j=k
 ·subst h
  rw[if_pos rfl]
  have:=g1d (S:=T) (x:=Y 3) (at':=16*j) (d:=ent e) fun i hi=>by
   rw[hl] at hi
   rw[hb _ (by omega),if_pos (by omega),show 16*j+i-16*j=i by omega]
  rwa [hl] at this
 ·rw[if_neg h]
  exact b8t fun i hi=>by rw[hb _ (by omega),if_neg (by omega)]
theorem DirAt.set(h:DirAt S X D)(hW:Wrt S I2 X T Y 3 (16*k) (ent e))(he:EOk e)(hk:k<D.length)(hl:D.length≤1000):DirAt T Y (D.set k e):=by
 have hel:=a1p he
 refine⟨(hW.kl 3 (by simp)).1.trans h.kd,(hW.kl 3 (by simp)).2.trans h.lk,?_,fun x hx=> ?_,fun j x hx=> ?_⟩
 ·rw[hW.sz,h.sz,hel,List.length_set];omega
 ·rcases List.mem_or_eq_of_mem_set hx with hx|rfl
  ·exact h.ok x hx
  ·exact he
 ·have hj:j<(D.set k e).length:=(List.getElem?_eq_some_iff.1 hx).1
  rw[List.length_set] at hj
  rw[c1R hW he (by omega) (by omega)]
  rw[List.getElem?_set] at hx
  by_cases hjk:j=k
  ·subst hjk
   rw[if_pos rfl,if_pos hj] at hx
   cases hx
   rw[if_pos rfl]
  ·rw[if_neg (Ne.symm hjk)] at hx
   rw[if_neg hjk]
   exact h.by' j x hx
theorem DirAt.add(h:DirAt S X D)(hW:Wrt S I2 X T Y 3 (16*D.length) (ent e))(he:EOk e)(hl:D.length≤999):DirAt T Y (D++ [e]):=by
 have hel:=a1p he
 refine⟨(hW.kl 3 (by simp)).1.trans h.kd,(hW.kl 3 (by simp)).2.trans h.lk,?_,fun x hx=> ?_,fun j x hx=> ?_⟩
 ·rw[hW.sz,h.sz,hel,List.length_append,List.length_singleton];omega
 ·rw[List.mem_append,List.mem_singleton] at hx
  rcases hx with hx|rfl
  ·exact h.ok x hx
  ·exact he
 ·have hj:j<(D++ [e]).length:=(List.getElem?_eq_some_iff.1 hx).1
  rw[List.length_append,List.length_singleton] at hj
  rw[c1R hW he (by omega) (by omega)]
  by_cases hjk:j=D.length
  ·subst hjk
   rw[List.getElem?_append_right (Nat.le_refl _),Nat.sub_self] at hx
   cases hx
   rw[if_pos rfl]
  ·rw[if_neg hjk]
   rw[List.getElem?_append_left (by omega)] at hx
   exact h.by' j x hx
theorem DirAt.cut{n:Nat}(h:DirAt S X D)(hT:Trt S I2 X T Y 3 (16*n))(hn:n≤D.length)(hl:D.length≤1000):DirAt T Y (D.take n):=by
 refine⟨(hT.kl 3 (by simp)).1.trans h.kd,(hT.kl 3 (by simp)).2.trans h.lk,?_,fun x hx=>h.ok x (List.mem_of_mem_take hx),fun j x hx=> ?_⟩
 ·rw[hT.sz,List.length_take];omega
 ·have hj:j<(D.take n).length:=(List.getElem?_eq_some_iff.1 hx).1
  rw[List.length_take] at hj
  rw[List.getElem?_take,if_pos (by omega)] at hx
  rw[←h.by' j x hx]
  exact b8t fun i hi=>by rw[hT.by' _ (by omega),if_neg (by omega)]
theorem Lvs.put{n:Nat}(h:Lvs S X n)(hW:Wrt S I2 X T Y 3 (16*k) (ent e))(he:EOk e)(hk:16*k≤n)(hn:n % 16=0):Lvs T Y (max n (16*k+16)):=fun j hj=>by
 have:=hW.zr j hj
 rw[a1p he,h j hj] at this
 rw[this]
 omega
theorem Lvs.cut{n s:Nat}(h:Lvs S X n)(hT:Trt S I2 X T Y 3 s)(hs:s≤n):Lvs T Y s:=fun j hj=>by
 rw[hT.lf j hj]
 by_cases hc:s≤64*j
 ·rw[if_pos hc];exact⟨fun _=>hc,fun _=>rfl⟩
 ·rw[if_neg hc,h j hj]
  exact⟨fun h=>by omega,fun h=>absurd h hc⟩
end
theorem a2p:∀{D:List (Nat×Bs)} {k:Nat} {e:Nat×Bs} (J:List AV),D[k]? =some e→((B1 D++J).drop (k*2)).take 2= [ivn e.1,tv e.2]
 |x::D,0,e,J,h=>by cases h;rfl
 |x::D,k+1,e,J,h=>by
  have ih:=a2p (D:=D) (k:=k) J h
  show(([ivn x.1,tv x.2] ++B1 D++J).drop ((k+1)*2)).take 2=_
  rw[show(k+1)*2=k*2+2 by omega]
  exact ih
section
variable {m:M} {x:AV} {ob:Option Nat} {D:List (Nat×Bs)} {e:Nat×Bs} {k:Nat}
theorem a1G(h:SlAt m x7 2 x D.length (B1 D) ob)(hk:D[k]? =some e):∃b cap,x= .slice b 0 D.length cap false∧m.rdN b (k*2) 2=some [ivn e.1,tv e.2]∧m.rd b (k*2)=some (ivn e.1):=by
 have hlt:=(List.getElem?_eq_some_iff.1 hk).1
 have hl:=a4G D
 generalize hc:B1 D=cs at h hl
 generalize hn:D.length=n at h hl hlt
 cases h with
 |nil=>omega
 |row h h1 h2 h3 h4=>
  rename_i b cap junk xt
  refine⟨b,cap,rfl,?_,?_⟩
  ·rw[h.rdN (by rw[List.length_append];omega),←hc,a2p junk hk]
  ·have:=a2p junk hk
   rw[h.rd,←hc]
   have h5:=congrArg (fun l=>l[0]?) this
   simpa[List.getElem?_take,List.getElem?_drop] using h5
theorem f6D(hw:Wf m)(e:Nat×Bs){q:Nat}{s:Bs}(hq:At m q A9 true [tv s]):∃m',Keep m m' (fun _=>False)∧Ran Tryz.prog tb a1Y [.agg [ivn e.1,tv e.2],.ptr q 0] m (.b (decide (e.2=s))) m':=by
 obtain⟨m1,e1,a1,k1,n1⟩:=l6 hw x7 2 [ivn e.1,tv e.2]
 have hq1:=hq.keep hw k1 id
 refine⟨m1,k1,?_⟩
 refine WpF.go g5K ?_
 simp-implicitDefEqProofs only[g69,d35,e0x,e1,a1.rd,hq1.rd,↓reduceIte,Nat.reduceEqDiff,Nat.reduceAdd,List.getElem?_cons_succ,List.getElem?_cons_zero,wA,wB,wC,wD]
def ixD(D:List (Nat×Bs))(s:Bs):Option Nat:=D.findIdx? fun e=>decide (e.2=s)
noncomputable def ixV(r:Option Nat):AV:=match r with
 |some k=>iv (k:Nat)
 |none=>iv (-1)
theorem f87(hw:Wf m)(h:SlAt m x7 2 x D.length (B1 D) ob){q:Nat}{s:Bs}(hq:At m q A9 true [tv s])(hl:D.length≤10000):
  ∃m',Keep m m' (fun _=>False)∧Ran Tryz.prog tb a6T [x,.func a1Y [.ptr q 0]] m (ixV (ixD D s)) m':=by
 have key:WpF Tryz.prog tb a6T [x,.func a1Y [.ptr q 0]] m fun v m'=>v=ixV (ixD D s)∧Keep m m' fun _=>False:=by
  refine WpF.go g5x ?_
  simp-implicitDefEqProofs only[a7D,e4P,e5m,h.len,↓reduceIte,Nat.reduceEqDiff,Nat.reduceAdd,wA,wB,wC,wD]
  refine y7 (fun j fr mk=>∃k,k≤D.length∧j=D.length-k∧(ev (tm 0) fr=x∧ev (tm 1) fr= .func a1Y [.ptr q 0]∧ev (tm 7) fr=iv (D.length:Nat)∧ev (tm 8) fr=iv (k:Nat))∧(∀j e,j<k→D[j]? =some e→e.2≠s)∧Keep m mk fun _=>False) (k:=D.length) ⟨0,Nat.zero_le _,rfl,by simp-implicitDefEqProofs only[nc0,d7,↓reduceIte,Nat.reduceEqDiff,nc0,and_self],fun j e hj=>by omega,Keep.refl hw _⟩ ?_
  rintro j fr mk ⟨k,hk,rfl,⟨f0,f1,f7,f8⟩,hz,kk⟩
  by_cases hlt:k<D.length
  ·have hv:D[k]? =some D[k] :=List.getElem?_eq_getElem hlt
   generalize D[k] =e at hv
   obtain⟨b,cap,rfl,hrd,_⟩:=a1G (h.keep hw kk fun _ _=>id) hv
   have hia:=x9 (m:=mk) 2 b 0 D.length cap false hlt
   rw[Nat.zero_add] at hia
   have hqk:=hq.keep hw kk id
   obtain⟨m1,k1,r1⟩:=f6D kk.wf e hqk
   by_cases h0:e.2=s
   ·rw[decide_eq_true h0] at r1
    simp-implicitDefEqProofs only[a7D,a6x,b1s,b2P,d3n,f0,f1,f7,f8,show((k:Int)<(D.length:Int))=True from eq_true (by omega),hia,hrd,r1.eq,↓reduceIte,Nat.reduceEqDiff,wA,wB,wC,wD]
    refine⟨?_,kk.tf k1⟩
    have:ixD D s=some k:=by
     unfold ixD
     rw[List.findIdx?_eq_some_iff_getElem]
     refine⟨hlt,?_,fun j hj=> ?_⟩
     ·have:=(List.getElem?_eq_some_iff.1 hv).2
      rw[this];exact decide_eq_true h0
     ·have:=hz j D[j] hj (List.getElem?_eq_getElem (by omega))
      simpa using this
    rw[this];rfl
   ·rw[decide_eq_false h0] at r1
    simp-implicitDefEqProofs only[a7D,a6x,b1s,b2P,e1n,f0,f1,f7,f8,show((k:Int)<(D.length:Int))=True from eq_true (by omega),hia,hrd,r1.eq,aD (k:Int) 1,↓reduceIte,Nat.reduceEqDiff,wA,wB,wC,wD]
    refine y8 (k':=D.length-(k+1)) (by omega) ⟨k+1,by omega,rfl,by simp-implicitDefEqProofs only[f0,f1,f7,show(k:Int)+1=((k+1:Nat):Int) from rfl,d7,↓reduceIte,Nat.reduceEqDiff,and_self],fun j e' hj he=> ?_,kk.tf k1⟩
    by_cases hjk:j=k
    ·subst hjk
     rw[hv] at he
     cases he
     exact h0
    ·exact hz j e' (by omega) he
  ·obtain rfl:k=D.length:=by omega
   simp-implicitDefEqProofs only[a7D,a6x,d9H,f7,f8,↓reduceIte,wA,wB,wC,wD]
   refine⟨?_,kk⟩
   have:ixD D s=none:=by
    unfold ixD
    rw[List.findIdx?_eq_none_iff]
    intro e he
    obtain⟨j,hj,e2⟩:=List.mem_iff_getElem.1 he
    have:=hz j e hj (by rw[List.getElem?_eq_getElem hj,e2])
    simpa using this
   rw[this];rfl
 obtain⟨v,m',⟨rfl,k⟩,r⟩:=key.ran
 exact⟨m',k,r⟩
end
structure DS(S:PS)(X:Nat→Ino)(D:List (Nat×Bs)):Prop where
 fs:FS S I2 X
 dir:DirAt S X D
 lv:Lvs S X (16*D.length)
 len:D.length≤31
 z:D= []→∀k,k<10→(X 3).ps.getD k 0=0
section
variable {m:M} {A:Ad} {S:PS} {own:Nat→Prop} {X:Nat→Ino} {tt aa n:Nat} {D:List (Nat×Bs)} {s:Bs} {e:Nat×Bs} {k:Nat} {x:AV} {ob:Option Nat}
theorem a2v(hw:Wf m)(h:GAt m A S own)(ht:TAt m tt aa A.g)(hD:DS S X D)(hs:Low s):
  ∃m' n x ob,Keep m m' (fun _=>False)∧m.next≤n∧At m' n P1 true (nmL A.o tt x)∧SlAt m' x7 2 x D.length (B1 D) ob∧(∀b,ob=some b→m.next≤b)∧
   Ran Tryz.prog tb L7 [.ptr A.o 0,.ptr tt 0,.agg i5,iv 3,tv s] m (.tuple [.ptr n 0,ixV (ixD D s),iv 0]) m':=by
 obtain⟨m1,e1,a1,k1,n1⟩:=l6 hw v7 12 i5
 obtain⟨m2,e2,a2,k2,n2⟩:=l6 k1.wf A9 1 [tv s]
 obtain⟨m3,k3,r3⟩:=a4U k2.wf hs
 have k13:=k2.tf k3
 have k03:=k1.tf k13
 obtain⟨m4,n,x,ob,k4,hn,N4,S4,o4,r4⟩:=b8P k03.wf (h.k0 hw k03) (ht.k0 hw k03) hD.fs hD.dir (by have:=hD.len;omega)
 have k04:=k03.tf k4
 obtain⟨m5,k5,r5⟩:=f87 k04.wf S4 (s:=s) ((a2.keep k2.wf k3 id).keep k03.wf k4 id) (by have:=hD.len;omega)
 have hn3:=k03.next
 have hP:m3.rdN m.next 0 12=some i5:=(a1.keep k1.wf k13 id).rdN (by show 0+12≤12;omega)
 have hx:m4.rd n 15=some x:=by rw[N4.rd];rfl
 refine⟨m5,n,x,ob,k04.tf k5,by omega,N4.keep k04.wf k5 id,S4.keep k04.wf k5 fun _ _=>id,fun b hb=>by have:=o4 b hb;omega,?_⟩
 refine WpF.go g5H ?_
 simp-implicitDefEqProofs only[g6U,e65,d6Q,d4O,e78,d33,d8Z,e1,e2,a2.rd,r3.eq,hP,r4.eq,hx,r5.eq,↓reduceIte,Nat.reduceEqDiff,Nat.reduceAdd,List.getElem?_cons_succ,List.getElem?_cons_zero,wA,wB,wC,wD]
theorem f7E(hw:Wf m)(h:GAt m A S own)(ht:TAt m tt aa A.g)(hD:DS S X D)(hs:Low s)(hk:ixD D s=some k)(he:D[k]? =some e):
  ∃m',Keep m m' (fun _=>False)∧Ran Tryz.prog tb a7o [.ptr A.o 0,.ptr tt 0,.agg i5,iv 3,tv s] m (.tuple [ivn e.1,iv 0]) m':=by
 obtain⟨m1,e1,a1,k1,n1⟩:=l6 hw v7 12 i5
 obtain⟨m2,n,x,ob,k2,hn,N2,S2,o2,r2⟩:=a2v k1.wf (h.k0 hw k1) (ht.k0 hw k1) hD hs
 rw[hk] at r2
 have r2:Ran Tryz.prog tb L7 [.ptr A.o 0,.ptr tt 0,.agg i5,iv 3,tv s] m1 (.tuple [.ptr n 0,iv (k:Nat),iv 0]) m2:=r2
 have hP:m1.rdN m.next 0 12=some i5:=a1.rdN (by show 0+12≤12;omega)
 obtain⟨b,cap,rfl,_,hr⟩:=a1G S2 he
 have hx:m2.rd n 15=some (.slice b 0 D.length cap false):=by rw[N2.rd];rfl
 have hlt:=(List.getElem?_eq_some_iff.1 he).1
 have hia:=x9 (m:=m2) 2 b 0 D.length cap false hlt
 rw[Nat.zero_add] at hia
 refine⟨m2,k1.tf k2,?_⟩
 refine WpF.go g5f ?_
 simp-implicitDefEqProofs only[g7s,e2v,d8c,e9G,e2x,e0r,e1,hP,r2.eq,show((k:Int)<0)=False from eq_false (by omega),hx,hia,hr,↓reduceIte,Nat.reduceEqDiff,Nat.reduceAdd,List.getElem?_cons_succ,List.getElem?_cons_zero,wA,wB,wC,wD]
theorem g0A:v6 40 (.agg i5) (.agg i5)=true:=by kernel_rfl
theorem g7A:∀j,j<8→(i6 j).way.length≤1:=by decide
theorem b9s(hw:Wf m)(h:GAt m A S own)(ht:TAt m tt aa A.g)(hF:FS S I2 X)(hn:At m n P1 true (nmL A.o tt x))(he:EOk e)(hk:k<32)(hc:t8 S≤51):
  ∃m' own' T Y,Wrt S I2 X T Y 3 (16*k) (ent e)∧t8 T≤t8 S+1∧Step m m' A T own own'∧Ran Tryz.prog tb a7k [.ptr n 0,iv k,.agg [ivn e.1,tv e.2]] m (iv 0) m':=by
 have hel:=a1p he
 obtain⟨m1,e1,a1,k1,n1⟩:=l6 hw x7 2 [ivn e.1,tv e.2]
 obtain⟨m2,s2,b2,R2,k2,hb2,r2⟩:=b71 k1.wf he
 have k02:=k1.tf k2
 obtain⟨cap,rfl,hcap⟩:=R2.shape
 have hnp:npc (16*k) (ent e).length=1:=by rw[hel];unfold npc;rw[if_neg (by omega)];omega
 have hne:ent e≠[] :=fun e0=>by rw[e0] at hel;cases hel
 have key:WpF Tryz.prog tb a4t [.ptr A.o 0,.ptr tt 0,.agg i5,ivn 3,ivn (16*k),.slice b2 0 (ent e).length cap false] m2 fun v m'=>∃own' T Y,v=iv 0∧Wrt S I2 X T Y 3 (16*k) (ent e)∧t8 T≤t8 S+1∧Step m2 m' A T own own':=
  f7V (w:=1) k02.wf (h.k0 hw k02) (ht.k0 hw k02) hF (by simp) R2.bs hcap R2.sl.kd (by decide) hne (by omega) (by omega) (fun j _ hj=>g7A j (by omega))
   (fun m' own' T Y hW hcn st=>⟨own',T,Y,rfl,hW,by rw[hnp] at hcn;omega,st⟩) (fun h53=>by rw[hnp] at h53;omega)
 obtain⟨v,m3,⟨own',T,Y,rfl,hW,hcn,st⟩,r3⟩:=key.ran
 refine⟨m3,own',T,Y,hW,hcn,Step.ft k02 st,?_⟩
 have hn2:=hn.keep hw k02 id
 have hn3:=hn2.kp k02.wf st.kp
 have hL:m1.rdN m.next 0 2=some [ivn e.1,tv e.2] :=a1.rdN (by show 0+2≤2;omega)
 have q1:m2.rd n 0=some (.ptr A.o 0):=by rw[hn2.rd];rfl
 have q2:m2.rd n 1=some (.ptr tt 0):=by rw[hn2.rd];rfl
 have q3:m2.rdN n 2 12=some i5:=hn2.rdN (by show 2+12≤16;omega)
 have q4:m2.rd n 14=some (iv 3):=by rw[hn2.rd];rfl
 have t1:m3.rd n 0=some (.ptr A.o 0):=by rw[hn3.rd];rfl
 have t2:m3.rd n 1=some (.ptr tt 0):=by rw[hn3.rd];rfl
 have t3:m3.rdN n 2 12=some i5:=hn3.rdN (by show 2+12≤16;omega)
 have t4:m3.rd n 14=some (iv 3):=by rw[hn3.rd];rfl
 have hm:=O0 (a:=(k:Int)) (b:=16) d5 (by omega) (by omega)
 rw[show(k:Int)*16=((16*k:Nat):Int) by omega] at hm
 have r3:Ran Tryz.prog tb a4t [.ptr A.o 0,.ptr tt 0,.agg i5,iv 3,iv (16*k:Nat),.slice b2 0 (ent e).length cap false] m2 (iv 0) m3:=r3
 refine WpF.go g5v ?_
 simp-implicitDefEqProofs only[g7g,d6u,e5z,e4E,d9L,e1,hL,r2.eq,q1,q2,q3,q4,hm,r3.eq,g0A,↓reduceIte,Nat.reduceEqDiff,Nat.reduceAdd,List.getElem?_cons_succ,List.getElem?_cons_zero,exists_eq_left',wA,wB,wC,wD]
end
section
variable {m:M} {A:Ad} {S:PS} {own:Nat→Prop} {X:Nat→Ino} {tt aa n:Nat} {D:List (Nat×Bs)} {s:Bs} {e:Nat×Bs} {k:Nat} {x:AV} {ob:Option Nat}
theorem DS.add{T:PS}{Y:Nat→Ino}(h:DS S X D)(hW:Wrt S I2 X T Y 3 (16*D.length) (ent e))(he:EOk e)(hl:D.length≤30):DS T Y (D++ [e]):=
 ⟨hW.fs,h.dir.add hW he (by omega),by
  have:=h.lv.put hW he (Nat.le_refl _) (by omega)
  rw[List.length_append,List.length_singleton]
  rwa [show max (16*D.length) (16*D.length+16)=16*(D.length+1) by omega] at this,by rw[List.length_append,List.length_singleton];omega,fun e0=>by have:=congrArg List.length e0;rw[List.length_append,List.length_singleton] at this;exact absurd this (by show ¬_=0;omega)⟩
theorem DS.set{T:PS}{Y:Nat→Ino}(h:DS S X D)(hW:Wrt S I2 X T Y 3 (16*k) (ent e))(he:EOk e)(hk:k<D.length):DS T Y (D.set k e):=
 ⟨hW.fs,h.dir.set hW he hk (by have:=h.len;omega),by
  have:=h.lv.put hW he (by omega) (by omega)
  rw[List.length_set]
  rwa [show max (16*D.length) (16*k+16)=16*D.length by omega] at this,by rw[List.length_set];exact h.len,fun e0=>by have:=congrArg List.length e0;rw[List.length_set] at this;have:D.length=0:=this;omega⟩
theorem DS.cut{T:PS}{Y:Nat→Ino}{j:Nat}(h:DS S X D)(hT:Trt S I2 X T Y 3 (16*j))(hj:j≤D.length):DS T Y (D.take j):=
 ⟨hT.fs,h.dir.cut hT hj (by have:=h.len;omega),by
  have:=h.lv.cut hT (by omega)
  rwa [List.length_take,show min j D.length=j by omega],by rw[List.length_take];have:=h.len;omega,fun e0 k hk=>by
  have:=congrArg List.length e0
  rw[List.length_take] at this
  have:min j D.length=0:=this
  exact hT.inn (.r k) hk (by omega)⟩
set_option maxRecDepth 20000 in
theorem b9E(hw:Wf m)(h:GAt m A S own)(ht:TAt m tt aa A.g)(hD:DS S X D)(he:EOk e)(fr:Bool)(hc:t8 S≤51)(hr:fr=true∧ixD D e.2=none∧k=D.length∧D.length≤30∨fr=false∧ixD D e.2=some k∧k<D.length):
  ∃m' own' T Y,Wrt S I2 X T Y 3 (16*k) (ent e)∧t8 T≤t8 S+1∧Step m m' A T own own'∧Ran Tryz.prog tb a06 [.ptr A.o 0,.ptr tt 0,.agg i5,iv 3,tv e.2,ivn e.1,.b fr] m (iv 0) m':=by
 have h1:=he.i1
 have h2:=he.i2
 have hl:=hD.len
 obtain⟨m1,e1,a1,k1,n1⟩:=l6 hw v7 12 i5
 obtain⟨m2,k2,r2⟩:=a4U k1.wf he.nm
 have k02:=k1.tf k2
 obtain⟨m3,n,x,ob,k3,hn,N3,S3,o3,r3⟩:=a2v k02.wf (h.k0 hw k02) (ht.k0 hw k02) hD he.nm
 have k03:=k02.tf k3
 have hP:m2.rdN m.next 0 12=some i5:=(a1.keep k1.wf k2 id).rdN (by show 0+12≤12;omega)
 have hx:m3.rd n 15=some x:=by rw[N3.rd];rfl
 obtain⟨m4,own',T,Y,hW,hcn,st,r4⟩:=b9s (k:=k) k03.wf (h.k0 hw k03) (ht.k0 hw k03) hD.fs N3 he (by omega) hc
 refine⟨m4,own',T,Y,hW,hcn,Step.ft k03 st,?_⟩
 rcases hr with⟨rfl,hi,rfl,_⟩|⟨rfl,hi,hk⟩
 ·rw[hi] at r3
  have r3:Ran Tryz.prog tb L7 [.ptr A.o 0,.ptr tt 0,.agg i5,iv 3,tv e.2] m2 (.tuple [.ptr n 0,iv (-1),iv 0]) m3:=r3
  refine WpF.go a7h ?_
  simp-implicitDefEqProofs only[a7L,a3u,a3s,a3n,a3q,a3h,a3b,a3i,a5B,c9o,a9Y,e1,r2.eq,show((e.1:Int)<1)=False from eq_false (by omega),show((65535:Int)<(e.1:Int))=False from eq_false (by omega),hP,r3.eq,show((0:Int)≤-1)=False from eq_false (by omega),hx,S3.len,r4.eq,↓reduceIte,Nat.reduceEqDiff,Nat.reduceAdd,Nat.reduceLeDiff,List.getElem?_cons_succ,List.getElem?_cons_zero,wA,wB,wC,wD]
 ·rw[hi] at r3
  have r3:Ran Tryz.prog tb L7 [.ptr A.o 0,.ptr tt 0,.agg i5,iv 3,tv e.2] m2 (.tuple [.ptr n 0,iv (k:Nat),iv 0]) m3:=r3
  refine WpF.go a7h ?_
  simp-implicitDefEqProofs only[a7L,a3u,a3s,a3n,a3q,a3h,a3b,a3i,a5B,b0P,a9Y,e1,r2.eq,show((e.1:Int)<1)=False from eq_false (by omega),show((65535:Int)<(e.1:Int))=False from eq_false (by omega),hP,r3.eq,show((k:Int)<0)=False from eq_false (by omega),r4.eq,↓reduceIte,Nat.reduceEqDiff,Nat.reduceAdd,Nat.reduceLeDiff,List.getElem?_cons_succ,List.getElem?_cons_zero,wA,wB,wC,wD]
theorem c8i(hw:Wf m)(h:GAt m A S own)(ht:TAt m tt aa A.g)(hD:DS S X D)(he:EOk e)(fr:Bool){z:Nat}(hr:fr=true∧ixD D e.2=some k∧z=12∨fr=false∧ixD D e.2=none∧z=11):
  ∃m',Keep m m' (fun _=>False)∧Ran Tryz.prog tb a06 [.ptr A.o 0,.ptr tt 0,.agg i5,iv 3,tv e.2,ivn e.1,.b fr] m (ivn z) m':=by
 have h1:=he.i1
 have h2:=he.i2
 obtain⟨m1,e1,a1,k1,n1⟩:=l6 hw v7 12 i5
 obtain⟨m2,k2,r2⟩:=a4U k1.wf he.nm
 have k02:=k1.tf k2
 obtain⟨m3,n,x,ob,k3,hn,N3,S3,o3,r3⟩:=a2v k02.wf (h.k0 hw k02) (ht.k0 hw k02) hD he.nm
 have hP:m2.rdN m.next 0 12=some i5:=(a1.keep k1.wf k2 id).rdN (by show 0+12≤12;omega)
 refine⟨m3,k02.tf k3,?_⟩
 rcases hr with⟨rfl,hi,rfl⟩|⟨rfl,hi,rfl⟩
 ·rw[hi] at r3
  have r3:Ran Tryz.prog tb L7 [.ptr A.o 0,.ptr tt 0,.agg i5,iv 3,tv e.2] m2 (.tuple [.ptr n 0,iv (k:Nat),iv 0]) m3:=r3
  refine WpF.go a7h ?_
  simp-implicitDefEqProofs only[a7L,a3u,a3s,a3n,a3q,a3h,a3b,a3i,c8E,e1,r2.eq,show((e.1:Int)<1)=False from eq_false (by omega),show((65535:Int)<(e.1:Int))=False from eq_false (by omega),hP,r3.eq,show((0:Int)≤(k:Int))=True from eq_true (by omega),↓reduceIte,Nat.reduceEqDiff,Nat.reduceAdd,List.getElem?_cons_succ,List.getElem?_cons_zero,wA,wB,wC,wD]
  exact rfl
 ·rw[hi] at r3
  have r3:Ran Tryz.prog tb L7 [.ptr A.o 0,.ptr tt 0,.agg i5,iv 3,tv e.2] m2 (.tuple [.ptr n 0,iv (-1),iv 0]) m3:=r3
  refine WpF.go a7h ?_
  simp-implicitDefEqProofs only[a7L,a3u,a3s,a3n,a3q,a3h,a3b,a3i,a5B,b0P,c9A,e1,r2.eq,show((e.1:Int)<1)=False from eq_false (by omega),show((65535:Int)<(e.1:Int))=False from eq_false (by omega),hP,r3.eq,show((-1:Int)<0)=True from eq_true (by omega),↓reduceIte,Nat.reduceEqDiff,Nat.reduceAdd,List.getElem?_cons_succ,List.getElem?_cons_zero,wA,wB,wC,wD]
  exact rfl
theorem g1V(hw:Wf m)(h:GAt m A S own)(ht:TAt m tt aa A.g)(hD:DS S X D)(he:EOk e)(hc:t8 S≤51)(hi:ixD D e.2=none)(hl:D.length≤30):
  ∃m' own' T Y,DS T Y (D++ [e])∧t8 T≤t8 S+1∧Step m m' A T own own'∧Ran Tryz.prog tb a0f [.ptr A.o 0,.ptr tt 0,.agg i5,iv 3,tv e.2,ivn e.1] m (iv 0) m':=by
 obtain⟨m1,e1,a1,k1,n1⟩:=l6 hw v7 12 i5
 have hP:m1.rdN m.next 0 12=some i5:=a1.rdN (by show 0+12≤12;omega)
 obtain⟨m2,own',T,Y,hW,hcn,st,r2⟩:=b9E k1.wf (h.k0 hw k1) (ht.k0 hw k1) hD he true hc (.inl ⟨rfl,hi,rfl,hl⟩)
 refine⟨m2,own',T,Y,hD.add hW he hl,hcn,Step.ft k1 st,?_⟩
 refine WpF.go f0z ?_
 simp-implicitDefEqProofs only[f2I,b1S,b2m,e1,hP,r2.eq,↓reduceIte,Nat.reduceEqDiff,Nat.reduceAdd,wA,wB,wC,wD]
theorem ins_no(hw:Wf m)(h:GAt m A S own)(ht:TAt m tt aa A.g)(hD:DS S X D)(he:EOk e)(hi:ixD D e.2=some k):
  ∃m',Keep m m' (fun _=>False)∧Ran Tryz.prog tb a0f [.ptr A.o 0,.ptr tt 0,.agg i5,iv 3,tv e.2,ivn e.1] m (iv 12) m':=by
 obtain⟨m1,e1,a1,k1,n1⟩:=l6 hw v7 12 i5
 have hP:m1.rdN m.next 0 12=some i5:=a1.rdN (by show 0+12≤12;omega)
 obtain⟨m2,k2,r2⟩:=c8i (k:=k) k1.wf (h.k0 hw k1) (ht.k0 hw k1) hD he true (.inl ⟨rfl,hi,rfl⟩)
 have r2:Ran Tryz.prog tb a06 [.ptr A.o 0,.ptr tt 0,.agg i5,iv 3,tv e.2,ivn e.1,.b true] m1 (iv 12) m2:=r2
 refine⟨m2,k1.tf k2,?_⟩
 refine WpF.go f0z ?_
 simp-implicitDefEqProofs only[f2I,b1S,b2m,e1,hP,r2.eq,↓reduceIte,Nat.reduceEqDiff,Nat.reduceAdd,wA,wB,wC,wD]
theorem f8T(hw:Wf m)(h:GAt m A S own)(ht:TAt m tt aa A.g)(hD:DS S X D)(he:EOk e)(hc:t8 S≤51)(hi:ixD D e.2=some k)(hk:k<D.length):
  ∃m' own' T Y,DS T Y (D.set k e)∧t8 T≤t8 S+1∧Step m m' A T own own'∧Ran Tryz.prog tb a0j [.ptr A.o 0,.ptr tt 0,.agg i5,iv 3,tv e.2,ivn e.1] m (iv 0) m':=by
 obtain⟨m1,e1,a1,k1,n1⟩:=l6 hw v7 12 i5
 have hP:m1.rdN m.next 0 12=some i5:=a1.rdN (by show 0+12≤12;omega)
 obtain⟨m2,own',T,Y,hW,hcn,st,r2⟩:=b9E k1.wf (h.k0 hw k1) (ht.k0 hw k1) hD he false hc (.inr ⟨rfl,hi,hk⟩)
 refine⟨m2,own',T,Y,hD.set hW he hk,hcn,Step.ft k1 st,?_⟩
 refine WpF.go f1b ?_
 simp-implicitDefEqProofs only[f3A,b2i,b1F,e1,hP,r2.eq,↓reduceIte,Nat.reduceEqDiff,Nat.reduceAdd,wA,wB,wC,wD]
theorem g06(hw:Wf m)(h:GAt m A S own)(ht:TAt m tt aa A.g)(hD:DS S X D)(he:EOk e)(hi:ixD D e.2=none):
  ∃m',Keep m m' (fun _=>False)∧Ran Tryz.prog tb a0j [.ptr A.o 0,.ptr tt 0,.agg i5,iv 3,tv e.2,ivn e.1] m (iv 11) m':=by
 obtain⟨m1,e1,a1,k1,n1⟩:=l6 hw v7 12 i5
 have hP:m1.rdN m.next 0 12=some i5:=a1.rdN (by show 0+12≤12;omega)
 obtain⟨m2,k2,r2⟩:=c8i (k:=0) k1.wf (h.k0 hw k1) (ht.k0 hw k1) hD he false (.inr ⟨rfl,hi,rfl⟩)
 have r2:Ran Tryz.prog tb a06 [.ptr A.o 0,.ptr tt 0,.agg i5,iv 3,tv e.2,ivn e.1,.b false] m1 (iv 11) m2:=r2
 refine⟨m2,k1.tf k2,?_⟩
 refine WpF.go f1b ?_
 simp-implicitDefEqProofs only[f3A,b2i,b1F,e1,hP,r2.eq,↓reduceIte,Nat.reduceEqDiff,Nat.reduceAdd,wA,wB,wC,wD]
theorem rem_no(hw:Wf m)(h:GAt m A S own)(ht:TAt m tt aa A.g)(hD:DS S X D)(hs:Low s)(hi:ixD D s=none):
  ∃m',Keep m m' (fun _=>False)∧Ran Tryz.prog tb a16 [.ptr A.o 0,.ptr tt 0,.agg i5,iv 3,tv s] m (iv 11) m':=by
 obtain⟨m1,e1,a1,k1,n1⟩:=l6 hw v7 12 i5
 have hP:m1.rdN m.next 0 12=some i5:=a1.rdN (by show 0+12≤12;omega)
 obtain⟨m2,n,x,ob,k2,hn,N2,S2,o2,r2⟩:=a2v k1.wf (h.k0 hw k1) (ht.k0 hw k1) hD hs
 rw[hi] at r2
 have r2:Ran Tryz.prog tb L7 [.ptr A.o 0,.ptr tt 0,.agg i5,iv 3,tv s] m1 (.tuple [.ptr n 0,iv (-1),iv 0]) m2:=r2
 refine⟨m2,k1.tf k2,?_⟩
 refine WpF.go f00 ?_
 simp-implicitDefEqProofs only[f2G,b2X,b2v,b16,b2u,e9H,e1,hP,r2.eq,show((-1:Int)<0)=True from eq_true (by omega),↓reduceIte,Nat.reduceEqDiff,Nat.reduceAdd,List.getElem?_cons_succ,List.getElem?_cons_zero,wA,wB,wC,wD]
set_option maxRecDepth 20000 in
theorem g0c(hw:Wf m)(h:GAt m A S own)(ht:TAt m tt aa A.g)(hD:DS S X D)(hs:Low s)(hc:t8 S≤51)(hi:ixD D s=some k)(hk:k<D.length)(hlast:D[D.length-1]? =some e):
  ∃m' own' T Y R Z,DS T Y ((D.set k e).take (D.length-1))∧Trt R I2 Z T Y 3 (16*(D.length-1))∧t8 T≤t8 S+1∧Step m m' A T own own'∧Ran Tryz.prog tb a16 [.ptr A.o 0,.ptr tt 0,.agg i5,iv 3,tv s] m (iv 0) m':=by
 have hl:=hD.len
 have he:=hD.dir.ok e (List.mem_iff_getElem?.2 ⟨_,hlast⟩)
 obtain⟨m1,e1,a1,k1,n1⟩:=l6 hw v7 12 i5
 obtain⟨m2,n,x,ob,k2,hn,N2,S2,o2,r2⟩:=a2v k1.wf (h.k0 hw k1) (ht.k0 hw k1) hD hs
 rw[hi] at r2
 have r2:Ran Tryz.prog tb L7 [.ptr A.o 0,.ptr tt 0,.agg i5,iv 3,tv s] m1 (.tuple [.ptr n 0,iv (k:Nat),iv 0]) m2:=r2
 have k02:=k1.tf k2
 obtain⟨b,cap,rfl,hrd,hr⟩:=a1G S2 hlast
 obtain⟨m3,own3,R,Z,hW,hcn,st,r3⟩:=b9s (k:=k) k02.wf (h.k0 hw k02) (ht.k0 hw k02) hD.fs N2 he (by omega) hc
 have hD3:=hD.set hW he hk
 obtain⟨m4,own4,T,Y,hT,st4,r4⟩:=f5W st.kp.wf st.at' ((ht.k0 hw k02).kp k02.wf st.kp) hD3.fs (by simp:(3:Nat)∈I2) (s:=16*(D.length-1)) (by omega)
 have hP1:m1.rdN m.next 0 12=some i5:=a1.rdN (by show 0+12≤12;omega)
 have hP3:m3.rdN m.next 0 12=some i5:=((a1.keep k1.wf k2 id).kp k02.wf st.kp).rdN (by show 0+12≤12;omega)
 have hx:m2.rd n 15=some (.slice b 0 D.length cap false):=by rw[N2.rd];rfl
 have hia:=x9 (m:=m2) 2 b 0 D.length cap false (show D.length-1<D.length by omega)
 rw[Nat.zero_add] at hia
 have hsub:(D.length:Int)-1=((D.length-1:Nat):Int):=by omega
 have hm:=O0 (a:=((D.length-1:Nat):Int)) (b:=16) d5 (by omega) (by omega)
 rw[show((D.length-1:Nat):Int)*16=((16*(D.length-1):Nat):Int) by omega] at hm
 have hcut:=hD3.cut hT (by rw[List.length_set];omega)
 have r4:Ran Tryz.prog tb a7s [.ptr A.o 0,.ptr tt 0,.agg i5,iv 3,iv (16*(D.length-1):Nat)] m3 (iv 0) m4:=r4
 refine⟨m4,own4,T,Y,R,Z,hcut,hT,by have:=hT.cnt;omega,Step.ft k02 (st.trans st4),?_⟩
 refine WpF.go f00 ?_
 simp-implicitDefEqProofs only[f2G,b2X,b2v,b16,b2u,d7z,e7i,d6J,c80,e1,hP1,r2.eq,show((k:Int)<0)=False from eq_false (by omega),hx,sB (D.length:Int) 1,hsub,hia,hrd,r3.eq,hP3,hm,r4.eq,↓reduceIte,Nat.reduceEqDiff,Nat.reduceAdd,List.getElem?_cons_succ,List.getElem?_cons_zero,wA,wB,wC,wD]
end
structure Ls(m:M)(D:List (Nat×Bs))(c:Nat):Prop where
 wf:Wf m
 pl:At m 1 v7 true i5
 ex:∃own S X,GAt m A2 S own∧TAt m 181 179 A2.g∧DS S X D∧t8 S≤c
section
variable {m m':M} {D:List (Nat×Bs)} {c k:Nat} {e:Nat×Bs} {s:Bs}
theorem Ls.keep(h:Ls m D c)(kk:Keep m m' fun _=>False):Ls m' D c:=by
 obtain⟨own,S,X,h1,h2,h3,h4⟩:=h.ex
 exact⟨kk.wf,h.pl.keep h.wf kk id,own,S,X,h1.k0 h.wf kk,h2.k0 h.wf kk,h3,h4⟩
theorem Ls.ins(h:Ls m D c)(he:EOk e)(hc:c≤51)(hi:ixD D e.2=none)(hl:D.length≤30):∃m',Ls m' (D++ [e]) (c+1)∧y6 m m' [] A2.ms∧Ran Tryz.prog tb a0f [.ptr 185 0,.ptr 181 0,.agg i5,iv 3,tv e.2,ivn e.1] m (iv 0) m':=by
 obtain⟨own,S,X,h1,h2,h3,h4⟩:=h.ex
 obtain⟨m',own',T,Y,hD,hcn,st,r⟩:=g1V h.wf h1 h2 h3 he (by omega) hi hl
 exact⟨m',⟨st.kp.wf,h.pl.kp h.wf st.kp,own',T,Y,st.at',h2.kp h.wf st.kp,hD,by omega⟩,st.kp,r⟩
theorem Ls.ins_no(h:Ls m D c)(he:EOk e)(hi:ixD D e.2=some k):∃m',Ls m' D c∧Keep m m' (fun _=>False)∧Ran Tryz.prog tb a0f [.ptr 185 0,.ptr 181 0,.agg i5,iv 3,tv e.2,ivn e.1] m (iv 12) m':=by
 obtain⟨own,S,X,h1,h2,h3,h4⟩:=h.ex
 obtain⟨m',kk,r⟩:=Go.Proofs.YtooooiidpaecmaaGreatDoor.ins_no h.wf h1 h2 h3 he hi
 exact⟨m',h.keep kk,kk,r⟩
theorem Ls.set(h:Ls m D c)(he:EOk e)(hc:c≤51)(hi:ixD D e.2=some k)(hk:k<D.length):∃m',Ls m' (D.set k e) (c+1)∧y6 m m' [] A2.ms∧Ran Tryz.prog tb a0j [.ptr 185 0,.ptr 181 0,.agg i5,iv 3,tv e.2,ivn e.1] m (iv 0) m':=by
 obtain⟨own,S,X,h1,h2,h3,h4⟩:=h.ex
 obtain⟨m',own',T,Y,hD,hcn,st,r⟩:=f8T h.wf h1 h2 h3 he (by omega) hi hk
 exact⟨m',⟨st.kp.wf,h.pl.kp h.wf st.kp,own',T,Y,st.at',h2.kp h.wf st.kp,hD,by omega⟩,st.kp,r⟩
theorem Ls.set_no(h:Ls m D c)(he:EOk e)(hi:ixD D e.2=none):∃m',Ls m' D c∧Keep m m' (fun _=>False)∧Ran Tryz.prog tb a0j [.ptr 185 0,.ptr 181 0,.agg i5,iv 3,tv e.2,ivn e.1] m (iv 11) m':=by
 obtain⟨own,S,X,h1,h2,h3,h4⟩:=h.ex
 obtain⟨m',kk,r⟩:=g06 h.wf h1 h2 h3 he hi
 exact⟨m',h.keep kk,kk,r⟩
theorem Ls.rem(h:Ls m D c)(hs:Low s)(hc:c≤51)(hi:ixD D s=some k)(hk:k<D.length)(hlast:D[D.length-1]? =some e):∃m',Ls m' ((D.set k e).take (D.length-1)) (c+1)∧y6 m m' [] A2.ms∧Ran Tryz.prog tb a16 [.ptr 185 0,.ptr 181 0,.agg i5,iv 3,tv s] m (iv 0) m':=by
 obtain⟨own,S,X,h1,h2,h3,h4⟩:=h.ex
 obtain⟨m',own',T,Y,R,Z,hD,_,hcn,st,r⟩:=g0c h.wf h1 h2 h3 hs (by omega) hi hk hlast
 exact⟨m',⟨st.kp.wf,h.pl.kp h.wf st.kp,own',T,Y,st.at',h2.kp h.wf st.kp,hD,by omega⟩,st.kp,r⟩
theorem Ls.rem_no(h:Ls m D c)(hs:Low s)(hi:ixD D s=none):∃m',Ls m' D c∧Keep m m' (fun _=>False)∧Ran Tryz.prog tb a16 [.ptr 185 0,.ptr 181 0,.agg i5,iv 3,tv s] m (iv 11) m':=by
 obtain⟨own,S,X,h1,h2,h3,h4⟩:=h.ex
 obtain⟨m',kk,r⟩:=Go.Proofs.YtooooiidpaecmaaGreatDoor.rem_no h.wf h1 h2 h3 hs hi
 exact⟨m',h.keep kk,kk,r⟩
theorem Ls.get(h:Ls m D c):∃m' ps,ps.length=10∧(D= []→ps=List.replicate 10 0)∧Keep m m' (fun _=>False)∧Ran Tryz.prog tb R1 [.ptr 181 0,.ptr 185 0,iv 3] m (.tuple [.agg (s8 2 1 (16*D.length) ps),iv 0]) m':=by
 obtain⟨own,S,X,h1,h2,h3,h4⟩:=h.ex
 obtain⟨_,hx3,ho3⟩:=h3.fs.inv.ino 3 (by simp)
 obtain⟨m',kk,r⟩:=a0I h.wf h1 h2 (.inr rfl) hx3 ho3
 rw[h3.dir.kd,h3.dir.lk,h3.dir.sz] at r
 refine⟨m',(X 3).ps,ho3.len,fun e0=> ?_,kk,r⟩
 have hz:=h3.z e0
 refine List.ext_getElem (by rw[ho3.len,List.length_replicate]) fun i h1 h2=> ?_
 rw[List.getElem_replicate]
 have:=hz i (by rw[ho3.len] at h1;exact h1)
 rwa [List.getD_eq_getElem?_getD,List.getElem?_eq_getElem h1] at this
end
def E(i:Nat):Nat×Bs:=(i+1,[UInt8.ofNat (97+i)])
theorem a9y{D:List (Nat×Bs)}{s:Bs}(h:∀e∈D,e.2≠s):ixD D s=none:=by
 unfold ixD
 rw[List.findIdx?_eq_none_iff]
 intro e he
 simpa using h e he
theorem a4R{D:List (Nat×Bs)}{s:Bs}(h:∃e∈D,e.2=s):∃k e,ixD D s=some k∧D[k]? =some e∧e.2=s:=by
 cases hr:ixD D s with
 |none=>
  obtain⟨e,he,h2⟩:=h
  unfold ixD at hr
  rw[List.findIdx?_eq_none_iff] at hr
  have:=hr e he
  simp[h2] at this
 |some k=>
  unfold ixD at hr
  rw[List.findIdx?_eq_some_iff_getElem] at hr
  obtain⟨hk,h1,_⟩:=hr
  exact⟨k,D[k],rfl,List.getElem?_eq_getElem hk,by simpa using h1⟩
section
variable {m:M}
theorem wakesD_ran:Ran Tryz.prog tb b7w [] m (.b true) m:=P3 Tryz.func6 rfl
theorem smallD_ran:Ran Tryz.prog tb b7r [] m (.agg i5) m:=P3 Tryz.func7 rfl
end
section
theorem f7K(q:Option Blk):∃mz mw m1,(mS q).addZ v7 12 z12=mz∧mz.wr 1 0 i5=some mw∧mw.rdN 1 0 12=some i5∧Keep (mS q) m1 (fun _=>False)∧Ls m1 [] 0∧Ran Tryz.prog tb a8T [.agg i5] mw (.tuple [.ptr 177 0,.ptr 181 0,.ptr 185 0]) m1:=by
 obtain⟨mz,ez,az,kz,nz⟩:=B0 (f0H q) v7 12 z12
 obtain⟨mw,ew,aw,kw,nw⟩:=az.st kz.wf 0 i5
 have e1:(mS q).next=1:=rfl
 rw[e1] at ew aw
 have hm:mQ q=some mw:=by
  unfold mQ
  rw[ez,ew]
 obtain⟨m1,hw1,k01,hpl,hG,hT,r1⟩:=f9A hm
 exact⟨mz,mw,m1,ez,ew,aw.rdN (by show 0+12≤12;omega),k01,⟨hw1,hpl,a7J,S0,X0,hG,hT,⟨fs0,⟨rfl,rfl,rfl,nofun,nofun⟩,fun k hk=>⟨fun _=>Nat.zero_le _,fun _=>nd0 _ _ _⟩,Nat.zero_le _,fun _ k hk=>ps0 3 k⟩,Nat.le_of_eq g7C⟩,r1⟩
end
end Go.Proofs.YtooooiidpaecmaaGreatDoor
/- Names in order; what a sort by insertion leaves. -/
namespace Go.Am
open Go Go.RowKit
theorem a9q(a b:UInt8)(l k:List UInt8):u6 (a::l) (b::k)=(decide (a.toNat<b.toNat)||(decide (a.toNat=b.toNat)&&u6 l k)):=by
 show(Nat.ble (Nat.succ a.toNat) b.toNat||(Nat.beq a.toNat b.toNat&&u6 l k))=_
 rw[A1,A4];rfl
theorem a9L:∀a:List UInt8,u6 a a=false
 | [] =>rfl
 |a::l=>by
  rw[a9q,a9L l,Bool.and_false,Bool.or_false,decide_eq_false (by omega)]
theorem b04:∀{a b c:List UInt8},u6 a b=true→u6 b c=true→u6 a c=true
 |_,_,[],_,h=>by cases h':(‹_› :List UInt8)<;>simp[u6] at h
 |_,[],_::_,h,_=>by simp[u6] at h
 | [],_::_,_::_,_,_=>rfl
 |a::l,b::k,c::j,h,h'=>by
  rw[a9q] at h h'⊢
  simp only[Bool.or_eq_true,Bool.and_eq_true,decide_eq_true_eq] at h h'⊢
  rcases h with h|⟨h,h2⟩
  ·rcases h' with h'|⟨h',_⟩
   ·exact .inl (by omega)
   ·exact .inl (by omega)
  ·rcases h' with h'|⟨h',h3⟩
   ·exact .inl (by omega)
   ·exact .inr ⟨by omega,b04 h2 h3⟩
theorem a9N:∀{a b:List UInt8},u6 a b=false→u6 b a=false→a=b
 | [],[],_,_=>rfl
 | [],_::_,h,_=>by simp[u6] at h
 |_::_,[],_,h=>by simp[u6] at h
 |a::l,b::k,h,h'=>by
  rw[a9q] at h h'
  simp only[Bool.or_eq_false_iff,Bool.and_eq_false_iff,decide_eq_false_iff_not] at h h'
  have e:a=b:=UInt8.toNat_inj.1 (by omega)
  subst e
  rw[a9N (a:=l) (b:=k) (h.2.resolve_left fun x=>x rfl) (h'.2.resolve_left fun x=>x rfl)]
def nle(a b:List UInt8):Prop:=u6 b a=false
theorem f9b(a:List UInt8):nle a a:=a9L a
theorem a4O{a b:List UInt8}(h:u6 a b=true):nle a b:=by
 unfold nle
 cases h':u6 b a with
 |false=>rfl
 |true=>have:=b04 h h';rw[a9L] at this;cases this
theorem U5{a b c:List UInt8}(h:nle a b)(h':nle b c):nle a c:=by
 unfold nle at*
 cases h3:u6 c a with
 |false=>rfl
 |true=>
  cases h4:u6 b c with
  |true=>rw[b04 h4 h3] at h;cases h
  |false=>rw[a9N h4 h'] at h;rw[h] at h3;cases h3
structure Srt(D D':List (Nat×List UInt8))(a e:Nat):Prop where
 perm:D'.Perm D
 out:∀k,k<a∨e≤k→D'[k]? =D[k]?
 srt:∀p q x y,a≤p→p<q→q<e→D'[p]? =some x→D'[q]? =some y→nle x.2 y.2
theorem Srt.len{D D':List (Nat×List UInt8)}{a e:Nat}(h:Srt D D' a e):D'.length=D.length:=h.perm.length_eq
theorem Srt.none{D:List (Nat×List UInt8)}{a e:Nat}(h:e≤a+1):Srt D D a e:=⟨.refl _,fun _ _=>rfl,fun p q x y h1 h2 h3=>by omega⟩
structure Ins(D D':List (Nat×List UInt8))(a i j:Nat):Prop where
 perm:D'.Perm D
 out:∀k,k<a∨i<k→D'[k]? =D[k]?
 srt:∀p q x y,a≤p→p<q→q≤i→q≠j→D'[p]? =some x→D'[q]? =some y→nle x.2 y.2
theorem Ins.len{D D':List (Nat×List UInt8)}{a i j:Nat}(h:Ins D D' a i j):D'.length=D.length:=h.perm.length_eq
theorem Srt.ins{D D':List (Nat×List UInt8)}{a i:Nat}(h:Srt D D' a i):Ins D D' a i i:=⟨h.perm,fun k hk=>h.out k (by omega),fun p q x y h1 h2 h3 h4=>h.srt p q x y h1 h2 (by omega)⟩
theorem Ins.done0{D D':List (Nat×List UInt8)}{a i:Nat}(h:Ins D D' a i a):Srt D D' a (i+1):=⟨h.perm,fun k hk=>h.out k (by omega),fun p q x y h1 h2 h3=>h.srt p q x y h1 h2 (by omega) (by omega)⟩
theorem Ins.done1{D D':List (Nat×List UInt8)}{a i j:Nat}(h:Ins D D' a i j){x y:Nat×List UInt8}(hx:D'[j-1]? =some x)(hy:D'[j]? =some y)(hl:u6 y.2 x.2=false)(hj:a<j)(hi:j≤i):Srt D D' a (i+1):=
 ⟨h.perm,fun k hk=>h.out k (by omega),fun p q u v h1 h2 h3 hu hv=>by
  by_cases hq:q=j
  ·subst hq
   rw[hy] at hv;cases hv
   by_cases hp:p=q-1
   ·rw[hp,hx] at hu;cases hu;exact hl
   ·exact U5 (h.srt p (q-1) u x h1 (by omega) (by omega) (by omega) hu hx) hl
  ·exact h.srt p q u v h1 h2 (by omega) hq hu hv⟩
theorem Ins.swap{D D':List (Nat×List UInt8)}{a i j:Nat}(h:Ins D D' a i j){x y:Nat×List UInt8}(hx:D'[j-1]? =some x)(hy:D'[j]? =some y)(hl:u6 y.2 x.2=true)(hj:a<j)(hi:j≤i):Ins D ((D'.set j x).set (j-1) y) a i (j-1):=by
 obtain⟨hjl,ey⟩:=List.getElem?_eq_some_iff.1 hy
 obtain⟨hxl,ex⟩:=List.getElem?_eq_some_iff.1 hx
 have g:∀k,((D'.set j x).set (j-1) y)[k]? =if k=j-1 then some y else if k=j then some x else D'[k]? :=fun k=>by
  rw[List.getElem?_set]
  by_cases h1:j-1=k
  ·rw[if_pos h1,if_pos (by rw[List.length_set];omega),if_pos h1.symm]
  ·rw[if_neg h1,if_neg fun e=>h1 e.symm,List.getElem?_set]
   by_cases h2:j=k
   ·rw[if_pos h2,if_pos hjl,if_pos h2.symm]
   ·rw[if_neg h2,if_neg fun e=>h2 e.symm]
 refine⟨?_,fun k hk=> ?_,fun p q u v h1 h2 h3 h4 hu hv=> ?_⟩
 ·have:=List.set_set_perm hjl hxl
  rw[ey,ex] at this
  have h2:=List.set_set_perm hxl hjl
  rw[ey,ex] at h2
  refine List.Perm.trans ?_ h.perm
  first|exact this|exact h2
 ·rw[g,if_neg (by omega),if_neg (by omega)];exact h.out k hk
 ·rw[g,if_neg (by omega)] at hv
  rw[g] at hu
  by_cases hq:q=j
  ·rw[if_pos hq] at hv;cases hv
   by_cases hp:p=j-1
   ·rw[if_pos hp] at hu;cases hu;exact a4O hl
   ·rw[if_neg hp,if_neg (by omega)] at hu
    exact h.srt p (j-1) u x h1 (by omega) (by omega) (by omega) hu hx
  ·rw[if_neg hq] at hv
   by_cases hp:p=j-1
   ·rw[if_pos hp] at hu;cases hu
    exact h.srt j q y v (by omega) (by omega) h3 hq hy hv
   ·rw[if_neg hp] at hu
    by_cases hp2:p=j
    ·rw[if_pos hp2] at hu;cases hu
     exact h.srt (j-1) q x v (by omega) (by omega) h3 hq hx hv
    ·rw[if_neg hp2] at hu
     exact h.srt p q u v h1 h2 h3 hq hu hv
theorem b3k{P:Program}(t:TypeId)(a b:List UInt8):d8 P .lss t (tv a) (tv b)=some (.b (u6 a b)):=by rw[a2P];rfl
theorem f0D{P:Program}(t:TypeId)(a b:List UInt8):d8 P .gtr t (tv a) (tv b)=some (.b (!(u6 a b||decide (a=b)))):=by
 rw[a2P]
 show some (AV.b (!(u6 a b||F8 a b)))=_
 rw[a1n]
end Go.Am
namespace Go.Proofs.YtooooiidpaecmaaGreatDoor
open Go Go.Am
theorem b8c:∀{D:List (Nat×Bs)} {k:Nat} (e:Nat×Bs) (J:List AV),k<D.length→z6 (B1 D++J) (k*2) [ivn e.1,tv e.2] =B1 (D.set k e)++J
 |_::_,0,_,_,_=>rfl
 |x::D,k+1,e,J,h=>by
  have ih:=b8c (D:=D) (k:=k) e J (by simpa using h)
  rw[show(k+1)*2=k*2+1+1 by omega]
  show z6 (ivn x.1::tv x.2::(B1 D++J)) (k*2+1+1) [ivn e.1,tv e.2] =ivn x.1::tv x.2::(B1 (D.set k e)++J)
  rw[←ih]
  unfold z6
  rw[List.take_succ_cons,List.take_succ_cons,show k*2+1+1+ [ivn e.1,tv e.2].length=k*2+ [ivn e.1,tv e.2].length+1+1 by omega,List.drop_succ_cons,List.drop_succ_cons]
  rfl
structure DRw(m:M)(b cap:Nat)(D:List (Nat×Bs)):Prop where
 ex:∃xt J,At m b x7 xt (B1 D++J)∧J.length=(cap-D.length)*2
 le:D.length≤cap
 pos:0<cap
section
variable {m m':M} {x:AV} {ob:Option Nat} {D D':List (Nat×Bs)} {e u v:Nat×Bs} {k b cap a n:Nat}
theorem DRw.sl(h:DRw m b cap D):SlAt m x7 2 (.slice b 0 D.length cap false) D.length (B1 D) (some b):=by
 obtain⟨xt,J,h1,h2⟩:=h.ex
 exact .row h1 (by rw[a4G];omega) h2 h.le h.pos
theorem DRw.keep{F:Nat→Prop}(h:DRw m b cap D)(hw:Wf m)(k:Keep m m' F)(hb:¬F b):DRw m' b cap D:=by
 obtain⟨xt,J,h1,h2⟩:=h.ex
 exact⟨⟨xt,J,h1.keep hw k hb,h2⟩,h.le,h.pos⟩
theorem DRw.rd(h:DRw m b cap D)(hk:D[k]? =some e):m.rdN b (k*2) 2=some [ivn e.1,tv e.2]∧m.rd b (k*2)=some (ivn e.1):=by
 obtain⟨b',cap',e1,h1,h2⟩:=a1G h.sl hk
 cases e1
 exact⟨h1,h2⟩
theorem DRw.st(h:DRw m b cap D)(hw:Wf m)(hk:k<D.length)(e:Nat×Bs):∃m',m.wr b (k*2) [ivn e.1,tv e.2] =some m'∧DRw m' b cap (D.set k e)∧Keep m m' (fun x=>x=b):=by
 obtain⟨xt,J,h1,h2⟩:=h.ex
 obtain⟨m',e1,a1,k1,_⟩:=h1.st hw (k*2) [ivn e.1,tv e.2] (b8c e J hk) (by rw[List.length_append,a4G];show k*2+2≤_;omega)
 exact⟨m',e1,⟨⟨xt,J,a1,by rw[List.length_set];exact h2⟩,by rw[List.length_set];exact h.le,h.pos⟩,k1⟩
theorem a2T(s:Bs):Ran Tryz.prog tb a6N [tv s] m (.b false) m:=by
 refine WpF.go g6F ?_
 simp-implicitDefEqProofs only[g7F,e2Z,e46,eq_self,↓reduceIte,Nat.reduceEqDiff,wA,wB,wC,wD]
theorem g1g(s t:Bs):∃c:Int,(c<0↔u6 s t=true)∧Ran Tryz.prog tb b3Z [tv s,tv t] m (iv c) m:=by
 by_cases h1:u6 s t=true
 ·refine⟨-1,⟨fun _=>h1,fun _=>by omega⟩,?_⟩
  refine WpF.go b3q ?_
  simp-implicitDefEqProofs only[b36,a6l,a6B,a5O,a6C,a5J,a5L,d2T,(a2T s).eq,(a2T t).eq,b3k,h1,↓reduceIte,Nat.reduceEqDiff,Nat.reduceAdd,wA,wB,wC,wD]
 ·have h1:u6 s t=false:=by simpa using h1
  by_cases h2:s=t
  ·refine⟨0,⟨fun h=>by omega,fun h=>by rw[h1] at h;cases h⟩,?_⟩
   subst h2
   refine WpF.go b3q ?_
   simp-implicitDefEqProofs only[b36,a6l,a6B,a5O,a6C,a5J,a5L,b1d,c1Z,(a2T s).eq,b3k,f0D,h1,eq_self,↓reduceIte,Nat.reduceEqDiff,Nat.reduceAdd,wA,wB,wC,wD]
  ·refine⟨1,⟨fun h=>by omega,fun h=>by rw[h1] at h;cases h⟩,?_⟩
   refine WpF.go b3q ?_
   simp-implicitDefEqProofs only[b36,a6l,a6B,a5O,a6C,a5J,a5L,b1d,c0V,(a2T s).eq,(a2T t).eq,b3k,f0D,h1,eq_false h2,↓reduceIte,Nat.reduceEqDiff,Nat.reduceAdd,wA,wB,wC,wD]
theorem a4S(hw:Wf m)(u v:Nat×Bs):∃m' c,(c<0↔u6 u.2 v.2=true)∧Keep m m' (fun _=>False)∧Ran Tryz.prog tb u9 [.agg [ivn u.1,tv u.2],.agg [ivn v.1,tv v.2]] m (iv c) m':=by
 obtain⟨m1,e1,a1,k1,n1⟩:=l6 hw x7 2 [ivn u.1,tv u.2]
 obtain⟨m2,e2,a2,k2,n2⟩:=l6 k1.wf x7 2 [ivn v.1,tv v.2]
 obtain⟨c,hc,r⟩:=g1g (m:=m2) u.2 v.2
 have a1:=a1.keep k1.wf k2 id
 refine⟨m2,c,hc,k1.tf k2,?_⟩
 refine WpF.go g6h ?_
 simp-implicitDefEqProofs only[g7k,e7Y,d8S,e1,e2,a1.rd,a2.rd,r.eq,↓reduceIte,Nat.reduceEqDiff,Nat.reduceAdd,List.getElem?_cons_succ,List.getElem?_cons_zero,wA,wB,wC,wD]
set_option maxRecDepth 20000 in
set_option maxHeartbeats 1000000 in
theorem a2u{e:Nat}(hw:Wf m)(h:DRw m b cap D)(hae:a≤e)(he:e≤D.length)(hl:D.length≤1000):
  ∃m' D',DRw m' b cap D'∧Keep m m' (fun x=>x=b)∧Srt D D' a e∧Ran Tryz.prog tb O7 [.slice b 0 D.length cap false,iv a,iv e,.func u9 []] m (.tuple []) m':=by
 have key:WpF Tryz.prog tb O7 [.slice b 0 D.length cap false,iv a,iv e,.func u9 []] m fun v m'=>v= .tuple []∧∃D',DRw m' b cap D'∧Keep m m' (fun x=>x=b)∧Srt D D' a e:=by
  refine WpF.go f0y ?_
  simp-implicitDefEqProofs only[a0q,b2I,aD (a:Int) 1,↓reduceIte,Nat.reduceEqDiff,Nat.reduceAdd,wA,wB,wC,wD]
  refine y7 (fun j fr mk=>∃i,a+1≤i∧j=e-i∧(ev (tm 0) fr= .slice b 0 D.length cap false∧ev (tm 1) fr=iv a∧ev (tm 2) fr=iv e∧ev (tm 3) fr= .func u9 []∧ev (tm 8) fr=iv (i:Nat))∧∃D',DRw mk b cap D'∧Keep m mk (fun x=>x=b)∧Srt D D' a i∧(i≤e∨(i=a+1∧D'=D))) (k:=e-(a+1))
   ⟨a+1,Nat.le_refl _,rfl,by simp-implicitDefEqProofs only[show(a:Int)+1=((a+1:Nat):Int) from rfl,d7,↓reduceIte,Nat.reduceEqDiff,and_self],D,h,Keep.refl hw _,.none (Nat.le_refl _),.inr ⟨rfl,rfl⟩⟩ ?_
  rintro j fr mk ⟨i,hi,rfl,⟨f0,f1,f2,f3,f8⟩,D',hR,kk,hS,hor⟩
  by_cases hlt:i<e
  ·have hlen:=hS.len
   simp-implicitDefEqProofs only[a0q,a6q,e2w,f2,f8,show((i:Int)<(e:Int))=True from eq_true (by omega),↓reduceIte,Nat.reduceEqDiff,wA,wB,wC,wD]
   refine y7 (fun j' fr mk=>∃j,a≤j∧j≤i∧j'=j∧(ev (tm 0) fr= .slice b 0 D.length cap false∧ev (tm 1) fr=iv a∧ev (tm 2) fr=iv e∧ev (tm 3) fr= .func u9 []∧ev (tm 8) fr=iv (i:Nat)∧ev (tm 9) fr=iv (j:Nat))∧∃D',DRw mk b cap D'∧Keep m mk (fun x=>x=b)∧Ins D D' a i j) (k:=i)
    ⟨i,by omega,Nat.le_refl _,rfl,by simp-implicitDefEqProofs only[f0,f1,f2,f3,f8,d7,↓reduceIte,Nat.reduceEqDiff,and_self],D',hR,kk,hS.ins⟩ ?_
   clear f0 f1 f2 f3 f8 hR kk hS hor hlen
   rintro j' fr mk ⟨j,haj,hji,rfl,⟨f0,f1,f2,f3,f8,f9⟩,D',hR,kk,hS⟩
   have hlen:=hS.len
   by_cases hja:a<j'
   ·obtain⟨y,hy⟩:∃y,D'[j']? =some y:=⟨_,List.getElem?_eq_getElem (by omega)⟩
    obtain⟨x,hx⟩:∃x,D'[j'-1]? =some x:=⟨_,List.getElem?_eq_getElem (by omega)⟩
    obtain⟨m1,c,hc,k1,r1⟩:=a4S kk.wf y x
    have hR1:=hR.keep kk.wf k1 id
    have hj1:(j':Int)-1=((j'-1:Nat):Int):=by omega
    have q1:=x9 (m:=mk) 2 b 0 D.length cap false (show j'<D.length by omega)
    have q2:=x9 (m:=mk) 2 b 0 D.length cap false (show j'-1<D.length by omega)
    have q3:=x9 (m:=m1) 2 b 0 D.length cap false (show j'<D.length by omega)
    have q4:=x9 (m:=m1) 2 b 0 D.length cap false (show j'-1<D.length by omega)
    rw[Nat.zero_add] at q1 q2 q3 q4
    cases hcmp:u6 y.2 x.2 with
    |false=>
     have hc0:¬c<0:=fun h=>by rw[hc.1 h] at hcmp;cases hcmp
     simp-implicitDefEqProofs only[a0q,a6o,b1n,f0,f1,f3,f8,f9,show((a:Int)<(j':Int))=True from eq_true (by omega),sB (j':Int) 1,hj1,q1,q2,(hR.rd hy).1,(hR.rd hx).1,r1.eq,eq_false hc0,K8,aD (i:Int) 1,↓reduceIte,Nat.reduceEqDiff,List.getElem?_cons_succ,List.getElem?_cons_zero,exists_eq_left',wA,wB,wC,wD]
     exact y8 (k':=e-(i+1)) (by omega) ⟨i+1,by omega,rfl,by simp-implicitDefEqProofs only[f0,f1,f2,f3,show(i:Int)+1=((i+1:Nat):Int) from rfl,d7,↓reduceIte,Nat.reduceEqDiff,and_self],D',hR1,kk.tf k1,hS.done1 hx hy hcmp hja hji,.inl (by omega)⟩
    |true=>
     have hc0:=hc.2 hcmp
     obtain⟨m2,e2,hR2,k2⟩:=hR1.st k1.wf (show j'<D'.length by omega) x
     obtain⟨m3,e3,hR3,k3⟩:=hR2.st k2.wf (show j'-1<(D'.set j' x).length by rw[List.length_set];omega) y
     have q5:=x9 (m:=m2) 2 b 0 D.length cap false (show j'-1<D.length by omega)
     rw[Nat.zero_add] at q5
     simp-implicitDefEqProofs only[a0q,a6o,d7C,d9d,f0,f1,f3,f9,show((a:Int)<(j':Int))=True from eq_true (by omega),sB (j':Int) 1,hj1,q1,q2,q3,q4,q5,(hR.rd hy).1,(hR.rd hx).1,(hR1.rd hy).1,(hR1.rd hx).1,r1.eq,eq_true hc0,K8,e2,e3,↓reduceIte,Nat.reduceEqDiff,Nat.reduceAdd,List.getElem?_cons_succ,List.getElem?_cons_zero,exists_eq_left',wA,wB,wC,wD]
     exact y8 (k':=j'-1) (by omega) ⟨j'-1,by omega,by omega,rfl,by simp-implicitDefEqProofs only[f0,f1,f2,f3,f8,d7,↓reduceIte,Nat.reduceEqDiff,and_self],_,hR3,((kk.tf k1).trans k2 fun _ _ h=>h).trans k3 fun _ _ h=>h,hS.swap hx hy hcmp hja hji⟩
   ·obtain rfl:a=j':=by omega
    simp-implicitDefEqProofs only[a0q,a6o,b1n,f1,f8,f9,aD (i:Int) 1,↓reduceIte,Nat.reduceEqDiff,List.getElem?_cons_succ,List.getElem?_cons_zero,exists_eq_left',wA,wB,wC,wD]
    exact y8 (k':=e-(i+1)) (by omega) ⟨i+1,by omega,rfl,by simp-implicitDefEqProofs only[f0,f1,f2,f3,show(i:Int)+1=((i+1:Nat):Int) from rfl,d7,↓reduceIte,Nat.reduceEqDiff,and_self],D',hR,kk,hS.done0,.inl (by omega)⟩
  ·simp-implicitDefEqProofs only[a0q,a6q,f2,f8,show((i:Int)<(e:Int))=False from eq_false (by omega),↓reduceIte,Nat.reduceEqDiff,wA,wB,wC,wD]
   refine⟨D',hR,kk,?_⟩
   rcases hor with h1|⟨h1,rfl⟩
   ·obtain rfl:i=e:=by omega
    exact hS
   ·exact .none (by omega)
 obtain⟨v,m',⟨rfl,D',h1,h2,h3⟩,r⟩:=key.ran
 exact⟨m',D',h1,h2,h3,r⟩
end
section
variable {m m':M} {A:Ad} {S:PS} {own:Nat→Prop} {X:Nat→Ino} {tt aa:Nat} {x:AV} {ob:Option Nat} {D D':List (Nat×Bs)} {b cap a n:Nat}
theorem f6E(hw:Wf m)(h:DRw m b cap D)(hl:D.length≤20):
  ∃m' D',DRw m' b cap D'∧Keep m m' (fun x=>x=b)∧Srt D D' 0 D.length∧Ran Tryz.prog tb V4 [.slice b 0 D.length cap false,iv D.length,.func u9 []] m (.tuple []) m':=by
 by_cases h20:D.length=20
 ·obtain⟨m1,D1,hR1,k1,S1,r1⟩:=a2u (e:=20) (a:=0) hw h (by omega) (by omega) (by omega)
  have hl1:=S1.len
  obtain⟨m2,D2,hR2,k2,S2,r2⟩:=a2u (e:=20) (a:=20) k1.wf hR1 (by omega) (by omega) (by omega)
  have e2:D2=D1:=List.ext_getElem? fun k=>S2.out k (by omega)
  subst e2
  rw[hl1] at r2
  rw[h20] at r1 r2⊢
  refine⟨m2,D2,hR2,k1.trans k2 fun _ _ h=>h,S1,?_⟩
  have r1:Ran Tryz.prog tb O7 [.slice b 0 20 cap false,iv 0,iv 20,.func u9 []] m (.tuple []) m1:=r1
  have r2:Ran Tryz.prog tb O7 [.slice b 0 20 cap false,iv 20,iv 20,.func u9 []] m1 (.tuple []) m2:=r2
  have key:WpF Tryz.prog tb V4 [.slice b 0 20 cap false,iv 20,.func u9 []] m fun v m'=>v= .tuple []∧m'=m2:=by
   refine WpF.go a7e ?_
   simp-implicitDefEqProofs only[H4,a3d,a3v,↓reduceIte,Nat.reduceEqDiff,Nat.reduceAdd,wA,wB,wC,wD]
   refine y7 (fun j fr mk=>j=1∧(ev (tm 0) fr= .slice b 0 20 cap false∧ev (tm 1) fr=iv 20∧ev (tm 2) fr= .func u9 []∧ev (tm 6) fr=iv 20∧ev (tm 7) fr=iv 0∧ev (tm 8) fr=iv 20)∧mk=m∨j=0∧(ev (tm 0) fr= .slice b 0 20 cap false∧ev (tm 1) fr=iv 20∧ev (tm 2) fr= .func u9 []∧ev (tm 6) fr=iv 20∧ev (tm 7) fr=iv 20∧ev (tm 8) fr=iv 40)∧mk=m1) (k:=1) (.inl ⟨rfl,by simp-implicitDefEqProofs only[d7,↓reduceIte,Nat.reduceEqDiff,and_self],rfl⟩) ?_
   rintro j fr mk (⟨rfl,⟨f0,f1,f2,f6,f7,f8⟩,rfl⟩|⟨rfl,⟨f0,f1,f2,f6,f7,f8⟩,rfl⟩)
   ·simp-implicitDefEqProofs only[H4,a0R,b1l,b2N,b2p,f0,f1,f2,f6,f7,f8,r1.eq,aD (20:Int) 20,↓reduceIte,Nat.reduceEqDiff,wA,wB,wC,wD]
    exact y8 (k':=0) (by omega) (.inr ⟨rfl,by simp-implicitDefEqProofs only[f0,f1,f2,f6,show(20:Int)+20=40 from rfl,d7,↓reduceIte,Nat.reduceEqDiff,and_self],rfl⟩)
   ·simp-implicitDefEqProofs only[H4,a0R,a3k,f0,f1,f2,f7,f8,show((40:Int)≤20)=False from eq_false (by omega),r2.eq,↓reduceIte,Nat.reduceEqDiff,wA,wB,wC,wD]
    refine y7 (fun j fr mk=>(ev (tm 0) fr= .slice b 0 20 cap false∧ev (tm 1) fr=iv 20∧ev (tm 6) fr=iv 20)∧mk=m2) (k:=0) ⟨by simp-implicitDefEqProofs only[f0,f1,f6,d7,↓reduceIte,Nat.reduceEqDiff,and_self],rfl⟩ ?_
    clear f0 f1 f2 f6 f7 f8
    rintro j fr mk ⟨⟨f0,f1,f6⟩,rfl⟩
    simp-implicitDefEqProofs only[H4,a1Q,f1,f6,↓reduceIte,Nat.reduceEqDiff,wA,wB,wC,wD]
  exact key
 ·obtain⟨m1,D1,hR1,k1,S1,r1⟩:=a2u (e:=D.length) (a:=0) hw h (by omega) (by omega) (by omega)
  have r1:Ran Tryz.prog tb O7 [.slice b 0 D.length cap false,iv 0,iv D.length,.func u9 []] m (.tuple []) m1:=r1
  refine⟨m1,D1,hR1,k1,S1,?_⟩
  have key:WpF Tryz.prog tb V4 [.slice b 0 D.length cap false,iv D.length,.func u9 []] m fun v m'=>v= .tuple []∧m'=m1:=by
   refine WpF.go a7e ?_
   simp-implicitDefEqProofs only[H4,a3d,a3v,↓reduceIte,Nat.reduceEqDiff,Nat.reduceAdd,wA,wB,wC,wD]
   refine y7 (fun j fr mk=>(ev (tm 0) fr= .slice b 0 D.length cap false∧ev (tm 1) fr=iv D.length∧ev (tm 2) fr= .func u9 []∧ev (tm 6) fr=iv 20∧ev (tm 7) fr=iv 0∧ev (tm 8) fr=iv 20)∧mk=m) (k:=0) ⟨by simp-implicitDefEqProofs only[d7,↓reduceIte,Nat.reduceEqDiff,and_self],rfl⟩ ?_
   rintro j fr mk ⟨⟨f0,f1,f2,f6,f7,f8⟩,rfl⟩
   simp-implicitDefEqProofs only[H4,a0R,a3k,f0,f1,f2,f7,f8,show((20:Int)≤(D.length:Int))=False from eq_false (by omega),r1.eq,↓reduceIte,Nat.reduceEqDiff,wA,wB,wC,wD]
   refine y7 (fun j fr mk=>(ev (tm 0) fr= .slice b 0 D.length cap false∧ev (tm 1) fr=iv D.length∧ev (tm 6) fr=iv 20)∧mk=m1) (k:=0) ⟨by simp-implicitDefEqProofs only[f0,f1,f6,d7,↓reduceIte,Nat.reduceEqDiff,and_self],rfl⟩ ?_
   clear f0 f1 f2 f6 f7 f8
   rintro j fr mk ⟨⟨f0,f1,f6⟩,rfl⟩
   simp-implicitDefEqProofs only[H4,a1Q,f1,f6,show((20:Int)<(D.length:Int))=False from eq_false (by omega),↓reduceIte,Nat.reduceEqDiff,wA,wB,wC,wD]
  exact key
theorem SlAt.drw(h:SlAt m x7 2 x D.length (B1 D) ob):(x=j7∧D= []∧ob=none)∨∃b cap,x= .slice b 0 D.length cap false∧ob=some b∧DRw m b cap D:=by
 generalize hc:B1 D=cs at h
 generalize hn:D.length=n at h
 cases h with
 |nil=>exact .inl ⟨rfl,List.length_eq_zero_iff.1 hn,rfl⟩
 |row h h1 h2 h3 h4=>
  subst hc hn
  exact .inr ⟨_,_,rfl,rfl,⟨_,_,h,h2⟩,h3,h4⟩
theorem f78(hw:Wf m)(h:SlAt m x7 2 x D.length (B1 D) ob)(hl:D.length≤20):
  ∃m' D',SlAt m' x7 2 x D.length (B1 D') ob∧Keep m m' (fun b=>ob=some b)∧Srt D D' 0 D.length∧Ran Tryz.prog tb a6W [x,.func u9 []] m (.tuple []) m':=by
 rcases SlAt.drw h with⟨rfl,rfl,rfl⟩|⟨b,cap,rfl,rfl,hR⟩
 ·have key:WpF Tryz.prog tb V4 [j7,iv 0,.func u9 []] m fun v m'=>v= .tuple []∧m'=m:=by
   have i0:Ran Tryz.prog tb O7 [j7,iv 0,iv 0,.func u9 []] m (.tuple []) m:=by
    show WpF _ _ _ _ _ _
    refine WpF.go f0y ?_
    simp-implicitDefEqProofs only[a0q,b2I,aD (0:Int) 1,↓reduceIte,Nat.reduceEqDiff,Nat.reduceAdd,wA,wB,wC,wD]
    refine y7 (fun j fr mk=>(ev (tm 2) fr=iv 0∧ev (tm 8) fr=iv 1)∧mk=m) (k:=0) ⟨by simp-implicitDefEqProofs only[show(0:Int)+1=1 from rfl,d7,↓reduceIte,Nat.reduceEqDiff,and_self],rfl⟩ ?_
    rintro j fr mk ⟨⟨f2,f8⟩,rfl⟩
    simp-implicitDefEqProofs only[a0q,a6q,f2,f8,show((1:Int)<0)=False from eq_false (by omega),↓reduceIte,Nat.reduceEqDiff,wA,wB,wC,wD]
   refine WpF.go a7e ?_
   simp-implicitDefEqProofs only[H4,a3d,a3v,↓reduceIte,Nat.reduceEqDiff,Nat.reduceAdd,wA,wB,wC,wD]
   refine y7 (fun j fr mk=>(ev (tm 0) fr=j7∧ev (tm 1) fr=iv 0∧ev (tm 2) fr= .func u9 []∧ev (tm 6) fr=iv 20∧ev (tm 7) fr=iv 0∧ev (tm 8) fr=iv 20)∧mk=m) (k:=0) ⟨by simp-implicitDefEqProofs only[d7,↓reduceIte,Nat.reduceEqDiff,and_self],rfl⟩ ?_
   rintro j fr mk ⟨⟨f0,f1,f2,f6,f7,f8⟩,rfl⟩
   simp-implicitDefEqProofs only[H4,a0R,a3k,f0,f1,f2,f7,f8,show((20:Int)≤0)=False from eq_false (by omega),i0.eq,↓reduceIte,Nat.reduceEqDiff,wA,wB,wC,wD]
   refine y7 (fun j fr mk'=>(ev (tm 1) fr=iv 0∧ev (tm 6) fr=iv 20)∧mk'=mk) (k:=0) ⟨by simp-implicitDefEqProofs only[f1,f6,d7,↓reduceIte,Nat.reduceEqDiff,and_self],rfl⟩ ?_
   clear f0 f1 f2 f6 f7 f8
   rintro j fr mk' ⟨⟨f1,f6⟩,rfl⟩
   simp-implicitDefEqProofs only[H4,a1Q,f1,f6,show((20:Int)<0)=False from eq_false (by omega),↓reduceIte,Nat.reduceEqDiff,wA,wB,wC,wD]
  have key:Ran Tryz.prog tb V4 [j7,iv 0,.func u9 []] m (.tuple []) m:=key
  refine⟨m,[],h,Keep.refl hw _,.none (by simp),?_⟩
  refine WpF.go b3I ?_
  simp-implicitDefEqProofs only[b34,a6G,key.eq,↓reduceIte,Nat.reduceEqDiff,Nat.reduceAdd,wA,wB,wC,wD]
 ·obtain⟨m1,D1,hR1,k1,S1,r1⟩:=f6E hw hR hl
  refine⟨m1,D1,?_,k1.mono fun _ _ e=>by rw[e],S1,?_⟩
  ·have:=hR1.sl
   rw[S1.len] at this
   exact this
  refine WpF.go b3I ?_
  simp-implicitDefEqProofs only[b34,a6G,r1.eq,↓reduceIte,Nat.reduceEqDiff,Nat.reduceAdd,wA,wB,wC,wD]
end
end Go.Proofs.YtooooiidpaecmaaGreatDoor
set_option linter.unusedSimpArgs false
/- Parts of a list that change places; the merging of two parts in order. -/
namespace Go.Am
open Go Go.RowKit
abbrev Nm:=Nat×List UInt8
abbrev FN:=Nat→Option Nm
def nm(f:FN)(k:Nat):List UInt8:=match f k with
 |some e=>e.2
 |none=> []
theorem G9{f g:FN}{k j:Nat}(h:f k=g j):nm f k=nm g j:=by unfold nm;rw[h]
def SrtR(f:FN)(a b:Nat):Prop:=∀p q,a≤p→p<q→q<b→nle (nm f p) (nm f q)
theorem SrtR.le{f:FN}{a b p q:Nat}(h:SrtR f a b)(hp:a≤p)(hpq:p≤q)(hq:q<b):nle (nm f p) (nm f q):=by
 rcases Nat.lt_or_ge p q with h1|h1
 ·exact h p q hp h1 hq
 ·rw[show p=q by omega];exact f9b _
theorem a2J{D:List Nm}{p q:Nat}{x y:Nm}(hp:D[p]? =some x)(hq:D[q]? =some y)(k:Nat):((D.set p y).set q x)[k]? =if k=q then D[p]? else if k=p then D[q]? else D[k]? :=by
 obtain⟨hp1,_⟩:=List.getElem?_eq_some_iff.1 hp
 obtain⟨hq1,_⟩:=List.getElem?_eq_some_iff.1 hq
 rw[List.getElem?_set]
 by_cases h1:q=k
 ·rw[if_pos h1,if_pos (by rw[List.length_set];omega),if_pos h1.symm,hp]
 ·rw[if_neg h1,if_neg fun e=>h1 e.symm,List.getElem?_set]
  by_cases h2:p=k
  ·rw[if_pos h2,if_pos hp1,if_pos h2.symm,hq]
  ·rw[if_neg h2,if_neg fun e=>h2 e.symm]
theorem f8X{D:List Nm}{p q:Nat}{x y:Nm}(hp:D[p]? =some x)(hq:D[q]? =some y):((D.set p y).set q x).Perm D:=by
 obtain⟨hp1,ex⟩:=List.getElem?_eq_some_iff.1 hp
 obtain⟨hq1,ey⟩:=List.getElem?_eq_some_iff.1 hq
 have h1:=List.set_set_perm hp1 hq1
 have h2:=List.set_set_perm hq1 hp1
 rw[ey,ex] at h1 h2
 first|exact h1|exact h2
structure Rng(D D':List Nm)(a b:Nat):Prop where
 perm:D'.Perm D
 out:∀k,k<a∨b≤k→D'[k]? =D[k]?
 src:∀p,a≤p→p<b→∃p',a≤p'∧p'<b∧D'[p]? =D[p']?
theorem Rng.refl(D:List Nm)(a b:Nat):Rng D D a b:=⟨.refl _,fun _ _=>rfl,fun p h1 h2=>⟨p,h1,h2,rfl⟩⟩
theorem Rng.len{D D':List Nm}{a b:Nat}(h:Rng D D' a b):D'.length=D.length:=h.perm.length_eq
theorem Rng.trans{D D' D'':List Nm}{a b:Nat}(h:Rng D D' a b)(h':Rng D' D'' a b):Rng D D'' a b:=
 ⟨h'.perm.trans h.perm,fun k hk=>(h'.out k hk).trans (h.out k hk),fun p h1 h2=>by
  obtain⟨q,q1,q2,e⟩:=h'.src p h1 h2
  obtain⟨r,r1,r2,e2⟩:=h.src q q1 q2
  exact⟨r,r1,r2,e.trans e2⟩⟩
theorem Rng.wide{D D':List Nm}{a b a' b':Nat}(h:Rng D D' a b)(ha:a'≤a)(hb:b≤b'):Rng D D' a' b':=
 ⟨h.perm,fun k hk=>h.out k (by omega),fun p h1 h2=>by
  by_cases hin:a≤p∧p<b
  ·obtain⟨q,q1,q2,e⟩:=h.src p hin.1 hin.2
   exact⟨q,by omega,by omega,e⟩
  ·exact⟨p,h1,h2,h.out p (by omega)⟩⟩
theorem Rng.swp{D:List Nm}{p q a b:Nat}{x y:Nm}(hp:D[p]? =some x)(hq:D[q]? =some y)(h1:a≤p∧p<b)(h2:a≤q∧q<b):Rng D ((D.set p y).set q x) a b:=
 ⟨f8X hp hq,fun k hk=>by rw[a2J hp hq,if_neg (by omega),if_neg (by omega)],fun k k1 k2=>by
  rw[a2J hp hq]
  by_cases e1:k=q
  ·rw[if_pos e1];exact⟨p,h1.1,h1.2,rfl⟩
  ·rw[if_neg e1]
   by_cases e2:k=p
   ·rw[if_pos e2];exact⟨q,h2.1,h2.2,rfl⟩
   ·rw[if_neg e2];exact⟨k,k1,k2,rfl⟩⟩
def swf(f:FN)(a c n:Nat):FN:=fun k=>if a≤k∧k<a+n then f (c+(k-a)) else if c≤k∧k<c+n then f (a+(k-c)) else f k
theorem f9d{f g h:FN}{a c i:Nat}(hac:a+i<c)(hg:∀k,g k=swf f a c i k)(hh:∀k,h k=if k=c+i then g (a+i) else if k=a+i then g (c+i) else g k)(k:Nat):h k=swf f a c (i+1) k:=by
 rw[hh]
 simp only[hg]
 unfold swf
 repeat' split
 all_goals first|(exfalso;omega)|rfl|(congr 1;omega)
def E2(f:FN)(i j m:Nat):FN:=fun k=>if m-i≤k∧k<m-i+j then f (k+i) else if m-i+j≤k∧k<m+j then f (k-j) else f k
theorem g3H{f g T:FN}{i j m:Nat}(hi:i≤m)(hij:j<i)(hT:∀k,E2 f i j m k=T k)(hg:∀k,g k=swf f (m-i) m j k)(k:Nat):E2 g (i-j) j m k=T k:=by
 rw[←hT]
 unfold E2
 simp only[hg]
 unfold swf
 repeat' split
 all_goals first|(exfalso;omega)|rfl|(congr 1;omega)
theorem g3T{f g T:FN}{i j m:Nat}(hi:i≤m)(hij:i<j)(hT:∀k,E2 f i j m k=T k)(hg:∀k,g k=swf f (m-i) (m+j-i) i k)(k:Nat):E2 g i (j-i) m k=T k:=by
 rw[←hT]
 unfold E2
 simp only[hg]
 unfold swf
 repeat' split
 all_goals first|(exfalso;omega)|rfl|(congr 1;omega)
theorem g2W{f g T:FN}{i m:Nat}(hi:i≤m)(hT:∀k,E2 f i i m k=T k)(hg:∀k,g k=swf f (m-i) m i k)(k:Nat):g k=T k:=by
 rw[←hT,hg]
 unfold E2 swf
 repeat' split
 all_goals first|(exfalso;omega)|rfl|(congr 1;omega)
theorem g0Q{f g:FN}{a m b s e mid:Nat}(ham:a<m)(hmb:m<b)(hmid:mid=(a+b)/2)(h1:SrtR f a m)(h2:SrtR f m b)(he:e=mid+m-s)(hs1:a≤s)(hs2:s≤m)(hs3:s≤mid)(he1:e≤b)
  (hg:∀k,g k=E2 f (m-s) (e-m) m k) (hem:m≤e) (hlo:a<s→e<b→nle (nm f (s-1)) (nm f e)) (hhi:s<m→m<e→u6 (nm f (e-1)) (nm f s)=true):
  SrtR g a s∧SrtR g s mid∧SrtR g mid e∧SrtR g e b∧∀p q,a≤p→p<mid→mid≤q→q<b→nle (nm g p) (nm g q):=by
 have g1:∀k,k<s→nm g k=nm f k:=fun k hk=>G9 (by rw[hg];unfold E2;rw[if_neg (by omega),if_neg (by omega)])
 have g2:∀k,s≤k→k<mid→nm g k=nm f (k+(m-s)):=fun k hk hk2=>G9 (by rw[hg];unfold E2;rw[if_pos (by omega)])
 have g3:∀k,mid≤k→k<e→nm g k=nm f (k-(e-m)):=fun k hk hk2=>G9 (by rw[hg];unfold E2;rw[if_neg (by omega),if_pos (by omega)])
 have g4:∀k,e≤k→nm g k=nm f k:=fun k hk=>G9 (by rw[hg];unfold E2;rw[if_neg (by omega),if_neg (by omega)])
 refine⟨fun p q hp hpq hq=> ?_,fun p q hp hpq hq=> ?_,fun p q hp hpq hq=> ?_,fun p q hp hpq hq=> ?_,fun p q hp hpm hq hqb=> ?_⟩
 ·rw[g1 p (by omega),g1 q hq];exact h1 p q hp hpq (by omega)
 ·rw[g2 p hp (by omega),g2 q (by omega) hq];exact h2 _ _ (by omega) (by omega) (by omega)
 ·rw[g3 p hp (by omega),g3 q (by omega) hq];exact h1 _ _ (by omega) (by omega) (by omega)
 ·rw[g4 p hp,g4 q (by omega)];exact h2 p q (by omega) hpq hq
 ·by_cases hps:p<s
  ·rw[g1 p hps]
   by_cases hqe:q<e
   ·rw[g3 q hq hqe];exact h1.le hp (by omega) (by omega)
   ·rw[g4 q (by omega)]
    exact U5 (h1.le (q:=s-1) hp (by omega) (by omega)) (U5 (hlo (by omega) (by omega)) (h2.le (by omega) (by omega) hqb))
  ·rw[g2 p (by omega) hpm]
   by_cases hqe:q<e
   ·rw[g3 q hq hqe]
    exact U5 (h2.le (q:=e-1) (by omega) (by omega) (by omega)) (U5 (a4O (hhi (by omega) (by omega))) (h1.le (by omega) (by omega) (by omega)))
   ·rw[g4 q (by omega)]
    exact h2.le (by omega) (by omega) hqb
def upf(f:FN)(a k:Nat):FN:=fun p=>if a≤p∧p<k then f (p+1) else if p=k then f a else f p
def dnf(f:FN)(m k:Nat):FN:=fun p=>if p=k then f m else if k<p∧p≤m then f (p-1) else f p
theorem f8u{f g h:FN}{a k:Nat}(hak:a≤k)(hg:∀p,g p=upf f a k p)(hh:∀p,h p=if p=k+1 then g k else if p=k then g (k+1) else g p)(p:Nat):h p=upf f a (k+1) p:=by
 rw[hh]
 simp only[hg]
 unfold upf
 repeat' split
 all_goals first|(exfalso;omega)|rfl|(congr 1;omega)
theorem f9s{f g h:FN}{m k:Nat}(hkm:k≤m)(hk:0<k)(hg:∀p,g p=dnf f m k p)(hh:∀p,h p=if p=k-1 then g k else if p=k then g (k-1) else g p)(p:Nat):h p=dnf f m (k-1) p:=by
 rw[hh]
 simp only[hg]
 unfold dnf
 repeat' split
 all_goals first|(exfalso;omega)|rfl|(congr 1;omega)
theorem g2e{f g:FN}{a b i:Nat}(h2:SrtR f (a+1) b)(hi1:a+1≤i)(hi2:i≤b)(hlo:a+1<i→u6 (nm f (i-1)) (nm f a)=true)(hhi:i<b→u6 (nm f i) (nm f a)=false)(hg:∀p,g p=upf f a (i-1) p):SrtR g a b:=by
 have g1:∀p,a≤p→p<i-1→nm g p=nm f (p+1):=fun p h h'=>G9 (by rw[hg];unfold upf;rw[if_pos (by omega)])
 have g2:nm g (i-1)=nm f a:=G9 (by rw[hg];unfold upf;rw[if_neg (by omega),if_pos rfl])
 have g3:∀p,i≤p→nm g p=nm f p:=fun p h=>G9 (by rw[hg];unfold upf;rw[if_neg (by omega),if_neg (by omega)])
 intro p q hp hpq hq
 by_cases h1:q<i-1
 ·rw[g1 p hp (by omega),g1 q (by omega) h1];exact h2 _ _ (by omega) (by omega) (by omega)
 ·by_cases h3:q=i-1
  ·subst h3
   rw[g2,g1 p hp hpq]
   exact U5 (h2.le (q:=i-1) (by omega) (by omega) (by omega)) (a4O (hlo (by omega)))
  ·rw[g3 q (by omega)]
   by_cases h4:p<i-1
   ·rw[g1 p hp h4];exact h2 _ _ (by omega) (by omega) hq
   ·by_cases h5:p=i-1
    ·subst h5
     rw[g2]
     exact U5 (b:=nm f i) (hhi (by omega)) (h2.le (by omega) (by omega) hq)
    ·rw[g3 p (by omega)];exact h2 _ _ (by omega) hpq hq
theorem g4v{f g:FN}{a m i:Nat}(h1:SrtR f a m)(hi1:a≤i)(hi2:i≤m)(hlo:a<i→u6 (nm f m) (nm f (i-1))=false)(hhi:i<m→u6 (nm f m) (nm f i)=true)(hg:∀p,g p=dnf f m i p):SrtR g a (m+1):=by
 have g1:∀p,p<i→nm g p=nm f p:=fun p h=>G9 (by rw[hg];unfold dnf;rw[if_neg (by omega),if_neg (by omega)])
 have g2:nm g i=nm f m:=G9 (by rw[hg];unfold dnf;rw[if_pos rfl])
 have g3:∀p,i<p→p≤m→nm g p=nm f (p-1):=fun p h h'=>G9 (by rw[hg];unfold dnf;rw[if_neg (by omega),if_pos ⟨h,h'⟩])
 intro p q hp hpq hq
 by_cases h:q<i
 ·rw[g1 p (by omega),g1 q h];exact h1 _ _ hp hpq (by omega)
 ·by_cases h3:q=i
  ·subst h3
   rw[g2,g1 p hpq]
   exact U5 (h1.le (q:=q-1) hp (by omega) (by omega)) (hlo (by omega))
  ·rw[g3 q (by omega) (by omega)]
   by_cases h4:p<i
   ·rw[g1 p h4];exact h1.le hp (by omega) (by omega)
   ·by_cases h5:p=i
    ·subst h5
     rw[g2]
     exact U5 (a4O (hhi (by omega))) (h1.le (by omega) (by omega) (by omega))
    ·rw[g3 p (by omega) (by omega)];exact h1 _ _ (by omega) (by omega) (by omega)
end Go.Am
/- Parts of a row of names change places. -/
namespace Go.Proofs.YtooooiidpaecmaaGreatDoor
open Go Go.Am
abbrev fD(D:List (Nat×Bs)):FN:=fun k=>D[k]?
theorem G6{D:List (Nat×Bs)}{k:Nat}{e:Nat×Bs}(h:D[k]? =some e):nm (fD D) k=e.2:=by
 unfold nm
 rw[show fD D k=some e from h]
section
variable {m m':M} {D D':List (Nat×Bs)} {b cap a n c:Nat}
theorem Z0{i j:Nat}(h:j≤i):(i:Int)-(j:Int)=((i-j:Nat):Int):=by omega
theorem O3{i j:Nat}:(i:Int)+(j:Int)=((i+j:Nat):Int):=by omega
set_option maxRecDepth 20000 in
set_option maxHeartbeats 1000000 in
theorem b0d(hw:Wf m)(h:DRw m b cap D)(h1:a+n≤c)(h2:c+n≤D.length)(hl:D.length≤1000):
  ∃m' D',DRw m' b cap D'∧Keep m m' (fun x=>x=b)∧Rng D D' a (c+n)∧(∀k,D'[k]? =swf (fD D) a c n k)∧Ran Tryz.prog tb a1W [.slice b 0 D.length cap false,iv a,iv c,iv n,.func u9 []] m (.tuple []) m':=by
 have key:WpF Tryz.prog tb a1W [.slice b 0 D.length cap false,iv a,iv c,iv n,.func u9 []] m fun v m'=>v= .tuple []∧∃D',DRw m' b cap D'∧Keep m m' (fun x=>x=b)∧Rng D D' a (c+n)∧(∀k,D'[k]? =swf (fD D) a c n k):=by
  refine WpF.go g6c ?_
  simp-implicitDefEqProofs only[b4n,e1s,Nat.reduceAdd,wA,wB,wC,wD]
  refine y7 (fun j fr mk=>∃i,i≤n∧j=n-i∧(ev (tm 0) fr= .slice b 0 D.length cap false∧ev (tm 1) fr=iv a∧ev (tm 2) fr=iv c∧ev (tm 3) fr=iv n∧ev (tm 10) fr=iv (i:Nat))∧∃D',DRw mk b cap D'∧Keep m mk (fun x=>x=b)∧Rng D D' a (c+n)∧(∀k,D'[k]? =swf (fD D) a c i k)) (k:=n)
   ⟨0,Nat.zero_le _,rfl,by simp-implicitDefEqProofs only[nc0,d7,↓reduceIte,Nat.reduceEqDiff,nc0,and_self],D,h,Keep.refl hw _,.refl _ _ _,fun k=>by unfold swf;rw[if_neg (by omega),if_neg (by omega)]⟩ ?_
  rintro j fr mk ⟨i,hi,rfl,⟨f0,f1,f2,f3,f10⟩,D',hR,kk,hS,hf⟩
  have hlen:=hS.len
  by_cases hlt:i<n
  ·obtain⟨x,hx⟩:∃x,D'[a+i]? =some x:=⟨_,List.getElem?_eq_getElem (by omega)⟩
   obtain⟨y,hy⟩:∃y,D'[c+i]? =some y:=⟨_,List.getElem?_eq_getElem (by omega)⟩
   obtain⟨m2,e2,hR2,k2⟩:=hR.st kk.wf (show a+i<D'.length by omega) y
   obtain⟨m3,e3,hR3,k3⟩:=hR2.st k2.wf (show c+i<(D'.set (a+i) y).length by rw[List.length_set];omega) x
   have q1:=x9 (m:=mk) 2 b 0 D.length cap false (show a+i<D.length by omega)
   have q2:=x9 (m:=mk) 2 b 0 D.length cap false (show c+i<D.length by omega)
   have q3:=x9 (m:=m2) 2 b 0 D.length cap false (show c+i<D.length by omega)
   rw[Nat.zero_add] at q1 q2 q3
   simp-implicitDefEqProofs only[b4n,b3b,d5q,e1o,f0,f1,f2,f3,f10,show((i:Int)<(n:Int))=True from eq_true (by omega),aD (a:Int) (i:Int),aD (c:Int) (i:Int),aD (i:Int) 1,O3 (i:=a) (j:=i),O3 (i:=c) (j:=i),q1,q2,q3,(hR.rd hx).1,(hR.rd hy).1,e2,e3,K8,↓reduceIte,Nat.reduceEqDiff,Nat.reduceAdd,List.getElem?_cons_succ,List.getElem?_cons_zero,exists_eq_left',wA,wB,wC,wD]
   exact y8 (k':=n-(i+1)) (by omega) ⟨i+1,by omega,rfl,by simp-implicitDefEqProofs only[f0,f1,f2,f3,show(i:Int)+1=((i+1:Nat):Int) from rfl,d7,↓reduceIte,Nat.reduceEqDiff,and_self],_,hR3,(kk.trans k2 fun _ _ h=>h).trans k3 fun _ _ h=>h,hS.trans (.swp hx hy ⟨by omega,by omega⟩ ⟨by omega,by omega⟩),fun k=>f9d (g:=fD D') (h:=fD ((D'.set (a+i) y).set (c+i) x)) (by omega) hf (fun k=>a2J hx hy k) k⟩
  ·obtain rfl:i=n:=by omega
   simp-implicitDefEqProofs only[b4n,b3b,f3,f10,↓reduceIte,Nat.reduceEqDiff,wA,wB,wC,wD]
   exact⟨D',hR,kk,hS,hf⟩
 obtain⟨v,m',⟨rfl,D',h1,h2,h3,h4⟩,r⟩:=key.ran
 exact⟨m',D',h1,h2,h3,h4,r⟩
set_option maxRecDepth 20000 in
set_option maxHeartbeats 1000000 in
theorem g0I{mi e:Nat}(hw:Wf m)(h:DRw m b cap D)(h1:a<mi)(h2:mi<e)(h3:e≤D.length)(hl:D.length≤1000):
  ∃m' D',DRw m' b cap D'∧Keep m m' (fun x=>x=b)∧Rng D D' a e∧(∀k,D'[k]? =E2 (fD D) (mi-a) (e-mi) mi k)∧Ran Tryz.prog tb a6R [.slice b 0 D.length cap false,iv a,iv mi,iv e,.func u9 []] m (.tuple []) m':=by
 have key:WpF Tryz.prog tb a6R [.slice b 0 D.length cap false,iv a,iv mi,iv e,.func u9 []] m fun v m'=>v= .tuple []∧∃D',DRw m' b cap D'∧Keep m m' (fun x=>x=b)∧Rng D D' a e∧(∀k,D'[k]? =E2 (fD D) (mi-a) (e-mi) mi k):=by
  refine WpF.go g46 ?_
  simp-implicitDefEqProofs only[a7A,d65,e6O,sB (mi:Int) (a:Int),sB (e:Int) (mi:Int),Z0 (show a≤mi by omega),Z0 (show mi≤e by omega),↓reduceIte,Nat.reduceEqDiff,Nat.reduceAdd,wA,wB,wC,wD]
  refine y7 (fun k fr mk=>∃i j,0<i∧0<j∧i≤mi-a∧mi+j≤e∧k=i+j∧(ev (tm 0) fr= .slice b 0 D.length cap false∧ev (tm 2) fr=iv mi∧ev (tm 4) fr= .func u9 []∧ev (tm 10) fr=iv (i:Nat)∧ev (tm 11) fr=iv (j:Nat))∧∃D',DRw mk b cap D'∧Keep m mk (fun x=>x=b)∧Rng D D' a e∧(∀k,E2 (fD D') i j mi k=E2 (fD D) (mi-a) (e-mi) mi k)) (k:=mi-a+(e-mi))
   ⟨mi-a,e-mi,by omega,by omega,by omega,by omega,rfl,by simp-implicitDefEqProofs only[d7,↓reduceIte,Nat.reduceEqDiff,and_self],D,h,Keep.refl hw _,.refl _ _ _,fun k=>rfl⟩ ?_
  rintro _ fr mk ⟨i,j,hi0,hj0,hi,hj,rfl,⟨f0,f2,f4,f10,f11⟩,D',hR,kk,hS,hf⟩
  have hlen:=hS.len
  by_cases hij:i=j
  ·subst hij
   obtain⟨m2,D2,hR2,k2,S2,g2,r2⟩:=b0d (a:=mi-i) (c:=mi) (n:=i) kk.wf hR (by omega) (by omega) (by omega)
   rw[hlen] at r2
   simp-implicitDefEqProofs only[a7A,a6g,e26,f0,f2,f4,f10,f11,eq_self,sB (mi:Int) (i:Int),Z0 (show i≤mi by omega),r2.eq,↓reduceIte,Nat.reduceEqDiff,wA,wB,wC,wD]
   exact⟨D2,hR2,kk.trans k2 fun _ _ h=>h,hS.trans (S2.wide (by omega) (by omega)),fun k=>g2W (g:=fD D2) (by omega) hf g2 k⟩
  ·rcases Nat.lt_or_ge j i with hlt|hge
   ·obtain⟨m2,D2,hR2,k2,S2,g2,r2⟩:=b0d (a:=mi-i) (c:=mi) (n:=j) kk.wf hR (by omega) (by omega) (by omega)
    rw[hlen] at r2
    simp-implicitDefEqProofs only[a7A,a6g,b2e,e67,e1x,f0,f2,f4,f10,f11,show((i:Int)=(j:Int))=False from eq_false (by omega),show((j:Int)<(i:Int))=True from eq_true (by omega),sB (mi:Int) (i:Int),Z0 (show i≤mi by omega),r2.eq,sB (i:Int) (j:Int),Z0 (show j≤i by omega),↓reduceIte,Nat.reduceEqDiff,wA,wB,wC,wD]
    exact y8 (k':=i-j+j) (by omega) ⟨i-j,j,by omega,hj0,by omega,hj,rfl,by simp-implicitDefEqProofs only[f0,f2,f4,f11,d7,↓reduceIte,Nat.reduceEqDiff,and_self],D2,hR2,kk.trans k2 fun _ _ h=>h,hS.trans (S2.wide (by omega) (by omega)),fun k=>g3H (g:=fD D2) (by omega) hlt hf g2 k⟩
   ·obtain⟨m2,D2,hR2,k2,S2,g2,r2⟩:=b0d (a:=mi-i) (c:=mi+j-i) (n:=i) kk.wf hR (by omega) (by omega) (by omega)
    rw[hlen] at r2
    simp-implicitDefEqProofs only[a7A,a6g,b2e,d9j,d5O,f0,f2,f4,f10,f11,show((i:Int)=(j:Int))=False from eq_false (by omega),show((j:Int)<(i:Int))=False from eq_false (by omega),sB (mi:Int) (i:Int),Z0 (show i≤mi by omega),aD (mi:Int) (j:Int),O3 (i:=mi) (j:=j),sB ((mi+j:Nat):Int) (i:Int),Z0 (show i≤mi+j by omega),r2.eq,sB (j:Int) (i:Int),Z0 (show i≤j by omega),↓reduceIte,Nat.reduceEqDiff,wA,wB,wC,wD]
    exact y8 (k':=i+(j-i)) (by omega) ⟨i,j-i,hi0,by omega,hi,by omega,rfl,by simp-implicitDefEqProofs only[f0,f2,f4,f10,d7,↓reduceIte,Nat.reduceEqDiff,and_self],D2,hR2,kk.trans k2 fun _ _ h=>h,hS.trans (S2.wide (by omega) (by omega)),fun k=>g3T (g:=fD D2) (by omega) (by omega) hf g2 k⟩
 obtain⟨v,m',⟨rfl,D',h1,h2,h3,h4⟩,r⟩:=key.ran
 exact⟨m',D',h1,h2,h3,h4,r⟩
end
end Go.Proofs.YtooooiidpaecmaaGreatDoor
/- Two parts of a row of names that are in order are merged. -/
namespace Go.Am
open Go Go.RowKit
theorem a0M(n:Nat)(h:n≤10000):ofI .u64 (IntKind.u64.wrap (n:Int))= .p (.int .u64 (n:Int)):=by
 rw[IntWalk.u64_in _ (by omega)];rfl
theorem a0J{P:Program}(t:TypeId)(n:Nat):d8 P .shr t (.p (.int .u64 (n:Int))) (.p (.int .u64 1))=some (.p (.int .u64 ((n/2:Nat):Int))):=by
 show(if(1:Int)<0 then none else some (ofI .u64 ((n:Int).fdiv (2^min (1:Int).toNat 64))))=_
 rw[if_neg (by omega)]
 show some (AV.p (.int .u64 ((n:Int).fdiv 2)))=_
 rw[Int.fdiv_eq_ediv_of_nonneg _ (by omega)]
 congr 2
theorem a0O(n:Nat)(h:n≤10000)(m:M):Z8 .i64 (.cst (.p (.int .u64 (n:Int)))) .leaf m=some (iv (n:Int),m):=by
 show some (ofI .i64 (IntKind.i64.wrap (n:Int)),m)=_
 rw[IntWalk.i64_in _ (by omega)];rfl
theorem e3p{f:FN}{i j m:Nat}(h:i=0∨j=0)(k:Nat):f k=E2 f i j m k:=by
 unfold E2
 rcases h with rfl|rfl
 ·by_cases h:m-0≤k∧k<m-0+j
  ·rw[if_pos h];rfl
  ·rw[if_neg h,if_neg (by omega)]
 ·rw[if_neg (by omega)]
  by_cases h:m-i+0≤k∧k<m+0
  ·rw[if_pos h];rfl
  ·rw[if_neg h]
end Go.Am
namespace Go.Proofs.YtooooiidpaecmaaGreatDoor
open Go Go.Am
section
variable {m m' mk:M} {D D':List (Nat×Bs)} {b cap a n c L mi e:Nat} {fr:Go.Am.Fr}
set_option maxRecDepth 20000 in
set_option maxHeartbeats 1000000 in
theorem g6a(hw:Wf m)(h:DRw m b cap D)(hme:a+1<e)(he:e≤D.length)(hl:D.length≤1000)(h2:SrtR (fD D) (a+1) e):
  ∃m' D',DRw m' b cap D'∧Keep m m' (fun x=>x=b)∧Rng D D' a e∧SrtR (fD D') a e∧Ran Tryz.prog tb J7 [.slice b 0 D.length cap false,iv a,iv (a+1:Nat),iv e,.func u9 []] m (.tuple []) m':=by
 have key:WpF Tryz.prog tb J7 [.slice b 0 D.length cap false,iv a,iv (a+1:Nat),iv e,.func u9 []] m fun v m'=>v= .tuple []∧∃D',DRw m' b cap D'∧Keep m m' (fun x=>x=b)∧Rng D D' a e∧SrtR (fD D') a e:=by
  obtain⟨x,hx⟩:∃x,D[a]? =some x:=⟨_,List.getElem?_eq_getElem (by omega)⟩
  refine WpF.go b3t ?_
  simp-implicitDefEqProofs only[C0,a5V,d7s,e0G,sB ((a+1:Nat):Int) (a:Int),show(((a+1:Nat):Int)-(a:Int)=1)=True from eq_true (by omega),↓reduceIte,Nat.reduceEqDiff,Nat.reduceAdd,wA,wB,wC,wD]
  refine y7 (fun k fr mk=>∃i j,a+1≤i∧i≤j∧j≤e∧k=j-i∧(ev (tm 0) fr= .slice b 0 D.length cap false∧ev (tm 1) fr=iv a∧ev (tm 3) fr=iv e∧ev (tm 4) fr= .func u9 []∧ev (tm 10) fr=iv (i:Nat)∧ev (tm 11) fr=iv (j:Nat))∧DRw mk b cap D∧Keep m mk (fun _=>False)∧(a+1<i→u6 (nm (fD D) (i-1)) (nm (fD D) a)=true)∧(j<e→u6 (nm (fD D) j) (nm (fD D) a)=false)) (k:=e-(a+1))
   ⟨a+1,e,by omega,by omega,by omega,rfl,by simp-implicitDefEqProofs only[d7,↓reduceIte,Nat.reduceEqDiff,and_self],h,Keep.refl hw _,fun h=>by omega,fun h=>by omega⟩ ?_
  rintro _ fr mk ⟨i,j,hi,hij,hj,rfl,⟨f0,f1,f3,f4,f10,f11⟩,hR,kk,g1,g2⟩
  by_cases hlt:i<j
  ·obtain⟨y,hy⟩:∃y,D[(i+j)/2]? =some y:=⟨_,List.getElem?_eq_getElem (by omega)⟩
   obtain⟨m1,c,hc,k1,r1⟩:=a4S kk.wf y x
   have hR1:=hR.keep kk.wf k1 id
   have q1:=x9 (m:=mk) 2 b 0 D.length cap false (show(i+j)/2<D.length by omega)
   have q2:=x9 (m:=mk) 2 b 0 D.length cap false (show a<D.length by omega)
   rw[Nat.zero_add] at q1 q2
   cases hcmp:u6 y.2 x.2 with
   |true=>
    have hc0:=hc.2 hcmp
    simp-implicitDefEqProofs only[C0,a6F,b1X,b1i,d41,f0,f1,f4,f10,f11,show((i:Int)<(j:Int))=True from eq_true (by omega),aD (i:Int) (j:Int),O3 (i:=i) (j:=j),N6,P6,a0M (i+j) (by omega),D8,a0J,a0O ((i+j)/2) (by omega),q1,q2,(hR.rd hx).1,(hR.rd hy).1,r1.eq,eq_true hc0,K8,aD (((i+j)/2:Nat):Int) 1,↓reduceIte,Nat.reduceEqDiff,List.getElem?_cons_succ,List.getElem?_cons_zero,exists_eq_left',wA,wB,wC,wD]
    exact y8 (k':=j-((i+j)/2+1)) (by omega) ⟨(i+j)/2+1,j,by omega,by omega,hj,rfl,by simp-implicitDefEqProofs only[f0,f1,f3,f4,f11,show(((i+j)/2:Nat):Int)+1=(((i+j)/2+1:Nat):Int) from rfl,d7,↓reduceIte,Nat.reduceEqDiff,and_self],hR1,kk.tf k1,fun _=>by rw[Nat.add_sub_cancel,G6 hy,G6 hx];exact hcmp,g2⟩
   |false=>
    have hc0:¬c<0:=fun h=>by rw[hc.1 h] at hcmp;cases hcmp
    simp-implicitDefEqProofs only[C0,a6F,b1X,b1i,e5R,f0,f1,f4,f10,f11,show((i:Int)<(j:Int))=True from eq_true (by omega),aD (i:Int) (j:Int),O3 (i:=i) (j:=j),N6,P6,a0M (i+j) (by omega),D8,a0J,a0O ((i+j)/2) (by omega),q1,q2,(hR.rd hx).1,(hR.rd hy).1,r1.eq,eq_false hc0,K8,↓reduceIte,Nat.reduceEqDiff,List.getElem?_cons_succ,List.getElem?_cons_zero,exists_eq_left',wA,wB,wC,wD]
    exact y8 (k':=(i+j)/2-i) (by omega) ⟨i,(i+j)/2,hi,by omega,by omega,rfl,by simp-implicitDefEqProofs only[f0,f1,f3,f4,f10,d7,↓reduceIte,Nat.reduceEqDiff,and_self],hR1,kk.tf k1,g1,fun _=>by rw[G6 hy,G6 hx];exact hcmp⟩
  ·obtain rfl:i=j:=by omega
   simp-implicitDefEqProofs only[C0,a6F,e2c,f1,f10,f11,↓reduceIte,Nat.reduceEqDiff,wA,wB,wC,wD]
   have hi1:(i:Int)-1=((i-1:Nat):Int):=by omega
   refine y7 (fun j fr mk=>∃k,a≤k∧k≤i-1∧j=i-1-k∧(ev (tm 0) fr= .slice b 0 D.length cap false∧ev (tm 10) fr=iv (i:Nat)∧ev (tm 13) fr=iv (k:Nat))∧∃D',DRw mk b cap D'∧Keep m mk (fun x=>x=b)∧Rng D D' a e∧(∀p,D'[p]? =upf (fD D) a k p)) (k:=i-1-a)
    ⟨a,Nat.le_refl _,by omega,rfl,by simp-implicitDefEqProofs only[f0,f10,d7,↓reduceIte,Nat.reduceEqDiff,and_self],D,hR,kk.mono fun _ _ h=>h.elim,.refl _ _ _,fun p=>by unfold upf;rw[if_neg (by omega)];by_cases h:p=a;rw[if_pos h,h];rw[if_neg h]⟩ ?_
   clear f0 f1 f3 f4 f10 f11 hR kk
   rintro _ fr mk ⟨k,hak,hki,rfl,⟨f0,f10,f13⟩,D',hR,kk,hS,hf⟩
   have hlen:=hS.len
   by_cases hlt:k<i-1
   ·obtain⟨u,hu⟩:∃x,D'[k]? =some x:=⟨_,List.getElem?_eq_getElem (by omega)⟩
    obtain⟨v,hv⟩:∃y,D'[k+1]? =some y:=⟨_,List.getElem?_eq_getElem (by omega)⟩
    obtain⟨m2,e2,hR2,k2⟩:=hR.st kk.wf (show k<D'.length by omega) v
    obtain⟨m3,e3,hR3,k3⟩:=hR2.st k2.wf (show k+1<(D'.set k v).length by rw[List.length_set];omega) u
    have q1:=x9 (m:=mk) 2 b 0 D.length cap false (show k<D.length by omega)
    have q2:=x9 (m:=mk) 2 b 0 D.length cap false (show k+1<D.length by omega)
    have q3:=x9 (m:=m2) 2 b 0 D.length cap false (show k+1<D.length by omega)
    rw[Nat.zero_add] at q1 q2 q3
    simp-implicitDefEqProofs only[C0,b1j,c2j,d3a,f0,f10,f13,sB (i:Int) 1,hi1,show((k:Int)<((i-1:Nat):Int))=True from eq_true (by omega),aD (k:Int) 1,show(k:Int)+1=((k+1:Nat):Int) from rfl,q1,q2,q3,(hR.rd hu).1,(hR.rd hv).1,e2,e3,K8,↓reduceIte,Nat.reduceEqDiff,Nat.reduceAdd,List.getElem?_cons_succ,List.getElem?_cons_zero,exists_eq_left',wA,wB,wC,wD]
    exact y8 (k':=i-1-(k+1)) (by omega) ⟨k+1,by omega,by omega,rfl,by simp-implicitDefEqProofs only[f0,f10,d7,↓reduceIte,Nat.reduceEqDiff,and_self],_,hR3,(kk.trans k2 fun _ _ h=>h).trans k3 fun _ _ h=>h,hS.trans (.swp hu hv ⟨by omega,by omega⟩ ⟨by omega,by omega⟩),fun p=>f8u (g:=fD D') (h:=fD ((D'.set k v).set (k+1) u)) hak hf (fun p=>a2J hu hv p) p⟩
   ·obtain rfl:k=i-1:=by omega
    simp-implicitDefEqProofs only[C0,b1j,f10,f13,sB (i:Int) 1,hi1,↓reduceIte,Nat.reduceEqDiff,wA,wB,wC,wD]
    exact⟨D',hR,kk,hS,g2e h2 hi hj g1 g2 hf⟩
 obtain⟨v,m',⟨rfl,D',h1,h2,h3,h4⟩,r⟩:=key.ran
 exact⟨m',D',h1,h2,h3,h4,r⟩
set_option maxRecDepth 20000 in
set_option maxHeartbeats 1000000 in
theorem g6x(hw:Wf m)(h:DRw m b cap D)(ham:a+1<mi)(he:mi+1≤D.length)(hl:D.length≤1000)(h1:SrtR (fD D) a mi):
  ∃m' D',DRw m' b cap D'∧Keep m m' (fun x=>x=b)∧Rng D D' a (mi+1)∧SrtR (fD D') a (mi+1)∧Ran Tryz.prog tb J7 [.slice b 0 D.length cap false,iv a,iv mi,iv (mi+1:Nat),.func u9 []] m (.tuple []) m':=by
 have key:WpF Tryz.prog tb J7 [.slice b 0 D.length cap false,iv a,iv mi,iv (mi+1:Nat),.func u9 []] m fun v m'=>v= .tuple []∧∃D',DRw m' b cap D'∧Keep m m' (fun x=>x=b)∧Rng D D' a (mi+1)∧SrtR (fD D') a (mi+1):=by
  obtain⟨x,hx⟩:∃x,D[mi]? =some x:=⟨_,List.getElem?_eq_getElem (by omega)⟩
  refine WpF.go b3t ?_
  simp-implicitDefEqProofs only[C0,a5V,b0f,c8r,c0u,sB (mi:Int) (a:Int),show((mi:Int)-(a:Int)=1)=False from eq_false (by omega),sB ((mi+1:Nat):Int) (mi:Int),show(((mi+1:Nat):Int)-(mi:Int)=1)=True from eq_true (by omega),↓reduceIte,Nat.reduceEqDiff,Nat.reduceAdd,wA,wB,wC,wD]
  refine y7 (fun k fr mk=>∃i j,a≤i∧i≤j∧j≤mi∧k=j-i∧(ev (tm 0) fr= .slice b 0 D.length cap false∧ev (tm 2) fr=iv mi∧ev (tm 4) fr= .func u9 []∧ev (tm 14) fr=iv (i:Nat)∧ev (tm 15) fr=iv (j:Nat))∧DRw mk b cap D∧Keep m mk (fun _=>False)∧(a<i→u6 (nm (fD D) mi) (nm (fD D) (i-1))=false)∧(j<mi→u6 (nm (fD D) mi) (nm (fD D) j)=true)) (k:=mi-a)
   ⟨a,mi,by omega,by omega,by omega,rfl,by simp-implicitDefEqProofs only[d7,↓reduceIte,Nat.reduceEqDiff,and_self],h,Keep.refl hw _,fun h=>by omega,fun h=>by omega⟩ ?_
  rintro _ fr mk ⟨i,j,hi,hij,hj,rfl,⟨f0,f2,f4,f14,f15⟩,hR,kk,g1,g2⟩
  by_cases hlt:i<j
  ·obtain⟨y,hy⟩:∃y,D[(i+j)/2]? =some y:=⟨_,List.getElem?_eq_getElem (by omega)⟩
   obtain⟨m1,c,hc,k1,r1⟩:=a4S kk.wf x y
   have hR1:=hR.keep kk.wf k1 id
   have q1:=x9 (m:=mk) 2 b 0 D.length cap false (show(i+j)/2<D.length by omega)
   have q2:=x9 (m:=mk) 2 b 0 D.length cap false (show mi<D.length by omega)
   rw[Nat.zero_add] at q1 q2
   cases hcmp:u6 x.2 y.2 with
   |false=>
    have hc0:¬c<0:=fun h=>by rw[hc.1 h] at hcmp;cases hcmp
    simp-implicitDefEqProofs only[C0,a5b,b0A,b03,c12,f0,f2,f4,f14,f15,show((i:Int)<(j:Int))=True from eq_true (by omega),aD (i:Int) (j:Int),O3 (i:=i) (j:=j),N6,P6,a0M (i+j) (by omega),D8,a0J,a0O ((i+j)/2) (by omega),q1,q2,(hR.rd hx).1,(hR.rd hy).1,r1.eq,eq_false hc0,K8,aD (((i+j)/2:Nat):Int) 1,↓reduceIte,Nat.reduceEqDiff,List.getElem?_cons_succ,List.getElem?_cons_zero,exists_eq_left',wA,wB,wC,wD]
    exact y8 (k':=j-((i+j)/2+1)) (by omega) ⟨(i+j)/2+1,j,by omega,by omega,hj,rfl,by simp-implicitDefEqProofs only[f0,f2,f4,f15,show(((i+j)/2:Nat):Int)+1=(((i+j)/2+1:Nat):Int) from rfl,d7,↓reduceIte,Nat.reduceEqDiff,and_self],hR1,kk.tf k1,fun _=>by rw[Nat.add_sub_cancel,G6 hy,G6 hx];exact hcmp,g2⟩
   |true=>
    have hc0:=hc.2 hcmp
    simp-implicitDefEqProofs only[C0,a5b,b0A,b03,c56,f0,f2,f4,f14,f15,show((i:Int)<(j:Int))=True from eq_true (by omega),aD (i:Int) (j:Int),O3 (i:=i) (j:=j),N6,P6,a0M (i+j) (by omega),D8,a0J,a0O ((i+j)/2) (by omega),q1,q2,(hR.rd hx).1,(hR.rd hy).1,r1.eq,eq_true hc0,K8,↓reduceIte,Nat.reduceEqDiff,List.getElem?_cons_succ,List.getElem?_cons_zero,exists_eq_left',wA,wB,wC,wD]
    exact y8 (k':=(i+j)/2-i) (by omega) ⟨i,(i+j)/2,hi,by omega,by omega,rfl,by simp-implicitDefEqProofs only[f0,f2,f4,f14,d7,↓reduceIte,Nat.reduceEqDiff,and_self],hR1,kk.tf k1,g1,fun _=>by rw[G6 hy,G6 hx];exact hcmp⟩
  ·obtain rfl:i=j:=by omega
   simp-implicitDefEqProofs only[C0,a5b,c5I,f2,f14,f15,↓reduceIte,Nat.reduceEqDiff,wA,wB,wC,wD]
   refine y7 (fun j fr mk=>∃k,i≤k∧k≤mi∧j=k-i∧(ev (tm 0) fr= .slice b 0 D.length cap false∧ev (tm 14) fr=iv (i:Nat)∧ev (tm 17) fr=iv (k:Nat))∧∃D',DRw mk b cap D'∧Keep m mk (fun x=>x=b)∧Rng D D' a (mi+1)∧(∀p,D'[p]? =dnf (fD D) mi k p)) (k:=mi-i)
    ⟨mi,by omega,Nat.le_refl _,rfl,by simp-implicitDefEqProofs only[f0,f14,d7,↓reduceIte,Nat.reduceEqDiff,and_self],D,hR,kk.mono fun _ _ h=>h.elim,.refl _ _ _,fun p=>by unfold dnf;by_cases h:p=mi;rw[if_pos h,h];rw[if_neg h,if_neg (by omega)]⟩ ?_
   clear f0 f2 f4 f14 f15 hR kk
   rintro _ fr mk ⟨k,hak,hki,rfl,⟨f0,f14,f17⟩,D',hR,kk,hS,hf⟩
   have hlen:=hS.len
   by_cases hlt:i<k
   ·obtain⟨u,hu⟩:∃x,D'[k]? =some x:=⟨_,List.getElem?_eq_getElem (by omega)⟩
    obtain⟨v,hv⟩:∃y,D'[k-1]? =some y:=⟨_,List.getElem?_eq_getElem (by omega)⟩
    obtain⟨m2,e2,hR2,k2⟩:=hR.st kk.wf (show k<D'.length by omega) v
    obtain⟨m3,e3,hR3,k3⟩:=hR2.st k2.wf (show k-1<(D'.set k v).length by rw[List.length_set];omega) u
    have q1:=x9 (m:=mk) 2 b 0 D.length cap false (show k<D.length by omega)
    have q2:=x9 (m:=mk) 2 b 0 D.length cap false (show k-1<D.length by omega)
    have q3:=x9 (m:=m2) 2 b 0 D.length cap false (show k-1<D.length by omega)
    rw[Nat.zero_add] at q1 q2 q3
    simp-implicitDefEqProofs only[C0,b0s,c98,d2z,f0,f14,f17,show((i:Int)<(k:Int))=True from eq_true (by omega),sB (k:Int) 1,show(k:Int)-1=((k-1:Nat):Int) by omega,q1,q2,q3,(hR.rd hu).1,(hR.rd hv).1,e2,e3,K8,↓reduceIte,Nat.reduceEqDiff,Nat.reduceAdd,List.getElem?_cons_succ,List.getElem?_cons_zero,exists_eq_left',wA,wB,wC,wD]
    exact y8 (k':=k-1-i) (by omega) ⟨k-1,by omega,by omega,rfl,by simp-implicitDefEqProofs only[f0,f14,d7,↓reduceIte,Nat.reduceEqDiff,and_self],_,hR3,(kk.trans k2 fun _ _ h=>h).trans k3 fun _ _ h=>h,hS.trans (.swp hu hv ⟨by omega,by omega⟩ ⟨by omega,by omega⟩),fun p=>f9s (g:=fD D') (h:=fD ((D'.set k v).set (k-1) u)) hki (by omega) hf (fun p=>a2J hu hv p) p⟩
   ·obtain rfl:k=i:=by omega
    simp-implicitDefEqProofs only[C0,b0s,f14,f17,↓reduceIte,Nat.reduceEqDiff,wA,wB,wC,wD]
    exact⟨D',hR,kk,hS,g4v h1 hi hj g1 g2 hf⟩
 obtain⟨v,m',⟨rfl,D',h1,h2,h3,h4⟩,r⟩:=key.ran
 exact⟨m',D',h1,h2,h3,h4,r⟩
end
def a7y(N:Nat):Prop:=∀{m:M} {b cap:Nat} {D:List (Nat×Bs)} {a mi e:Nat},Wf m→DRw m b cap D→a<mi→mi<e→e≤D.length→D.length≤1000→e-a≤N→SrtR (fD D) a mi→SrtR (fD D) mi e→
 ∃m' D',DRw m' b cap D'∧Keep m m' (fun x=>x=b)∧Rng D D' a e∧SrtR (fD D') a e∧Ran Tryz.prog tb J7 [.slice b 0 D.length cap false,iv a,iv mi,iv e,.func u9 []] m (.tuple []) m'
section
variable {m m' mk:M} {D D':List (Nat×Bs)} {b cap a n c L mi e s en mid N:Nat} {fr:Go.Am.Fr} {Q:Go.Am.X→Go.Am.Fr→M→Prop}
theorem a9b{f g:FN}{a b:Nat}(h:SrtR f a b)(hg:∀k,a≤k→k<b→g k=f k):SrtR g a b:=fun p q h1 h2 h3=>by
 rw[G9 (hg p h1 (by omega)),G9 (hg q (by omega) h3)];exact h p q h1 h2 h3
theorem f84(ih:a7y N)(hw:Wf mk)(h:DRw mk b cap D)(hL:D.length=L)(f0:ev (tm 0) fr= .slice b 0 L cap false)(f3:ev (tm 3) fr=iv e)(f4:ev (tm 4) fr= .func u9 [])(f18:ev (tm 18) fr=iv mid)(f24:ev (tm 24) fr=iv en)
  (h1:mid≤en) (h2:en≤e) (he:e≤D.length) (hl:D.length≤1000) (hN:e-mid≤N) (s1:SrtR (fD D) mid en) (s2:SrtR (fD D) en e)
  (hQ:∀fr' m' D',DRw m' b cap D'→Keep mk m' (fun x=>x=b)→Rng D D' mid e→SrtR (fD D') mid e→Q .normal fr' m'):GX Tryz.prog tb a5x Q fr mk:=by
 by_cases q1:mid<en
 ·by_cases q2:en<e
  ·obtain⟨m2,D2,hR2,k2,S2,g2,r2⟩:=ih hw h q1 q2 he hl hN s1 s2
   rw[hL] at r2
   simp-implicitDefEqProofs only[C0,a5j,c71,f0,f3,f4,f18,f24,show((mid:Int)<(en:Int))=True from eq_true (by omega),show((en:Int)<(e:Int))=True from eq_true (by omega),r2.eq,↓reduceIte,Nat.reduceEqDiff,wA,wB,wC,wD]
   exact hQ _ _ D2 hR2 k2 S2 g2
  ·obtain rfl:en=e:=by omega
   simp-implicitDefEqProofs only[C0,a5j,f3,f18,f24,show((mid:Int)<(en:Int))=True from eq_true (by omega),↓reduceIte,Nat.reduceEqDiff,wA,wB,wC,wD]
   exact hQ _ _ D h (Keep.refl hw _) (.refl _ _ _) s1
 ·obtain rfl:mid=en:=by omega
  simp-implicitDefEqProofs only[C0,a5j,f18,f24,↓reduceIte,Nat.reduceEqDiff,wA,wB,wC,wD]
  exact hQ _ _ D h (Keep.refl hw _) (.refl _ _ _) s2
theorem g0Y(ih:a7y N)(hw:Wf mk)(h:DRw mk b cap D)(hL:D.length=L)(f0:ev (tm 0) fr= .slice b 0 L cap false)(f1:ev (tm 1) fr=iv a)(f3:ev (tm 3) fr=iv e)(f4:ev (tm 4) fr= .func u9 [])(f18:ev (tm 18) fr=iv mid)(f20:ev (tm 20) fr=iv s)(f24:ev (tm 24) fr=iv en)
  (h0:a≤s) (h01:s≤mid) (h1:mid≤en) (h2:en≤e) (he:e≤D.length) (hl:D.length≤1000) (hN:e-mid≤N) (hN2:mid-a≤N) (s1:SrtR (fD D) a s) (s2:SrtR (fD D) s mid) (s3:SrtR (fD D) mid en) (s4:SrtR (fD D) en e)
  (hx:∀p q,a≤p→p<mid→mid≤q→q<e→nle (nm (fD D) p) (nm (fD D) q))
  (hQ:∀fr' m' D',DRw m' b cap D'→Keep mk m' (fun x=>x=b)→Rng D D' a e→SrtR (fD D') a e→Q .normal fr' m'):GX Tryz.prog tb a2S Q fr mk:=by
 obtain⟨K,hK⟩:∃K,K=a5x:=⟨_,rfl⟩
 have o5:∀Q fr m,GX Tryz.prog tb a2S Q fr m=GX Tryz.prog tb (.seq b0r K) Q fr m:=fun _ _ _=>by rw[hK];rfl
 rw[o5]
 --what is left when the left part is in order
 have rest:∀{fr:Go.Am.Fr} {m2:M} {D2:List (Nat×Bs)},DRw m2 b cap D2→Keep mk m2 (fun x=>x=b)→Rng D D2 a mid→SrtR (fD D2) a mid→ev (tm 0) fr= .slice b 0 L cap false→ev (tm 3) fr=iv e→ev (tm 4) fr= .func u9 []→ev (tm 18) fr=iv mid→ev (tm 24) fr=iv en→GX Tryz.prog tb K Q fr m2:=by
  intro fr m2 D2 hR2 k2 S2 g2 f0 f3 f4 f18 f24
  subst hK
  refine f84 ih k2.wf hR2 (by rw[S2.len,hL]) f0 f3 f4 f18 f24 h1 h2 (by rw[S2.len];exact he) (by rw[S2.len];exact hl) hN (a9b s3 fun k q1 q2=>S2.out k (by omega)) (a9b s4 fun k q1 q2=>S2.out k (by omega)) fun fr' m' D' hR3 k3 S3 g3=> ?_
  refine hQ fr' m' D' hR3 (k2.trans k3 fun _ _ h=>h) ((S2.wide (Nat.le_refl _) (by omega)).trans (S3.wide (by omega) (Nat.le_refl _))) fun p q hp hpq hq=> ?_
  by_cases q1:q<mid
  ·have e1:fD D' p=fD D2 p:=S3.out p (by omega)
   have e2:fD D' q=fD D2 q:=S3.out q (by omega)
   rw[G9 e1,G9 e2]
   exact g2 p q hp hpq q1
  ·by_cases p1:mid≤p
   ·exact g3 p q p1 hpq hq
   ·have e1:fD D' p=fD D2 p:=S3.out p (by omega)
    obtain⟨p',a1,a2,e2⟩:=S2.src p hp (by omega)
    obtain⟨q',b1,b2,e3⟩:=S3.src q (by omega) hq
    have e4:D2[q']? =D[q']? :=S2.out q' (by omega)
    rw[G9 (f:=fD D') (g:=fD D) (j:=p') (e1.trans e2),G9 (f:=fD D') (g:=fD D) (j:=q') (e3.trans e4)]
    exact hx p' q' a1 a2 b1 b2
 by_cases q1:a<s
 ·by_cases q2:s<mid
  ·obtain⟨m2,D2,hR2,k2,S2,g2,r2⟩:=ih hw h q1 q2 (by omega) hl hN2 s1 s2
   rw[hL] at r2
   simp-implicitDefEqProofs only[C0,a5e,c6b,f0,f1,f4,f18,f20,show((a:Int)<(s:Int))=True from eq_true (by omega),show((s:Int)<(mid:Int))=True from eq_true (by omega),r2.eq,↓reduceIte,Nat.reduceEqDiff,wA,wB,wC,wD]
   exact rest hR2 k2 S2 g2 (by simp-implicitDefEqProofs only[f0,d7,↓reduceIte,Nat.reduceEqDiff]) (by simp-implicitDefEqProofs only[f3,d7,↓reduceIte,Nat.reduceEqDiff]) (by simp-implicitDefEqProofs only[f4,d7,↓reduceIte,Nat.reduceEqDiff]) (by simp-implicitDefEqProofs only[f18,d7,↓reduceIte,Nat.reduceEqDiff]) (by simp-implicitDefEqProofs only[f24,d7,↓reduceIte,Nat.reduceEqDiff])
  ·obtain rfl:s=mid:=by omega
   simp-implicitDefEqProofs only[C0,a5e,f1,f18,f20,show((a:Int)<(s:Int))=True from eq_true (by omega),↓reduceIte,Nat.reduceEqDiff,wA,wB,wC,wD]
   exact rest h (Keep.refl hw _) (.refl _ _ _) s1 (by simp-implicitDefEqProofs only[f0,d7,↓reduceIte,Nat.reduceEqDiff]) (by simp-implicitDefEqProofs only[f3,d7,↓reduceIte,Nat.reduceEqDiff]) (by simp-implicitDefEqProofs only[f4,d7,↓reduceIte,Nat.reduceEqDiff]) (by simp-implicitDefEqProofs only[f18,d7,↓reduceIte,Nat.reduceEqDiff]) (by simp-implicitDefEqProofs only[f24,d7,↓reduceIte,Nat.reduceEqDiff])
 ·obtain rfl:a=s:=by omega
  simp-implicitDefEqProofs only[C0,a5e,f1,f20,↓reduceIte,Nat.reduceEqDiff,wA,wB,wC,wD]
  exact rest h (Keep.refl hw _) (.refl _ _ _) s2 (by simp-implicitDefEqProofs only[f0,d7,↓reduceIte,Nat.reduceEqDiff]) (by simp-implicitDefEqProofs only[f3,d7,↓reduceIte,Nat.reduceEqDiff]) (by simp-implicitDefEqProofs only[f4,d7,↓reduceIte,Nat.reduceEqDiff]) (by simp-implicitDefEqProofs only[f18,d7,↓reduceIte,Nat.reduceEqDiff]) (by simp-implicitDefEqProofs only[f24,d7,↓reduceIte,Nat.reduceEqDiff])
set_option maxRecDepth 20000 in
set_option maxHeartbeats 1000000 in
theorem g3j(ih:a7y N)(hw:Wf m)(h:DRw m b cap D)(ham:a+1<mi)(hme:mi+1<e)(he:e≤D.length)(hl:D.length≤1000)(hN:e-a≤N+1)(h1:SrtR (fD D) a mi)(h2:SrtR (fD D) mi e):
  ∃m' D',DRw m' b cap D'∧Keep m m' (fun x=>x=b)∧Rng D D' a e∧SrtR (fD D') a e∧Ran Tryz.prog tb J7 [.slice b 0 D.length cap false,iv a,iv mi,iv e,.func u9 []] m (.tuple []) m':=by
 have key:WpF Tryz.prog tb J7 [.slice b 0 D.length cap false,iv a,iv mi,iv e,.func u9 []] m fun v m'=>v= .tuple []∧∃D',DRw m' b cap D'∧Keep m m' (fun x=>x=b)∧Rng D D' a e∧SrtR (fD D') a e:=by
  obtain⟨mid,hmid⟩:∃mid,mid=(a+e)/2:=⟨_,rfl⟩
  have c1:(mi:Int)-(a:Int)=((mi-a:Nat):Int):=by omega
  have c2:(e:Int)-(mi:Int)=((e-mi:Nat):Int):=by omega
  have c3:((mid+mi:Nat):Int)-1=((mid+mi-1:Nat):Int):=by omega
  --the search,and what lies behind it
  have main:∀{fr:Go.Am.Fr} {lo hi:Nat},ev (tm 0) fr= .slice b 0 D.length cap false→ev (tm 1) fr=iv a→ev (tm 2) fr=iv mi→ev (tm 3) fr=iv e→ev (tm 4) fr= .func u9 []→ev (tm 18) fr=iv mid→ev (tm 19) fr=iv (mid+mi:Nat)→ev (tm 20) fr=iv lo→ev (tm 21) fr=iv hi→
    (mid<mi∧lo=mid+mi-e∧hi=mid∨mi≤mid∧lo=a∧hi=mi)→GX Tryz.prog tb a2U (FK Tryz.prog [] fun v m'=>v= .tuple []∧∃D',DRw m' b cap D'∧Keep m m' (fun x=>x=b)∧Rng D D' a e∧SrtR (fD D') a e) fr m:=by
   intro fr lo hi f0 f1 f2 f3 f4 f18 f19 f20 f21 hor
   have hlh:a≤lo∧lo≤hi∧hi≤mi∧hi≤mid:=by omega
   obtain⟨K,hK⟩:∃K,K=a5C:=⟨_,rfl⟩
   have o5:∀Q fr m,GX Tryz.prog tb a5D Q fr m=GX Tryz.prog tb (.seq (.reg b0F) K) Q fr m:=fun _ _ _=>by rw[hK];rfl
   obtain⟨K2,hK2⟩:∃K2,K2=a5D:=⟨_,rfl⟩
   have o6:∀Q fr m,GX Tryz.prog tb a2U Q fr m=GX Tryz.prog tb (.seq (.reg b0u) (.seq b07 K2)) Q fr m:=fun _ _ _=>by rw[hK2];rfl
   rw[o6]
   simp-implicitDefEqProofs only[C0,b0u,f19,sB ((mid+mi:Nat):Int) 1,c3,↓reduceIte,wA,wB,wC,wD]
   refine y7 (fun k fr mk=>∃i j,lo≤i∧i≤j∧j≤hi∧k=j-i∧(ev (tm 0) fr= .slice b 0 D.length cap false∧ev (tm 1) fr=iv a∧ev (tm 2) fr=iv mi∧ev (tm 3) fr=iv e∧ev (tm 4) fr= .func u9 []∧ev (tm 18) fr=iv mid∧ev (tm 19) fr=iv (mid+mi:Nat)∧ev (tm 20) fr=iv (i:Nat)∧ev (tm 21) fr=iv (j:Nat)∧ev (tm 22) fr=iv (mid+mi-1:Nat))∧DRw mk b cap D∧Keep m mk (fun _=>False)∧(lo<i→u6 (nm (fD D) (mid+mi-i)) (nm (fD D) (i-1))=false)∧(j<hi→u6 (nm (fD D) (mid+mi-1-j)) (nm (fD D) j)=true)) (k:=hi-lo)
    ⟨lo,hi,by omega,by omega,by omega,rfl,by simp-implicitDefEqProofs only[f0,f1,f2,f3,f4,f18,f19,f20,f21,d7,↓reduceIte,Nat.reduceEqDiff,and_self],h,Keep.refl hw _,fun h=>by omega,fun h=>by omega⟩ ?_
   clear f0 f1 f2 f3 f4 f18 f19 f20 f21
   rintro _ fr mk ⟨i,j,hi1,hij,hj,rfl,⟨f0,f1,f2,f3,f4,f18,f19,f20,f21,f22⟩,hR,kk,g1,g2⟩
   by_cases hlt:i<j
   ·obtain⟨x,hx⟩:∃x,D[mid+mi-1-(i+j)/2]? =some x:=⟨_,List.getElem?_eq_getElem (by omega)⟩
    obtain⟨y,hy⟩:∃y,D[(i+j)/2]? =some y:=⟨_,List.getElem?_eq_getElem (by omega)⟩
    obtain⟨m1,c,hc,k1,r1⟩:=a4S kk.wf x y
    have hR1:=hR.keep kk.wf k1 id
    have q1:=x9 (m:=mk) 2 b 0 D.length cap false (show(i+j)/2<D.length by omega)
    have q2:=x9 (m:=mk) 2 b 0 D.length cap false (show mid+mi-1-(i+j)/2<D.length by omega)
    rw[Nat.zero_add] at q1 q2
    have c4:((mid+mi-1:Nat):Int)-(((i+j)/2:Nat):Int)=((mid+mi-1-(i+j)/2:Nat):Int):=by omega
    cases hcmp:u6 x.2 y.2 with
    |false=>
     have hc0:¬c<0:=fun h=>by rw[hc.1 h] at hcmp;cases hcmp
     simp-implicitDefEqProofs only[C0,a5t,a97,a9R,c0J,f0,f4,f20,f21,f22,show((i:Int)<(j:Int))=True from eq_true (by omega),aD (i:Int) (j:Int),O3 (i:=i) (j:=j),N6,P6,a0M (i+j) (by omega),D8,a0J,a0O ((i+j)/2) (by omega),sB ((mid+mi-1:Nat):Int) (((i+j)/2:Nat):Int),c4,q1,q2,(hR.rd hx).1,(hR.rd hy).1,r1.eq,eq_false hc0,K8,aD (((i+j)/2:Nat):Int) 1,↓reduceIte,Nat.reduceEqDiff,List.getElem?_cons_succ,List.getElem?_cons_zero,exists_eq_left',wA,wB,wC,wD]
     exact y8 (k':=j-((i+j)/2+1)) (by omega) ⟨(i+j)/2+1,j,by omega,by omega,hj,rfl,by simp-implicitDefEqProofs only[f0,f1,f2,f3,f4,f18,f19,f21,f22,show(((i+j)/2:Nat):Int)+1=(((i+j)/2+1:Nat):Int) from rfl,d7,↓reduceIte,Nat.reduceEqDiff,and_self],hR1,kk.tf k1,fun _=>by rw[Nat.add_sub_cancel,show mid+mi-((i+j)/2+1)=mid+mi-1-(i+j)/2 by omega,G6 hy,G6 hx];exact hcmp,g2⟩
    |true=>
     have hc0:=hc.2 hcmp
     simp-implicitDefEqProofs only[C0,a5t,a97,a9R,c5j,f0,f4,f20,f21,f22,show((i:Int)<(j:Int))=True from eq_true (by omega),aD (i:Int) (j:Int),O3 (i:=i) (j:=j),N6,P6,a0M (i+j) (by omega),D8,a0J,a0O ((i+j)/2) (by omega),sB ((mid+mi-1:Nat):Int) (((i+j)/2:Nat):Int),c4,q1,q2,(hR.rd hx).1,(hR.rd hy).1,r1.eq,eq_true hc0,K8,↓reduceIte,Nat.reduceEqDiff,List.getElem?_cons_succ,List.getElem?_cons_zero,exists_eq_left',wA,wB,wC,wD]
     exact y8 (k':=(i+j)/2-i) (by omega) ⟨i,(i+j)/2,hi1,by omega,by omega,rfl,by simp-implicitDefEqProofs only[f0,f1,f2,f3,f4,f18,f19,f20,f22,d7,↓reduceIte,Nat.reduceEqDiff,and_self],hR1,kk.tf k1,g1,fun _=>by rw[G6 hy,G6 hx];exact hcmp⟩
   ·obtain rfl:i=j:=by omega
    have c5:((mid+mi:Nat):Int)-(i:Int)=((mid+mi-i:Nat):Int):=by omega
    simp-implicitDefEqProofs only[C0,a5t,f20,f21,↓reduceIte,Nat.reduceEqDiff,wA,wB,wC,wD]
    subst hK2
    rw[o5]
    simp-implicitDefEqProofs only[b0F,f19,f20,sB ((mid+mi:Nat):Int) (i:Int),c5,↓reduceIte,Nat.reduceEqDiff,wA,wB,wC,wD]
    have sc:=fun(g:FN) (hg:∀k,g k=E2 (fD D) (mi-i) (mid+mi-i-mi) mi k)=>g0Q (f:=fD D) (g:=g) (a:=a) (m:=mi) (b:=e) (s:=i) (e:=mid+mi-i) (mid:=mid) (by omega) (by omega) hmid h1 h2 rfl (by omega) (by omega) (by omega) (by omega) hg (by omega)
     (fun q1 q2=>by
      have:=g1 (by omega)
      exact this)
     (fun q1 q2=>by
      have:=g2 (by omega)
      rw[show mid+mi-i-1=mid+mi-1-i by omega];exact this)
    subst hK
    obtain⟨K,hK⟩:∃K,K=a2S:=⟨_,rfl⟩
    have o7:∀Q fr m,GX Tryz.prog tb a5C Q fr m=GX Tryz.prog tb (.seq b0l K) Q fr m:=fun _ _ _=>by rw[hK];rfl
    rw[o7]
    have rest:∀{fr:Go.Am.Fr} {m2:M} {D2:List (Nat×Bs)},DRw m2 b cap D2→Keep m m2 (fun x=>x=b)→Rng D D2 a e→(∀k,D2[k]? =E2 (fD D) (mi-i) (mid+mi-i-mi) mi k)→ev (tm 0) fr= .slice b 0 D.length cap false→ev (tm 1) fr=iv a→ev (tm 3) fr=iv e→ev (tm 4) fr= .func u9 []→ev (tm 18) fr=iv mid→ev (tm 20) fr=iv i→ev (tm 24) fr=iv (mid+mi-i:Nat)→
      GX Tryz.prog tb K (FK Tryz.prog [] fun v m'=>v= .tuple []∧∃D',DRw m' b cap D'∧Keep m m' (fun x=>x=b)∧Rng D D' a e∧SrtR (fD D') a e) fr m2:=by
     intro fr m2 D2 hR2 k2 S2 hg f0 f1 f3 f4 f18 f20 f24
     subst hK
     obtain⟨s1,s2,s3,s4,hx⟩:=sc (fD D2) hg
     refine g0Y ih k2.wf hR2 S2.len f0 f1 f3 f4 f18 f20 f24 (by omega) (by omega) (by omega) (by omega) (by rw[S2.len];exact he) (by rw[S2.len];exact hl) (by omega) (by omega) s1 s2 s3 s4 hx fun fr' m' D' hR3 k3 S3 g3=> ?_
     rw[a2O]
     exact⟨rfl,D',hR3,k2.trans k3 fun _ _ h=>h,S2.trans S3,g3⟩
    have kk':Keep m mk (fun x=>x=b):=kk.mono fun _ _ h=>h.elim
    by_cases q1:i<mi
    ·by_cases q2:mi<mid+mi-i
     ·obtain⟨m2,D2,hR2,k2,S2,g3,r2⟩:=g0I kk.wf hR q1 q2 (by omega) hl
      simp-implicitDefEqProofs only[C0,a5m,c8I,f0,f2,f4,f20,show((i:Int)<(mi:Int))=True from eq_true (by omega),show((mi:Int)<((mid+mi-i:Nat):Int))=True from eq_true (by omega),r2.eq,↓reduceIte,Nat.reduceEqDiff,wA,wB,wC,wD]
      exact rest hR2 (kk'.trans k2 fun _ _ h=>h) (S2.wide (by omega) (by omega)) g3 (by simp-implicitDefEqProofs only[f0,d7,↓reduceIte,Nat.reduceEqDiff]) (by simp-implicitDefEqProofs only[f1,d7,↓reduceIte,Nat.reduceEqDiff]) (by simp-implicitDefEqProofs only[f3,d7,↓reduceIte,Nat.reduceEqDiff]) (by simp-implicitDefEqProofs only[f4,d7,↓reduceIte,Nat.reduceEqDiff]) (by simp-implicitDefEqProofs only[f18,d7,↓reduceIte,Nat.reduceEqDiff]) (by simp-implicitDefEqProofs only[f20,d7,↓reduceIte,Nat.reduceEqDiff]) (by simp-implicitDefEqProofs only[d7,↓reduceIte,Nat.reduceEqDiff])
     ·simp-implicitDefEqProofs only[C0,a5m,f2,f20,show((i:Int)<(mi:Int))=True from eq_true (by omega),show((mi:Int)<((mid+mi-i:Nat):Int))=False from eq_false (by omega),↓reduceIte,Nat.reduceEqDiff,wA,wB,wC,wD]
      exact rest hR kk' (.refl _ _ _) (fun k=>e3p (f:=fD D) (.inr (by omega)) k) (by simp-implicitDefEqProofs only[f0,d7,↓reduceIte,Nat.reduceEqDiff]) (by simp-implicitDefEqProofs only[f1,d7,↓reduceIte,Nat.reduceEqDiff]) (by simp-implicitDefEqProofs only[f3,d7,↓reduceIte,Nat.reduceEqDiff]) (by simp-implicitDefEqProofs only[f4,d7,↓reduceIte,Nat.reduceEqDiff]) (by simp-implicitDefEqProofs only[f18,d7,↓reduceIte,Nat.reduceEqDiff]) (by simp-implicitDefEqProofs only[f20,d7,↓reduceIte,Nat.reduceEqDiff]) (by simp-implicitDefEqProofs only[d7,↓reduceIte,Nat.reduceEqDiff])
    ·simp-implicitDefEqProofs only[C0,a5m,f2,f20,show((i:Int)<(mi:Int))=False from eq_false (by omega),↓reduceIte,Nat.reduceEqDiff,wA,wB,wC,wD]
     exact rest hR kk' (.refl _ _ _) (fun k=>e3p (f:=fD D) (.inl (by omega)) k) (by simp-implicitDefEqProofs only[f0,d7,↓reduceIte,Nat.reduceEqDiff]) (by simp-implicitDefEqProofs only[f1,d7,↓reduceIte,Nat.reduceEqDiff]) (by simp-implicitDefEqProofs only[f3,d7,↓reduceIte,Nat.reduceEqDiff]) (by simp-implicitDefEqProofs only[f4,d7,↓reduceIte,Nat.reduceEqDiff]) (by simp-implicitDefEqProofs only[f18,d7,↓reduceIte,Nat.reduceEqDiff]) (by simp-implicitDefEqProofs only[f20,d7,↓reduceIte,Nat.reduceEqDiff]) (by simp-implicitDefEqProofs only[d7,↓reduceIte,Nat.reduceEqDiff])
  obtain⟨K,hK⟩:∃K,K=a2U:=⟨_,rfl⟩
  have o5:∀Q fr m,GX Tryz.prog tb a4W Q fr m=GX Tryz.prog tb (.seq a9T K) Q fr m:=fun _ _ _=>by rw[hK];rfl
  obtain⟨K3,hK3⟩:∃K3,K3=a4W:=⟨_,rfl⟩
  have o8:∀Q fr m,GX Tryz.prog tb b4g Q fr m=GX Tryz.prog tb (.seq b1I (.seq a99 (.seq (.reg b0Z) (.seq (.reg a96) (.seq (.reg b0J) K3))))) Q fr m:=fun _ _ _=>by rw[hK3];rfl
  refine WpF.go b3t ?_
  rw[o8]
  simp-implicitDefEqProofs only[C0,a5V,b0f,b0Z,a96,b0J,sB (mi:Int) (a:Int),c1,show(((mi-a:Nat):Int)=1)=False from eq_false (by omega),sB (e:Int) (mi:Int),c2,show(((e-mi:Nat):Int)=1)=False from eq_false (by omega),aD (a:Int) (e:Int),O3 (i:=a) (j:=e),N6,P6,a0M (a+e) (by omega),D8,a0J,←hmid,a0O mid (by omega),aD (mid:Int) (mi:Int),O3 (i:=mid) (j:=mi),↓reduceIte,Nat.reduceEqDiff,Nat.reduceAdd,wA,wB,wC,wD]
  subst hK3
  rw[o5]
  by_cases hor:mid<mi
  ·simp-implicitDefEqProofs only[C0,b08,c5k,d0H,show((mid:Int)<(mi:Int))=True from eq_true (by omega),sB ((mid+mi:Nat):Int) (e:Int),show((mid+mi:Nat):Int)-(e:Int)=((mid+mi-e:Nat):Int) by omega,↓reduceIte,Nat.reduceEqDiff,wA,wB,wC,wD]
   subst hK
   exact main (by simp-implicitDefEqProofs only[d7,↓reduceIte,Nat.reduceEqDiff]) (by simp-implicitDefEqProofs only[d7,↓reduceIte,Nat.reduceEqDiff]) (by simp-implicitDefEqProofs only[d7,↓reduceIte,Nat.reduceEqDiff]) (by simp-implicitDefEqProofs only[d7,↓reduceIte,Nat.reduceEqDiff]) (by simp-implicitDefEqProofs only[d7,↓reduceIte,Nat.reduceEqDiff]) (by simp-implicitDefEqProofs only[d7,↓reduceIte,Nat.reduceEqDiff]) (by simp-implicitDefEqProofs only[d7,↓reduceIte,Nat.reduceEqDiff]) (by simp-implicitDefEqProofs only[d7,↓reduceIte,Nat.reduceEqDiff]) (by simp-implicitDefEqProofs only[d7,↓reduceIte]) (.inl ⟨hor,rfl,rfl⟩)
  ·simp-implicitDefEqProofs only[C0,b08,c52,c5Y,show((mid:Int)<(mi:Int))=False from eq_false (by omega),↓reduceIte,Nat.reduceEqDiff,wA,wB,wC,wD]
   subst hK
   exact main (by simp-implicitDefEqProofs only[d7,↓reduceIte,Nat.reduceEqDiff]) (by simp-implicitDefEqProofs only[d7,↓reduceIte,Nat.reduceEqDiff]) (by simp-implicitDefEqProofs only[d7,↓reduceIte,Nat.reduceEqDiff]) (by simp-implicitDefEqProofs only[d7,↓reduceIte,Nat.reduceEqDiff]) (by simp-implicitDefEqProofs only[d7,↓reduceIte,Nat.reduceEqDiff]) (by simp-implicitDefEqProofs only[d7,↓reduceIte,Nat.reduceEqDiff]) (by simp-implicitDefEqProofs only[d7,↓reduceIte,Nat.reduceEqDiff]) (by simp-implicitDefEqProofs only[d7,↓reduceIte,Nat.reduceEqDiff]) (by simp-implicitDefEqProofs only[d7,↓reduceIte]) (.inr ⟨by omega,rfl,rfl⟩)
 obtain⟨v,m',⟨rfl,D',h1,h2,h3,h4⟩,r⟩:=key.ran
 exact⟨m',D',h1,h2,h3,h4,r⟩
theorem g2b(N:Nat):a7y N:=by
 induction N with
 |zero=>exact @fun m b cap D a mi e _ _ h1 h2 _ _ h3=>by omega
 |succ N ih=>
  exact @fun m b cap D a mi e hw h ham hme he hl hN h1 h2=>by
   by_cases q1:mi=a+1
   ·subst q1
    exact g6a hw h hme he hl h2
   ·by_cases q2:e=mi+1
    ·subst q2
     exact g6x hw h (by omega) he hl h1
    ·exact g3j ih hw h (by omega) (by omega) he hl hN h1 h2
end
end Go.Proofs.YtooooiidpaecmaaGreatDoor
/- The list of a directory's names, in order: at most 31 of them; the law's look at a directory. -/
namespace Go.Am
open Go Go.RowKit
theorem g6B{P:Program}(t:TypeId)(a b:List UInt8):d8 P .geq t (tv a) (tv b)=some (.b (!u6 a b)):=by rw[a2P];rfl
theorem a4N{α:Type}{l:List α}(h:l.Nodup){i j:Nat}{a:α}(hi:l[i]? =some a)(hj:l[j]? =some a):i=j:=by
 obtain⟨h1,e1⟩:=List.getElem?_eq_some_iff.1 hi
 obtain⟨h2,e2⟩:=List.getElem?_eq_some_iff.1 hj
 have hp:=List.pairwise_iff_getElem.1 h
 rcases Nat.lt_trichotomy i j with q|q|q
 ·exact absurd (e1.trans e2.symm) (hp i j h1 h2 q)
 ·exact q
 ·exact absurd (e2.trans e1.symm) (hp j i h2 h1 q)
theorem SlE.rd{m:M}{e:TypeId}{x v:AV}{n i:Nat}{cells:List AV}{o:Option Nat}(h:SlE m e x n cells o)(hv:cells[i]? =some v):∃b cap,x= .slice b 0 n cap false∧i<n∧m.rd b i=some v:=by
 have hc:=h.count
 have hi:=(List.getElem?_eq_some_iff.1 hv).1
 rcases h with h|⟨b,_,rfl,rfl,_,_⟩
 ·cases h with
  |nil=>cases hv
  |row h hl hj hc h0=>exact⟨_,_,rfl,by omega,by rw[h.rd,List.getElem?_append_left hi];exact hv⟩
 ·cases hv
theorem SlE.k0{m m':M}{e:TypeId}{x:AV}{n:Nat}{cells:List AV}{o:Option Nat}(h:SlE m e x n cells o)(hw:Wf m)(k:Keep m m' fun _=>False):SlE m' e x n cells o:=h.keep hw k fun _ _=>id
end Go.Am
namespace Go.Proofs.YtooooiidpaecmaaGreatDoor
open Go Go.Am
section
variable {m m':M} {A:Ad} {S:PS} {own:Nat→Prop} {X:Nat→Ino} {tt aa:Nat} {x:AV} {ob:Option Nat} {D D':List (Nat×Bs)} {b cap a n c:Nat}
theorem b3X{a e:Nat}(h:Srt D D' a e)(he:e≤D.length):SrtR (fD D') a e:=fun p q h1 h2 h3=>by
 have hl:=h.len
 obtain⟨x,hx⟩:∃x,D'[p]? =some x:=⟨_,List.getElem?_eq_getElem (by omega)⟩
 obtain⟨y,hy⟩:∃y,D'[q]? =some y:=⟨_,List.getElem?_eq_getElem (by omega)⟩
 rw[G6 hx,G6 hy]
 exact h.srt p q x y h1 h2 h3 hx hy
theorem f9N(hw:Wf m)(h:DRw m b cap D)(hl:D.length≤31)(h20:20<D.length):
  ∃m' D',DRw m' b cap D'∧Keep m m' (fun x=>x=b)∧D'.Perm D∧SrtR (fD D') 0 D.length∧Ran Tryz.prog tb V4 [.slice b 0 D.length cap false,iv D.length,.func u9 []] m (.tuple []) m':=by
 obtain⟨m1,D1,hR1,k1,S1,r1⟩:=a2u (e:=20) (a:=0) hw h (by omega) (by omega) (by omega)
 have hl1:=S1.len
 obtain⟨m2,D2,hR2,k2,S2,r2⟩:=a2u (e:=D1.length) (a:=20) k1.wf hR1 (by omega) (by omega) (by omega)
 have hl2:=S2.len
 have t1:SrtR (fD D2) 0 20:=a9b (b3X S1 (by omega)) fun k _ hk=>S2.out k (by omega)
 have t2:SrtR (fD D2) 20 D1.length:=b3X S2 (Nat.le_refl _)
 obtain⟨m3,D3,hR3,k3,S3,g3,r3⟩:=g2b 31 (m:=m2) (b:=b) (cap:=cap) (D:=D2) (a:=0) (mi:=20) (e:=D1.length) k2.wf hR2 (by omega) (by omega) (by omega) (by omega) (by omega) t1 t2
 rw[hl1] at r2 r3 g3
 rw[hl2,hl1] at r3
 refine⟨m3,D3,hR3,(k1.trans k2 fun _ _ h=>h).trans k3 fun _ _ h=>h,S3.perm.trans (S2.perm.trans S1.perm),g3,?_⟩
 generalize D.length=n at*
 have r1:Ran Tryz.prog tb O7 [.slice b 0 n cap false,iv 0,iv 20,.func u9 []] m (.tuple []) m1:=r1
 have r2:Ran Tryz.prog tb O7 [.slice b 0 n cap false,iv 20,iv n,.func u9 []] m1 (.tuple []) m2:=r2
 have r3:Ran Tryz.prog tb J7 [.slice b 0 n cap false,iv 0,iv 20,iv n,.func u9 []] m2 (.tuple []) m3:=r3
 have key:WpF Tryz.prog tb V4 [.slice b 0 n cap false,iv n,.func u9 []] m fun v m'=>v= .tuple []∧m'=m3:=by
  have mu1:=O0 d5 (a:=2) (b:=20) (by omega) (by omega)
  have mu2:=O0 d5 (a:=20) (b:=2) (by omega) (by omega)
  rw[show(2:Int)*20=40 from rfl] at mu1
  rw[show(20:Int)*2=40 from rfl] at mu2
  refine WpF.go a7e ?_
  simp-implicitDefEqProofs only[H4,a3d,a3v,↓reduceIte,Nat.reduceEqDiff,Nat.reduceAdd,wA,wB,wC,wD]
  refine y7 (fun j fr mk=>j=1∧(ev (tm 0) fr= .slice b 0 n cap false∧ev (tm 1) fr=iv n∧ev (tm 2) fr= .func u9 []∧ev (tm 6) fr=iv 20∧ev (tm 7) fr=iv 0∧ev (tm 8) fr=iv 20)∧mk=m∨j=0∧(ev (tm 0) fr= .slice b 0 n cap false∧ev (tm 1) fr=iv n∧ev (tm 2) fr= .func u9 []∧ev (tm 6) fr=iv 20∧ev (tm 7) fr=iv 20∧ev (tm 8) fr=iv 40)∧mk=m1) (k:=1) (.inl ⟨rfl,by simp-implicitDefEqProofs only[d7,↓reduceIte,Nat.reduceEqDiff,and_self],rfl⟩) ?_
  rintro j fr mk (⟨rfl,⟨f0,f1,f2,f6,f7,f8⟩,rfl⟩|⟨rfl,⟨f0,f1,f2,f6,f7,f8⟩,rfl⟩)
  ·simp-implicitDefEqProofs only[H4,a0R,b1l,b2N,b2p,f0,f1,f2,f6,f7,f8,show((20:Int)≤(n:Int))=True from eq_true (by omega),r1.eq,aD (20:Int) 20,↓reduceIte,Nat.reduceEqDiff,wA,wB,wC,wD]
   exact y8 (k':=0) (by omega) (.inr ⟨rfl,by simp-implicitDefEqProofs only[f0,f1,f2,f6,show(20:Int)+20=40 from rfl,d7,↓reduceIte,Nat.reduceEqDiff,and_self],rfl⟩)
  ·simp-implicitDefEqProofs only[H4,a0R,a3k,f0,f1,f2,f7,f8,show((40:Int)≤(n:Int))=False from eq_false (by omega),r2.eq,↓reduceIte,Nat.reduceEqDiff,wA,wB,wC,wD]
   refine y7 (fun j fr mk=>j=1∧(ev (tm 0) fr= .slice b 0 n cap false∧ev (tm 1) fr=iv n∧ev (tm 2) fr= .func u9 []∧ev (tm 6) fr=iv 20)∧mk=m2∨j=0∧(ev (tm 1) fr=iv n∧ev (tm 6) fr=iv 40)∧mk=m3) (k:=1) (.inl ⟨rfl,by simp-implicitDefEqProofs only[f0,f1,f2,f6,d7,↓reduceIte,Nat.reduceEqDiff,and_self],rfl⟩) ?_
   clear f0 f1 f2 f6 f7 f8
   rintro j fr mk (⟨rfl,⟨f0,f1,f2,f6⟩,rfl⟩|⟨rfl,⟨f1,f6⟩,rfl⟩)
   ·simp-implicitDefEqProofs only[H4,a1Q,e2T,f1,f6,show((20:Int)<(n:Int))=True from eq_true (by omega),mu1,↓reduceIte,Nat.reduceEqDiff,wA,wB,wC,wD]
    refine y7 (fun j fr mk'=>(ev (tm 0) fr= .slice b 0 n cap false∧ev (tm 1) fr=iv n∧ev (tm 2) fr= .func u9 []∧ev (tm 6) fr=iv 20∧ev (tm 7) fr=iv 0∧ev (tm 8) fr=iv 40)∧mk'=mk) (k:=0) ⟨by simp-implicitDefEqProofs only[f0,f1,f2,f6,d7,↓reduceIte,Nat.reduceEqDiff,and_self],rfl⟩ ?_
    clear f0 f1 f2 f6
    rintro j fr mk' ⟨⟨f0,f1,f2,f6,f7,f8⟩,rfl⟩
    simp-implicitDefEqProofs only[H4,e5u,c6A,c1F,c3e,c7Z,f0,f1,f2,f6,f7,f8,show((40:Int)≤(n:Int))=False from eq_false (by omega),aD (0:Int) 20,show(0:Int)+20=20 from rfl,show((20:Int)<(n:Int))=True from eq_true (by omega),r3.eq,mu2,↓reduceIte,Nat.reduceEqDiff,wA,wB,wC,wD]
    exact y8 (k':=0) (by omega) (.inr ⟨rfl,by simp-implicitDefEqProofs only[f1,d7,↓reduceIte,Nat.reduceEqDiff,and_self],rfl⟩)
   ·simp-implicitDefEqProofs only[H4,a1Q,f1,f6,show((40:Int)<(n:Int))=False from eq_false (by omega),↓reduceIte,Nat.reduceEqDiff,wA,wB,wC,wD]
 exact key
theorem g1f(hw:Wf m)(h:SlAt m x7 2 x D.length (B1 D) ob)(hl:D.length≤31):
  ∃m' D',SlAt m' x7 2 x D.length (B1 D') ob∧Keep m m' (fun b=>ob=some b)∧D'.Perm D∧SrtR (fD D') 0 D.length∧Ran Tryz.prog tb a6W [x,.func u9 []] m (.tuple []) m':=by
 by_cases h20:D.length≤20
 ·obtain⟨m',D',h1,h2,h3,h4⟩:=f78 hw h h20
  exact⟨m',D',h1,h2,h3.perm,b3X h3 (Nat.le_refl _),h4⟩
 ·rcases SlAt.drw h with⟨rfl,rfl,rfl⟩|⟨b,cap,rfl,rfl,hR⟩
  ·simp at h20
  ·obtain⟨m1,D1,hR1,k1,S1,g1,r1⟩:=f9N hw hR hl (by omega)
   refine⟨m1,D1,?_,k1.mono fun _ _ e=>by rw[e],S1,g1,?_⟩
   ·have:=hR1.sl
    rw[S1.length_eq] at this
    exact this
   refine WpF.go b3I ?_
   simp-implicitDefEqProofs only[b34,a6G,r1.eq,↓reduceIte,Nat.reduceEqDiff,Nat.reduceAdd,wA,wB,wC,wD]
theorem g1r(hw:Wf m)(h:GAt m A S own)(ht:TAt m tt aa A.g)(hD:DS S X D):
  ∃m' x ob D',SlAt m' x7 2 x D.length (B1 D') ob∧D'.Perm D∧SrtR (fD D') 0 D.length∧Keep m m' (fun _=>False)∧
   Ran Tryz.prog tb a6P [.ptr A.o 0,.ptr tt 0,.agg i5,iv 3] m (.tuple [x,iv 0]) m':=by
 have hl:=hD.len
 obtain⟨m1,e1,a1,k1,n1⟩:=l6 hw v7 12 i5
 obtain⟨m2,n,x,ob,k2,hn,N2,S2,o2,r2⟩:=b8P k1.wf (h.k0 hw k1) (ht.k0 hw k1) hD.fs hD.dir (by omega)
 obtain⟨m3,D',S3,k3,hp,hS,r3⟩:=g1f k2.wf S2 hl
 have hP:m1.rdN m.next 0 12=some i5:=a1.rdN (by show 0+12≤12;omega)
 have hx:m2.rd n 15=some x:=by rw[N2.rd];rfl
 have hnb:¬ob=some n:=fun e=>by
  subst e
  exact(N2.kd.ne S2.kd) rfl
 have N3:=N2.keep k2.wf k3 hnb
 have hx3:m3.rd n 15=some x:=by rw[N3.rd];rfl
 refine⟨m3,x,ob,D',S3,hp,hS,(k1.tf k2).trans k3 fun b hb e=>by have:=o2 b e;omega,?_⟩
 refine WpF.go g5y ?_
 simp-implicitDefEqProofs only[g7x,d5K,e61,e8l,e4o,d54,e1,hP,r2.eq,hx,r3.eq,hx3,↓reduceIte,Nat.reduceEqDiff,Nat.reduceAdd,List.getElem?_cons_succ,List.getElem?_cons_zero,wA,wB,wC,wD]
theorem Ls.list31(h:Ls m D c):∃m' x ob D',SlAt m' x7 2 x D.length (B1 D') ob∧D'.Perm D∧SrtR (fD D') 0 D.length∧Keep m m' (fun _=>False)∧
  Ran Tryz.prog tb a6P [.ptr 185 0,.ptr 181 0,.agg i5,iv 3] m (.tuple [x,iv 0]) m':=by
 obtain⟨own,S,X,h1,h2,h3,h4⟩:=h.ex
 obtain⟨m',x,ob,D',w1,w2,w3,w4,w5⟩:=g1r h.wf h1 h2 h3
 exact⟨m',x,ob,D',w1,w2,w3,w4,w5⟩
theorem Ls.find{s:Bs}{k:Nat}{e:Nat×Bs}(h:Ls m D c)(hs:Low s)(hk:ixD D s=some k)(he:D[k]? =some e):
  ∃m',Keep m m' (fun _=>False)∧Ran Tryz.prog tb a7o [.ptr 185 0,.ptr 181 0,.agg i5,iv 3,tv s] m (.tuple [ivn e.1,iv 0]) m':=by
 obtain⟨own,S,X,h1,h2,h3,h4⟩:=h.ex
 obtain⟨m',w1,w2⟩:=f7E h.wf h1 h2 h3 hs hk he
 exact⟨m',w1,w2⟩
structure LnAt(m:M)(xs xi:AV)(o1 o2:Option Nat)(L:List (Nat×Bs)):Prop where
 ns:SlE m A9 xs L.length (L.map fun e=>tv e.2) o1
 is:SlE m d5 xi L.length (L.map fun e=>ivn e.1) o2
theorem LnAt.k0{xs xi:AV}{o1 o2:Option Nat}{L:List (Nat×Bs)}(h:LnAt m xs xi o1 o2 L)(hw:Wf m)(k:Keep m m' fun _=>False):LnAt m' xs xi o1 o2 L:=⟨h.ns.k0 hw k,h.is.k0 hw k⟩
theorem LnAt.rd{xs xi:AV}{o1 o2:Option Nat}{L:List (Nat×Bs)}{i:Nat}{e:Nat×Bs}(h:LnAt m xs xi o1 o2 L)(he:L[i]? =some e):(∃b cap,xs= .slice b 0 L.length cap false∧m.rd b i=some (tv e.2))∧∃b cap,xi= .slice b 0 L.length cap false∧m.rd b i=some (ivn e.1):=by
 obtain⟨b,cap,e1,_,e2⟩:=h.ns.rd (i:=i) (v:=tv e.2) (by rw[List.getElem?_map,he];rfl)
 obtain⟨b',cap',e3,_,e4⟩:=h.is.rd (i:=i) (v:=ivn e.1) (by rw[List.getElem?_map,he];rfl)
 exact⟨⟨b,cap,e1,e2⟩,b',cap',e3,e4⟩
set_option maxRecDepth 20000 in
set_option maxHeartbeats 1000000 in
theorem f7o{xs xi:AV}{o1 o2:Option Nat}{L:List (Nat×Bs)}(h:Ls m D c)(hN:LnAt m xs xi o1 o2 L)(hp:D.Perm L)(ha:(L.map (·.2)).Nodup)(hok:∀e∈L,EOk e)(hl:L.length≤31):
  ∃m',Keep m m' (fun _=>False)∧Ran Tryz.prog tb a7g [.ptr 185 0,.ptr 181 0,.agg i5,xs,xi] m (.b true) m':=by
 have key:WpF Tryz.prog tb a7g [.ptr 185 0,.ptr 181 0,.agg i5,xs,xi] m fun v m'=>v= .b true∧Keep m m' fun _=>False:=by
  have hDL:=hp.length_eq
  obtain⟨m1,e1,a1,k1,n1⟩:=l6 h.wf v7 12 i5
  have h1:=h.keep k1
  obtain⟨m2,x,ob,D',S2,p2,g2,k2,r2⟩:=h1.list31
  have h2:=h1.keep k2
  obtain⟨m3,ps,hps,hz,k3,r3⟩:=h2.get
  have h3:=h2.keep k3
  obtain⟨m4,e4,a4,k4,n4⟩:=B0 k3.wf A3 13 z13
  obtain⟨m5,e5,a5,k5,n5⟩:=a4.st k4.wf 0 (s8 2 1 (16*D.length) ps) (l':=s8 2 1 (16*D.length) ps) (by
   have hl13:(s8 2 1 (16*D.length) ps).length=13:=by simp[s8,hps]
   unfold z6
   rw[Nat.zero_add,List.take_zero,hl13,List.nil_append,show List.drop 13 z13= [] from rfl,List.append_nil]) (by
   have hl13:(s8 2 1 (16*D.length) ps).length=13:=by simp[s8,hps]
   rw[hl13];exact Nat.le_refl _)
  have hl13:(s8 2 1 (16*D.length) ps).length=13:=by simp[s8,hps]
  have k35:Keep m3 m5 (fun _=>False):=k4.trans k5 fun b hb e=>by omega
  have k05:Keep m m5 (fun _=>False):=((k1.tf k2).tf k3).tf k35
  have h5:=h.keep k05
  have S5:=S2.keep k2.wf (k3.tf k35) fun _ _=>id
  have N5:=hN.k0 h.wf k05
  have hP1:m1.rdN m.next 0 12=some i5:=a1.rdN (by show 0+12≤12;omega)
  have a15:=a1.keep k1.wf ((k2.tf k3).tf k35) id
  have hsz:m5.rd m3.next 2=some (iv (16*(D.length:Nat):Nat)):=by rw[a5.rd];rfl
  have lx:E4 false x=some D.length:=S2.len
  have ls:E4 false xs=some D.length:=by rw[hDL];exact hN.ns.len
  have mu:=O0 d5 (a:=16) (b:=(D.length:Int)) (by omega) (by omega)
  have mc:(16:Int)*(D.length:Int)=((16*D.length:Nat):Int):=by omega
  rw[mc] at mu
  have hlD:D'.length=D.length:=p2.length_eq
  have aqP:v6 40 (.agg i5) (.agg i5)=true:=by kernel_rfl
  have hndD:(D'.map (·.2)).Nodup:=((p2.trans hp).map _).nodup_iff.2 ha
  refine WpF.go g5X ?_
  simp-implicitDefEqProofs only[a4a,d3h,d8l,d5p,d4A,d56,e1,hP1,r2.eq,r3.eq,e4,hl13,e5,lx,ls,hsz,mu,eq_self,↓reduceIte,Nat.reduceEqDiff,Nat.reduceAdd,List.getElem?_cons_succ,List.getElem?_cons_zero,wA,wB,wC,wD]
  refine y7 (fun j fr mk=>∃i,1≤i∧j=D.length-i∧(ev (tm 0) fr= .ptr 185 0∧ev (tm 1) fr= .ptr 181 0∧ev (tm 3) fr=xs∧ev (tm 4) fr=xi∧ev (tm 7) fr= .ptr m.next 0∧ev (tm 11) fr=x∧ev (tm 15) fr=iv (i:Nat))∧mk=m5) (k:=D.length-1)
   ⟨1,Nat.le_refl _,rfl,by simp-implicitDefEqProofs only[show((1:Nat):Int)=1 from rfl,d7,↓reduceIte,Nat.reduceEqDiff,and_self],rfl⟩ ?_
  rintro _ fr mk ⟨i,hi,rfl,⟨f0,f1,f3,f4,f7,f11,f15⟩,rfl⟩
  by_cases hlt:i<D.length
  ·obtain⟨u,hu⟩:∃x,D'[i-1]? =some x:=⟨_,List.getElem?_eq_getElem (by omega)⟩
   obtain⟨v,hv⟩:∃y,D'[i]? =some y:=⟨_,List.getElem?_eq_getElem (by omega)⟩
   have S5':SlAt mk x7 2 x D'.length (B1 D') ob:=by rw[hlD];exact S5
   obtain⟨b,cap,ex,hu1,_⟩:=a1G S5' hu
   obtain⟨b',cap',ex',hv1,_⟩:=a1G S5' hv
   rw[ex] at ex'
   cases ex'
   rw[hlD] at ex
   have hu2:mk.rd b ((i-1)*2+1)=some (tv u.2):=by
    rcases SlAt.drw S5' with⟨e0,_,_⟩|⟨b2,cap2,e0,_,hR⟩
    ·rw[ex] at e0;cases e0
    ·rw[hlD,ex] at e0;cases e0
     obtain⟨xt,J,q1,_⟩:=hR.ex
     rw[q1.rd]
     have:=congrArg (fun l=>l[1]?) (a2p J hu)
     simpa[List.getElem?_take,List.getElem?_drop] using this
   have hv2:mk.rd b (i*2+1)=some (tv v.2):=by
    rcases SlAt.drw S5' with⟨e0,_,_⟩|⟨b2,cap2,e0,_,hR⟩
    ·rw[ex] at e0;cases e0
    ·rw[hlD,ex] at e0;cases e0
     obtain⟨xt,J,q1,_⟩:=hR.ex
     rw[q1.rd]
     have:=congrArg (fun l=>l[1]?) (a2p J hv)
     simpa[List.getElem?_take,List.getElem?_drop] using this
   have hne:u.2≠v.2:=fun e=>by
    have:=a4N hndD (i:=i-1) (j:=i) (a:=u.2) (by rw[List.getElem?_map,hu];rfl) (by rw[List.getElem?_map,hv,e];rfl)
    omega
   have hlt2:u6 u.2 v.2=true:=by
    have:=g2 (i-1) i (Nat.zero_le _) (by omega) hlt
    rw[G6 hu,G6 hv] at this
    cases hb:u6 u.2 v.2 with
    |true=>rfl
    |false=>exact absurd (a9N hb this) hne
   have q1:=x9 (m:=mk) 2 b 0 D.length cap false (show i-1<D.length by omega)
   have q2:=x9 (m:=mk) 2 b 0 D.length cap false (show i<D.length by omega)
   rw[Nat.zero_add] at q1 q2
   have ci:(i:Int)-1=((i-1:Nat):Int):=by omega
   simp-implicitDefEqProofs only[a4a,b1k,e5h,d7u,f11,f15,show((i:Int)<(D.length:Int))=True from eq_true (by omega),ex,sB (i:Int) 1,ci,q1,q2,hu2,hv2,g6B,hlt2,aD (i:Int) 1,↓reduceIte,Nat.reduceEqDiff,List.getElem?_cons_succ,List.getElem?_cons_zero,exists_eq_left',wA,wB,wC,wD]
   exact y8 (k':=D.length-(i+1)) (by omega) ⟨i+1,by omega,rfl,by simp-implicitDefEqProofs only[f0,f1,f3,f4,f7,f11,ex,show(i:Int)+1=((i+1:Nat):Int) from rfl,d7,↓reduceIte,Nat.reduceEqDiff,and_self],rfl⟩
  ·simp-implicitDefEqProofs only[a4a,b1k,c1Q,f11,f15,lx,show((i:Int)<(D.length:Int))=False from eq_false (by omega),↓reduceIte,Nat.reduceEqDiff,wA,wB,wC,wD]
   refine y7 (fun j fr mk'=>∃i,i≤D.length∧j=D.length-i∧(ev (tm 0) fr= .ptr 185 0∧ev (tm 1) fr= .ptr 181 0∧ev (tm 3) fr=xs∧ev (tm 4) fr=xi∧ev (tm 7) fr= .ptr m.next 0∧ev (tm 16) fr=iv (i:Nat))∧Keep mk mk' fun _=>False) (k:=D.length)
    ⟨0,Nat.zero_le _,rfl,by simp-implicitDefEqProofs only[nc0,f0,f1,f3,f4,f7,d7,↓reduceIte,Nat.reduceEqDiff,nc0,and_self],Keep.refl k05.wf _⟩ ?_
   clear f0 f1 f3 f4 f7 f11 f15 hlt
   rintro _ fr m6 ⟨i,hi,rfl,⟨f0,f1,f3,f4,f7,f16⟩,k6⟩
   by_cases hlt:i<D.length
   ·obtain⟨e,he⟩:∃x,L[i]? =some x:=⟨_,List.getElem?_eq_getElem (by omega)⟩
    have hmem:e∈L:=List.mem_iff_getElem?.2 ⟨i,he⟩
    obtain⟨⟨b,cap,ex,q1⟩,b',cap',ex',q2⟩:=(N5.k0 k05.wf k6).rd he
    rw[←hDL] at ex ex'
    obtain⟨k,d,hk,hd,hd2⟩:=a4R (D:=D) (s:=e.2) ⟨e,hp.mem_iff.2 hmem,rfl⟩
    have hde:d=e:=by
     have hdL:d∈L:=hp.mem_iff.1 (List.mem_iff_getElem?.2 ⟨k,hd⟩)
     obtain⟨j,hj⟩:=List.mem_iff_getElem?.1 hdL
     have:=a4N ha (i:=j) (j:=i) (a:=e.2) (by rw[List.getElem?_map,hj,←hd2];rfl) (by rw[List.getElem?_map,he];rfl)
     rw[this,he] at hj
     cases hj;rfl
    subst hde
    have h6:=h5.keep k6
    obtain⟨m7,k7,r7⟩:=h6.find (hok d hmem).nm hk hd
    obtain⟨⟨b2,cap2,ex2,q3⟩,b2',cap2',ex2',q4⟩:=((N5.k0 k05.wf k6).k0 k6.wf k7).rd he
    rw[←hDL] at ex2 ex2'
    rw[ex'] at ex2'
    cases ex2'
    have hP6:m6.rdN m.next 0 12=some i5:=(a15.keep k05.wf k6 id).rdN (by show 0+12≤12;omega)
    have w1:=x9 (m:=m6) 1 b 0 D.length cap false hlt
    have w2:=x9 (m:=m7) 1 b' 0 D.length cap' false hlt
    rw[Nat.zero_add,Nat.mul_one] at w1 w2
    have lb:E4 false (.slice b 0 D.length cap false)=some D.length:=rfl
    simp-implicitDefEqProofs only[a4a,b0i,c8R,c1w,c5b,f0,f1,f3,f4,f7,f16,ex,ex',lb,show((i:Int)<(D.length:Int))=True from eq_true (by omega),hP6,w1,w2,q1,q4,r7.eq,eq_self,aqP,aD (i:Int) 1,↓reduceIte,Nat.reduceEqDiff,List.getElem?_cons_succ,List.getElem?_cons_zero,exists_eq_left',wA,wB,wC,wD]
    exact y8 (k':=D.length-(i+1)) (by omega) ⟨i+1,by omega,rfl,by simp-implicitDefEqProofs only[f0,f1,f3,f4,f7,ex,ex',show(i:Int)+1=((i+1:Nat):Int) from rfl,d7,↓reduceIte,Nat.reduceEqDiff,and_self],k6.tf k7⟩
   ·obtain rfl:i=D.length:=by omega
    simp-implicitDefEqProofs only[a4a,b0i,c4J,f3,f16,ls,↓reduceIte,Nat.reduceEqDiff,wA,wB,wC,wD]
    exact k05.tf k6
 obtain⟨v,m',⟨rfl,k⟩,r⟩:=key.ran
 exact⟨m',k,r⟩
end
end Go.Proofs.YtooooiidpaecmaaGreatDoor
/- Lists that may have no cells, appended to; what the law DirNames does in one call. -/
namespace Go.Am
open Go Go.RowKit
section
variable {m m':M} {e:TypeId} {x y:AV} {n k bytes:Nat} {z cells new:List AV} {o:Option Nat}
theorem d1W{b:Nat}(h:At m b e true [])(hw:Wf m)(hy:Rds m y 1 k new)(hroom:F9 k bytes=true):
  ∃s' m' o',M5 e 1 bytes z (.cst (.slice b 0 0 0 false)) (.cst y) .leaf m=some (s',m')∧SlE m' e s' k new o'∧Keep m m' (fun _=>False)∧∀b',o'=some b'→b'=b∨m.next≤b':=by
 obtain⟨hy1,hy2,hy3⟩:=hy
 have e0:M5 e 1 bytes z (.cst (.slice b 0 0 0 false)) (.cst y) .leaf m=H7 e 1 bytes z m (.slice b 0 0 0 false) k new:=by
  show(ob (Am.lenA y) fun k=>ob (G8 m 1 k y) fun new=>H7 e 1 bytes z m _ k new)=_
  rw[hy1]
  show(ob (G8 m 1 k y) fun new=>H7 e 1 bytes z m _ k new)=_
  rw[hy2];rfl
 rw[e0,a89,A1]
 by_cases hk:k=0
 ·subst hk
  have:new= [] :=by simpa using hy3
  subst this
  rw[decide_eq_true (by omega),l9]
  exact⟨_,m,some b,rfl,.inr ⟨b,rfl,rfl,rfl,rfl,h⟩,Keep.refl hw _,fun b' hb=>by cases hb;exact .inl rfl⟩
 ·obtain⟨c,c1,c2,c3,c4,c5,c6,c7⟩:=h.row
  obtain⟨s',m',h1,h2,h3,h4⟩:=a4K (m:=m) (e:=e) (sz:=1) (z:=z) (cs:=new) (need:=k) hy3 (by omega) hw
  have hrd:m.rdN b 0 (0*1)=some [] :=by rw[h.rdN (by simp)];rfl
  rw[decide_eq_false (by omega),u7,Nat.zero_add,hroom,l9,M.cel_some.2 c1,C5,hrd,C5,c4,c6]
  exact⟨s',m',some m.next,by rw[List.nil_append];exact h1,.inl h2,h3,fun b' hb=>by cases hb;exact .inr (Nat.le_refl _)⟩
theorem SlE.append(h:SlE m e x n cells o)(hw:Wf m)(hy:Rds m y 1 k new)(hroom:F9 (n+k) bytes=true):
  ∃s' m' o',M5 e 1 bytes z (.cst x) (.cst y) .leaf m=some (s',m')∧SlE m' e s' (n+k) (cells++new) o'∧Keep m m' (fun b=>o=some b):=by
 rcases h with h|⟨b,rfl,rfl,rfl,rfl,h⟩
 ·obtain⟨s',m',o',h1,h2,h3,_⟩:=h.append (bytes:=bytes) (z:=z) hw hy hroom
  exact⟨s',m',o',h1,.inl h2,h3⟩
 ·obtain⟨s',m',o',h1,h2,h3,_⟩:=d1W (z:=z) h hw hy (by simpa using hroom)
  exact⟨s',m',o',h1,by simpa using h2,h3.mono fun _ _ h=>h.elim⟩
theorem SlE.kk(h:SlE m e x n cells o){E S:List Nat}(hk:Keep m m' fun b=>o=some b)(hE:e+1∈E:=by decide):y6 m m' E S:=hk.mono fun b _ hb=>by
 subst hb
 exact .inl ⟨_,hE,h.kd⟩
theorem SlE.kp(h:SlE m e x n cells o)(hw:Wf m){E S:List Nat}(k:y6 m m' E S)(hE:e+1∉E:=by decide):SlE m' e x n cells o:=h.keep hw k fun b hb=>by subst hb;exact Kinds.not h.kd hE (Nat.succ_ne_zero _)
theorem SlE.cut(h:SlE m e x n cells o)(hw:Wf m){j:Nat}(hj:j<n)(hn:n≤1000)(hb:bytes≤24):
  ∃(b0:Nat) (m1:M) (t u:AV) (s1:AV) (m2:M) (s2:AV) (m3:M) (o3:Option Nat),b0=m.next∧m.addL e 0 [] =m1∧
   (∀m',rSl 1 false (.cst x) none (some (.cst (iv (j:Int)))) none .leaf m'=some (t,m'))∧M5 e 1 bytes z (.cst (.slice b0 0 0 0 false)) (.cst t) .leaf m1=some (s1,m2)∧
   (rSl 1 false (.cst x) (some (.cst (iv ((j+1:Nat):Int)))) none none .leaf m=some (u,m)∧rSl 1 false (.cst x) (some (.cst (iv ((j+1:Nat):Int)))) none none .leaf m1=some (u,m1)∧rSl 1 false (.cst x) (some (.cst (iv ((j+1:Nat):Int)))) none none .leaf m2=some (u,m2))∧v6 40 t t=true∧v6 40 u u=true∧
   M5 e 1 bytes z (.cst s1) (.cst u) .leaf m2=some (s2,m3)∧SlE m3 e s2 (n-1) (cells.eraseIdx j) o3∧Keep m m3 (fun _=>False):=by
 rcases h with h|⟨b,rfl,rfl,rfl,rfl,h⟩
 ·obtain⟨m1,e1,a1,k1,n1⟩:=l6 hw e 0 []
  have hc:=h.count
  rw[Nat.mul_one] at hc
  have h1:=h.keep hw k1 fun _ _=>id
  have ht:=h1.take (k:=j) (by omega)
  obtain⟨s1,m2,o2,r2,S2,k2,ho2⟩:=d1W (bytes:=bytes) (z:=z) a1 k1.wf ht.src (U1 (by omega) (by omega))
  obtain⟨u,hu⟩:=h.run_drop (k:=j+1) (by omega)
  obtain⟨u1,u2,u3⟩:=hu m fun _ _=>rfl
  obtain⟨v1,v2,v3⟩:=hu m1 fun b hb=>k1.get b (h.blk_lt hw hb) id
  obtain⟨w1,w2,w3⟩:=hu m2 fun b hb=>(k1.tf k2).get b (h.blk_lt hw hb) id
  obtain⟨s2,m3,o3,r3,S3,k3⟩:=S2.append (bytes:=bytes) (z:=z) k2.wf w2 (U1 (by omega) (by omega))
  refine⟨m.next,m1,a5G x j,u,s1,m2,s2,m3,o3,rfl,e1,fun m'=>h.run_take (by omega) m',r2,⟨u1,v1,w1⟩,?_,u3,r3,?_,?_⟩
  ·cases h with
   |nil=>rfl
   |row=>exact b3V _ _ _ _ _
  ·rw[Nat.mul_one,Nat.mul_one,←List.eraseIdx_eq_take_drop_succ] at S3
   rw[show n-1=j+(n-(j+1)) by omega]
   exact S3
  ·refine(k1.tf k2).trans k3 fun b hb e=> ?_
   have:=ho2 b e
   have:=k1.next
   omega
 ·omega
end
theorem f03{P:Program}(t:TypeId)(a b:Nat):d8 P .geq t (.y a) (.y b)=some (.b (decide (b≤a))):=by
 show some (AV.b (decide ((a:Int)≥(b:Int))))=_
 congr 2
 exact decide_eq_decide.2 (by omega)
theorem g5j{P:Program}(t:TypeId)(a b:Nat):d8 P .leq t (.y a) (.y b)=some (.b (decide (a≤b))):=by
 show some (AV.b (decide ((a:Int)≤(b:Int))))=_
 congr 2
 exact decide_eq_decide.2 (by omega)
end Go.Am
/- The law DirNames: one call, and what becomes of the law's lists. -/
namespace Go.Proofs.YtooooiidpaecmaaGreatDoor
open Go Go.Am
structure Oq where
 kind:Int
 d:Int
 n:Int
 name:Bs
noncomputable def E7(o:Oq):List AV:= [iv o.kind,iv o.d,iv o.n,tv o.name]
abbrev E0:List Nat:= [A9+1,d5+1]
theorem b9x{α:Type}{D:List α}{k:Nat}{x:α}(hk:k<D.length):(D.set k x).Perm (x::D.eraseIdx k):=by
 have h1:(D.set k x)[k]? =some x:=List.getElem?_set_self hk
 have h2:=a82 h1
 rwa [List.eraseIdx_set_eq] at h2
theorem a4x{α β:Type}(f:α→β):∀(l:List α) (j:Nat),(l.eraseIdx j).map f=(l.map f).eraseIdx j
 | [],_=>rfl
 |_::_,0=>rfl
 |x::l,j+1=>by
  show f x::(l.eraseIdx j).map f=f x::(l.map f).eraseIdx j
  rw[a4x f l j]
theorem b8D{α:Type}{D L:List α}{k j:Nat}{d:α}(hp:D.Perm L)(hk:D[k]? =some d)(hj:L[j]? =some d):(D.eraseIdx k).Perm (L.eraseIdx j):=
 List.Perm.cons_inv ((a82 hk).symm.trans (hp.trans (a82 hj)))
section
variable {m m' mk:M} {D L:List (Nat×Bs)} {c nb:Nat} {xs xi x:AV} {o:Oq} {fr:Go.Am.Fr} {Q:Go.Am.X→Go.Am.Fr→M→Prop}
theorem Ls.kp{E:List Nat}(h:Ls m D c)(k:y6 m m' E)(hE:∀x∈[0,a4l+1,a4z+1,a4F+1,l3+1,a4q+1,a4k+1,v7+1],x∉E:=by decide):Ls m' D c:=by
 obtain⟨own,S,X,h1,h2,h3,h4⟩:=h.ex
 exact⟨k.wf,h.pl.kp h.wf k (hE _ (by simp)),own,S,X,h1.kp h.wf k fun x hx=>hE x (by simp only[List.mem_cons,List.not_mem_nil,or_false] at hx;rcases hx with rfl|rfl|rfl|rfl|rfl<;>simp),h2.kp h.wf k fun x hx=>hE x (by simp only[List.mem_cons,List.not_mem_nil,or_false] at hx;rcases hx with rfl|rfl<;>simp),h3,h4⟩
structure DN(m:M)(xs xi:AV)(D L:List (Nat×Bs))(c:Nat):Prop where
 ls:Ls m D c
 ln:∃o1 o2,LnAt m xs xi o1 o2 L
 pm:D.Perm L
 nd:(L.map (·.2)).Nodup
 ok:∀e∈L,EOk e
 ll:L.length≤c
theorem DN.k0(h:DN m xs xi D L c)(k:Keep m m' fun _=>False):DN m' xs xi D L c:=by
 obtain⟨o1,o2,h1⟩:=h.ln
 exact⟨h.ls.keep k,⟨o1,o2,h1.k0 h.ls.wf k⟩,h.pm,h.nd,h.ok,h.ll⟩
theorem DN.up(h:DN m xs xi D L c):DN m xs xi D L (c+1):=by
 obtain⟨own,S,X,h1,h2,h3,h4⟩:=h.ls.ex
 exact⟨⟨h.ls.wf,h.ls.pl,own,S,X,h1,h2,h3,by omega⟩,h.ln,h.pm,h.nd,h.ok,by have:=h.ll;omega⟩
def Aft(mk:M)(fr:Go.Am.Fr)(c:Nat)(Q:Go.Am.X→Go.Am.Fr→M→Prop):Prop:=
 ∀fr' m' xs' xi' D' L' (w:Int),DN m' xs' xi' D' L' (c+1)→y6 mk m' E0 A2.ms→
  (ev (tm 0) fr'=ev (tm 0) fr∧ev (tm 3) fr'= .ptr 1 0∧ev (tm 5) fr'= .ptr 181 0∧ev (tm 6) fr'= .ptr 185 0∧ev (tm 7) fr'=xs'∧ev (tm 8) fr'=xi'∧ev (tm 9) fr'=ev (tm 9) fr∧ev (tm 15) fr'=iv w∧ev (tm 16) fr'=iv w)→Q .normal fr' m'
set_option maxRecDepth 20000 in
set_option maxHeartbeats 2000000 in
theorem f86(h:DN mk xs xi D L c)(hc:c≤29){v:Nat}(hv:o.n=v)(hok:EOk (v,o.name))(hnb:At mk nb a4J true (E7 o))
  (f3:ev (tm 3) fr= .ptr 1 0) (f5:ev (tm 5) fr= .ptr 181 0) (f6:ev (tm 6) fr= .ptr 185 0) (f7:ev (tm 7) fr=xs) (f8:ev (tm 8) fr=xi) (f10:ev (tm 10) fr= .ptr nb 0) (f15:ev (tm 15) fr=iv 0) (f16:ev (tm 16) fr=iv 0)
  (hat:(∀e∈L,e.2≠o.name)∧ev (tm 13) fr=iv (-1)∨∃j d,L[j]? =some d∧d.2=o.name∧ev (tm 13) fr=iv (j:Nat)) (hQ:Aft mk fr c Q):GX Tryz.prog tb a5a Q fr mk:=by
 have hw:=h.ls.wf
 have hDL:=h.pm.length_eq
 have hll:=h.ll
 obtain⟨o1,o2,hN⟩:=h.ln
 have pl:∀{mk:M} {D c},Ls mk D c→mk.rdN 1 0 12=some i5:=fun h=>h.pl.rdN (show 0+12≤12 by omega)
 have rb:∀{m':M},y6 mk m' E0 A2.ms→m'.rd nb 0=some (iv o.kind)∧m'.rd nb 2=some (iv v)∧m'.rd nb 3=some (tv o.name):=fun k=>by
  have a:=hnb.kp hw k
  exact⟨by rw[a.rd];rfl,by rw[a.rd,←hv];rfl,by rw[a.rd];rfl⟩
 have k00:y6 mk mk E0 A2.ms:=Keep.refl hw _
 obtain⟨b0,b2,b3⟩:=rb k00
 by_cases q2:o.kind=2
 ·--Insert
  rw[q2] at b0
  rcases hat with⟨hno,f13⟩|⟨j,d,hj,hd,f13⟩
  ·obtain⟨m2,h2,k2,r2⟩:=h.ls.ins hok (by omega) (a9y fun e he=>hno e (h.pm.mem_iff.1 he)) (by omega)
   have r2:Ran Tryz.prog tb a0f [.ptr 185 0,.ptr 181 0,.agg i5,iv 3,tv o.name,iv v] mk (iv 0) m2:=r2
   have N2:LnAt m2 xs xi o1 o2 L:=⟨hN.ns.kp hw k2,hN.is.kp hw k2⟩
   have k02:y6 mk m2 E0 A2.ms:=k2.sub (by simp)
   obtain⟨_,_,c3⟩:=rb k02
   obtain⟨m3,e3,a3,k3,n3⟩:=l6 k2.wf A9 1 [tv o.name]
   have src3:SlAt m3 A9 1 (.slice m2.next 0 1 1 false) 1 [tv o.name] (some m2.next):= .row (junk:= []) a3 rfl rfl (Nat.le_refl _) (by decide)
   obtain⟨x4,m4,o4,e4,S4,k4⟩:=(N2.ns.k0 k2.wf k3).append (bytes:=16) (z:= [tv []]) k3.wf src3.src (U1 (by omega) (by omega))
   have kk4:y6 m3 m4 [A9+1] :=(N2.ns.k0 k2.wf k3).kk k4
   have k24:y6 m2 m4 E0 A2.ms:=(k3.k0 (E:=E0) (S:=A2.ms)).tk kk4
   have k04:y6 mk m4 E0 A2.ms:=k02.tk k24
   obtain⟨_,d2,_⟩:=rb k04
   have I4:=((N2.is.k0 k2.wf k3).kp k3.wf kk4)
   obtain⟨m5,e5,a5,k5,n5⟩:=l6 k4.wf d5 1 [iv v]
   have src5:SlAt m5 d5 1 (.slice m4.next 0 1 1 false) 1 [iv v] (some m4.next):= .row (junk:= []) a5 rfl rfl (Nat.le_refl _) (by decide)
   obtain⟨x6,m6,o6,e6,S6,k6⟩:=(I4.k0 k4.wf k5).append (bytes:=8) (z:= [iv 0]) k5.wf src5.src (U1 (by omega) (by omega))
   have kk6:y6 m5 m6 [d5+1] :=(I4.k0 k4.wf k5).kk k6
   have k46:y6 m4 m6 E0 A2.ms:=(k5.k0 (E:=E0) (S:=A2.ms)).tk kk6
   have S6':=(S4.k0 k4.wf k5).kp k5.wf kk6
   have L6:Ls m6 (D++ [(v,o.name)]) (c+1):=((h2.keep k3).kp kk4).keep k5|>.kp kk6
   simp-implicitDefEqProofs only[B5,Y3,X8,b0x,b02,c2U,c7C,f3,f5,f6,f7,f8,f10,f13,b0,b2,b3,c3,d2,eq_self,pl h.ls,r2.eq,show((0:Int)≤-1)=False from eq_false (by omega),e3,e4,e5,e6,↓reduceIte,Nat.reduceEqDiff,Nat.reduceLeDiff,wA,wB,wC,wD]
   refine hQ _ m6 x4 x6 (D++ [(v,o.name)]) (L++ [(v,o.name)]) 0 ⟨L6,⟨o4,o6,?_,?_⟩,h.pm.append_right _,?_,?_,by simp;omega⟩ (k04.tk k46) (by simp-implicitDefEqProofs only[f3,f5,f6,f16,d7,↓reduceIte,Nat.reduceEqDiff,and_self])
   ·rw[List.length_append,List.map_append];exact S6'
   ·rw[List.length_append,List.map_append];exact S6
   ·rw[List.map_append,List.nodup_append]
    refine⟨h.nd,by simp,fun a ha b hb=> ?_⟩
    obtain⟨e,he,rfl⟩:=List.mem_map.1 ha
    have:b=o.name:=by simpa using hb
    rw[this];exact hno e he
   ·intro e he
    rcases List.mem_append.1 he with he|he
    ·exact h.ok e he
    ·rw[List.mem_singleton.1 he];exact hok
  ·obtain⟨k,d',hk,hd',hds⟩:=a4R (D:=D) (s:=o.name) ⟨d,h.pm.mem_iff.2 (List.mem_iff_getElem?.2 ⟨j,hj⟩),hd⟩
   obtain⟨m2,h2,k2,r2⟩:=h.ls.ins_no hok hk
   have r2:Ran Tryz.prog tb a0f [.ptr 185 0,.ptr 181 0,.agg i5,iv 3,tv o.name,iv v] mk (iv 12) m2:=r2
   simp-implicitDefEqProofs only[B5,Y3,X8,b0x,b02,c1i,f3,f5,f6,f10,f13,b0,b2,b3,eq_self,pl h.ls,r2.eq,show((0:Int)≤(j:Int))=True from eq_true (by omega),↓reduceIte,Nat.reduceEqDiff,wA,wB,wC,wD]
   exact hQ _ m2 xs xi D L 12 (h.k0 k2).up k2.k0 (by simp-implicitDefEqProofs only[f3,f5,f6,f7,f8,d7,↓reduceIte,Nat.reduceEqDiff,and_self])
 ·by_cases q3:o.kind=3
  ·--Set
   rw[q3] at b0
   rcases hat with⟨hno,f13⟩|⟨j,d,hj,hd,f13⟩
   ·obtain⟨m2,h2,k2,r2⟩:=h.ls.set_no hok (a9y fun e he=>hno e (h.pm.mem_iff.1 he))
    have r2:Ran Tryz.prog tb a0j [.ptr 185 0,.ptr 181 0,.agg i5,iv 3,tv o.name,iv v] mk (iv 11) m2:=r2
    simp-implicitDefEqProofs only[B5,Y3,X8,a1q,b0e,b0Q,d0n,f3,f5,f6,f10,f13,b0,b2,b3,eq_self,show((3:Int)=2)=False from eq_false (by omega),pl h.ls,r2.eq,show((-1:Int)<0)=True from eq_true (by omega),↓reduceIte,Nat.reduceEqDiff,wA,wB,wC,wD]
    exact hQ _ m2 xs xi D L 11 (h.k0 k2).up k2.k0 (by simp-implicitDefEqProofs only[f3,f5,f6,f7,f8,d7,↓reduceIte,Nat.reduceEqDiff,and_self])
   ·obtain⟨k,d',hk,hd',hds⟩:=a4R (D:=D) (s:=o.name) ⟨d,h.pm.mem_iff.2 (List.mem_iff_getElem?.2 ⟨j,hj⟩),hd⟩
    have hjl:=(List.getElem?_eq_some_iff.1 hj).1
    have hkl:=(List.getElem?_eq_some_iff.1 hd').1
    have hdd:d'=d:=by
     obtain⟨j',hj'⟩:=List.mem_iff_getElem?.1 (h.pm.mem_iff.1 (List.mem_iff_getElem?.2 ⟨k,hd'⟩))
     have:=a4N h.nd (i:=j') (j:=j) (a:=d.2) (by rw[List.getElem?_map,hj',hd,←hds];rfl) (by rw[List.getElem?_map,hj];rfl)
     rw[this,hj] at hj'
     cases hj';rfl
    subst hdd
    obtain⟨m2,h2,k2,r2⟩:=h.ls.set hok (by omega) hk hkl
    have r2:Ran Tryz.prog tb a0j [.ptr 185 0,.ptr 181 0,.agg i5,iv 3,tv o.name,iv v] mk (iv 0) m2:=r2
    have N2:LnAt m2 xs xi o1 o2 L:=⟨hN.ns.kp hw k2,hN.is.kp hw k2⟩
    have k02:y6 mk m2 E0 A2.ms:=k2.sub (by simp)
    obtain⟨_,c2,_⟩:=rb k02
    have hi:(L.map fun e=>ivn e.1)[j]? =some (ivn d'.1):=by rw[List.getElem?_map,hj];rfl
    have is2:SlAt m2 d5 1 xi L.length (L.map fun e=>ivn e.1) o2:=by
     rcases N2.is with s|⟨_,_,e0,_⟩
     ·exact s
     ·omega
    generalize hcs:(L.map fun e=>ivn e.1)=cs at is2 hi
    generalize hln:L.length=ln at is2 hjl
    cases is2 with
    |nil=>omega
    | @row bi len cap cells junk xt hr hl1 hj1 hc1 h01=>
     obtain⟨m3,e3,a3,k3,n3⟩:=hr.st k2.wf j [iv v] rfl (by rw[List.length_append];show j+1≤_;omega)
     have hsp:z6 (cs++junk) j [iv v] =cs.set j (iv v)++junk:=by
      unfold z6
      rw[List.take_append_of_le_length (by omega),List.drop_append_of_le_length (by show j+1≤_;omega),List.set_eq_take_append_cons_drop,if_pos (by omega)]
      simp
     rw[hsp] at a3
     have kk3:y6 m2 m3 [d5+1] :=k3.k1 hr.kd (by simp)
     have q1:=x9 (m:=m2) 1 bi 0 ln cap false hjl
     rw[Nat.zero_add,Nat.mul_one] at q1
     simp-implicitDefEqProofs only[B5,Y3,X8,a1q,b0e,b0Q,c3K,f3,f5,f6,f8,f10,f13,b0,b2,b3,c2,eq_self,show((3:Int)=2)=False from eq_false (by omega),pl h.ls,r2.eq,show((j:Int)<0)=False from eq_false (by omega),q1,e3,↓reduceIte,Nat.reduceEqDiff,wA,wB,wC,wD]
     refine hQ _ m3 xs (.slice bi 0 ln cap false) (D.set k (v,o.name)) (L.set j (v,o.name)) 0 ⟨h2.kp kk3,⟨o1,some bi,?_,?_⟩,?_,?_,?_,by rw[List.length_set];omega⟩ (k02.tk kk3) (by simp-implicitDefEqProofs only[f3,f5,f6,f7,f8,f16,d7,↓reduceIte,Nat.reduceEqDiff,and_self])
     ·have:=N2.ns.kp k2.wf kk3
      rw[List.length_set,show((L.set j (v,o.name)).map fun e=>tv e.2)=L.map fun e=>tv e.2 from ?_]
      ·exact this
      ·rw[List.map_set]
       refine List.ext_getElem? fun i=> ?_
       rw[List.getElem?_set]
       by_cases hij:j=i
       ·subst hij
        rw[if_pos rfl,if_pos (by rw[List.length_map];omega),List.getElem?_map,hj,←hd];rfl
       ·rw[if_neg hij]
     ·rw[List.length_set,hln,List.map_set,hcs]
      exact .inl (.row a3 (by rw[List.length_set];exact hl1) hj1 hc1 h01)
     ·exact(b9x hkl).trans (((b8D h.pm hd' hj).cons _).trans (b9x (by omega)).symm)
     ·rw[List.map_set]
      have:(L.map (·.2)).set j (v,o.name).2=L.map (·.2):=by
       refine List.ext_getElem? fun i=> ?_
       rw[List.getElem?_set]
       by_cases hij:j=i
       ·subst hij
        rw[if_pos rfl,if_pos (by rw[List.length_map];omega),List.getElem?_map,hj,←hd];rfl
       ·rw[if_neg hij]
      rw[this];exact h.nd
     ·intro e he
      rcases List.mem_or_eq_of_mem_set he with he|rfl
      ·exact h.ok e he
      ·exact hok
  ·by_cases q4:o.kind=4
   ·--Remove
    rw[q4] at b0
    rcases hat with⟨hno,f13⟩|⟨j,d,hj,hd,f13⟩
    ·obtain⟨m2,h2,k2,r2⟩:=h.ls.rem_no hok.nm (a9y fun e he=>hno e (h.pm.mem_iff.1 he))
     simp-implicitDefEqProofs only[B5,Y3,X8,a1q,a4Z,b1b,b0T,c51,f3,f5,f6,f10,f13,b0,b3,eq_self,show((4:Int)=2)=False from eq_false (by omega),show((4:Int)=3)=False from eq_false (by omega),pl h.ls,r2.eq,show((-1:Int)<0)=True from eq_true (by omega),↓reduceIte,Nat.reduceEqDiff,wA,wB,wC,wD]
     exact hQ _ m2 xs xi D L 11 (h.k0 k2).up k2.k0 (by simp-implicitDefEqProofs only[f3,f5,f6,f7,f8,d7,↓reduceIte,Nat.reduceEqDiff,and_self])
    ·obtain⟨k,d',hk,hd',hds⟩:=a4R (D:=D) (s:=o.name) ⟨d,h.pm.mem_iff.2 (List.mem_iff_getElem?.2 ⟨j,hj⟩),hd⟩
     have hjl:=(List.getElem?_eq_some_iff.1 hj).1
     have hkl:=(List.getElem?_eq_some_iff.1 hd').1
     have hdd:d'=d:=by
      obtain⟨j',hj'⟩:=List.mem_iff_getElem?.1 (h.pm.mem_iff.1 (List.mem_iff_getElem?.2 ⟨k,hd'⟩))
      have:=a4N h.nd (i:=j') (j:=j) (a:=d.2) (by rw[List.getElem?_map,hj',hd,←hds];rfl) (by rw[List.getElem?_map,hj];rfl)
      rw[this,hj] at hj'
      cases hj';rfl
     subst hdd
     have hlast:=List.getElem?_eq_getElem (l:=D) (i:=D.length-1) (by omega)
     obtain⟨m2,h2,k2,r2⟩:=h.ls.rem hok.nm (by omega) hk hkl hlast
     have N2:LnAt m2 xs xi o1 o2 L:=⟨hN.ns.kp hw k2,hN.is.kp hw k2⟩
     have k02:y6 mk m2 E0 A2.ms:=k2.sub (by simp)
     obtain⟨_,m3,t1,u1,s1,m4,s2,m5,o5,rfl,e3,t2,r3,⟨t3,t4,t5⟩,t6,t7,r4,S5,k5⟩:=N2.ns.cut (bytes:=16) (z:= [tv []]) k2.wf hjl (by omega) (by omega)
     have I5:=N2.is.k0 k2.wf k5
     obtain⟨_,m6,t1',u1',s1',m7,s2',m8,o8,rfl,e6,t2',r6,⟨t3',t4',t5'⟩,t6',t7',r7,S8,k8⟩:=I5.cut (bytes:=8) (z:= [iv 0]) k5.wf hjl (by omega) (by omega)
     have S58:=S5.k0 k5.wf k8
     have cj:(j:Int)+1=((j+1:Nat):Int):=rfl
     simp-implicitDefEqProofs only[B5,Y3,X8,a1q,a4Z,b1b,b0T,c1Y,d1V,f3,f5,f6,f7,f8,f10,f13,b0,b3,eq_self,show((4:Int)=2)=False from eq_false (by omega),show((4:Int)=3)=False from eq_false (by omega),pl h.ls,r2.eq,show((j:Int)<0)=False from eq_false (by omega),aD (j:Int) 1,cj,show B4 0 [tv []] = [] from rfl,show B4 0 [iv 0] = [] from rfl,e3,t2,r3,t3,t4,t5,t6,t7,r4,e6,t2',r6,t3',t4',t5',t6',t7',r7,↓reduceIte,Nat.reduceEqDiff,List.getElem?_cons_succ,List.getElem?_cons_zero,exists_eq_left',wA,wB,wC,wD]
     refine hQ _ m8 s2 s2' _ (L.eraseIdx j) 0 ⟨(h2.keep k5).keep k8,⟨o5,o8,?_,?_⟩,(f8V hkl hlast).trans (b8D h.pm hd' hj),?_,?_,?_⟩ ((k02.tf k5).tf k8) (by simp-implicitDefEqProofs only[f3,f5,f6,f16,d7,↓reduceIte,Nat.reduceEqDiff,and_self])
     ·rw[List.length_eraseIdx_of_lt hjl,show(L.eraseIdx j).map (fun e=>tv e.2)=(L.map fun e=>tv e.2).eraseIdx j from a4x _ _ _];exact S58
     ·rw[List.length_eraseIdx_of_lt hjl,show(L.eraseIdx j).map (fun e=>ivn e.1)=(L.map fun e=>ivn e.1).eraseIdx j from a4x _ _ _];exact S8
     ·rw[show(L.eraseIdx j).map (·.2)=(L.map (·.2)).eraseIdx j from a4x _ _ _]
      exact h.nd.sublist (List.eraseIdx_sublist _ _)
     ·exact fun e he=>h.ok e (List.mem_of_mem_eraseIdx he)
     ·rw[List.length_eraseIdx_of_lt hjl];omega
   ·simp-implicitDefEqProofs only[B5,Y3,X8,a1q,a4Z,f10,b0,eq_false q2,eq_false q3,eq_false q4,↓reduceIte,Nat.reduceEqDiff,wA,wB,wC,wD]
    exact hQ _ mk xs xi D L 0 h.up k00 (by simp-implicitDefEqProofs only[f3,f5,f6,f7,f8,f15,f16,d7,↓reduceIte,Nat.reduceEqDiff,and_self])
end
inductive OsAt(m:M):AV→List Oq→Prop where
 |nil:OsAt m j7 []
 |empty {b cap:Nat} {lim:Bool}:OsAt m (.slice b 0 0 cap lim) []
 |row {b cap:Nat} {lim:Bool} {es:List Oq} (h:AtR m b (es.flatMap E7)) (hk:Am.kd m b roK):OsAt m (.slice b 0 es.length cap lim) es
section
variable {m m' mk:M} {D L:List (Nat×Bs)} {c nb i:Nat} {xs xi x:AV} {o:Oq} {fr:Go.Am.Fr} {Q:Go.Am.X→Go.Am.Fr→M→Prop} {es:List Oq} {s:Bs}
theorem OsAt.kp{E S:List Nat}(h:OsAt m x es)(hw:Wf m)(k:y6 m m' E S)(hE:roK∉E:=by decide):OsAt m' x es:=by
 cases h with
 |nil=>exact .nil
 |empty=>exact .empty
 |row h hk=>exact .row (h.keep hw k (Kinds.not hk hE (by decide))) (hk.kp hw k hE)
theorem OsAt.k0(h:OsAt m x es)(hw:Wf m)(k:Keep m m' fun _=>False):OsAt m' x es:=h.kp hw (k.k0 (E:= []) (S:= []))
theorem OsAt.len(h:OsAt m x es):E4 false x=some es.length:=by cases h<;>rfl
theorem a9r(u:List Oq):(u.flatMap E7).length=u.length*4:=by
 induction u with
 |nil=>rfl
 |cons p ps ih=>rw[List.flatMap_cons,List.length_append,ih];simp[E7];omega
theorem OsAt.elem(h:OsAt m x es){k:Nat}{e:Oq}(hk:es[k]? =some e):∃b cap lim,x= .slice b 0 es.length cap lim∧k<es.length∧m.rdN b (k*4) 4=some (E7 e):=by
 cases h with
 |nil=>cases hk
 |empty=>cases hk
 | @row b cap lim es h=>
  have hlt:=(List.getElem?_eq_some_iff.1 hk).1
  have he:(es.flatMap E7).drop (k*4)=E7 e++(es.drop (k+1)).flatMap E7:=by
   have h1:es=es.take k++(e::es.drop (k+1)):=by
    conv=>lhs;rw[←List.take_append_drop k es]
    congr 1
    rw[List.drop_eq_getElem_cons hlt]
    congr 1
    exact(List.getElem?_eq_some_iff.1 hk).2
   have hl:((es.take k).flatMap E7).length=k*4:=by rw[a9r,List.length_take,Nat.min_eq_left (by omega)]
   conv=>lhs;rw[h1,List.flatMap_append,←hl,List.drop_left]
   rfl
  refine⟨b,cap,lim,rfl,hlt,?_⟩
  rw[h.rdN (by rw[a9r];omega),he]
  rfl
def NF(fr:Go.Am.Fr)(x xs xi:AV)(i:Nat):Prop:=ev (tm 0) fr=x∧ev (tm 3) fr= .ptr 1 0∧ev (tm 5) fr= .ptr 181 0∧ev (tm 6) fr= .ptr 185 0∧ev (tm 7) fr=xs∧ev (tm 8) fr=xi∧ev (tm 9) fr=iv i
set_option maxRecDepth 20000 in
theorem f67(h:DN mk xs xi D L c)(hc:c≤29)(hx:OsAt mk x es){v:Nat}(hv:o.n=v)(hok:EOk (v,o.name))(hnb:At mk nb a4J true (E7 o))(hf:NF fr x xs xi i)(f10:ev (tm 10) fr= .ptr nb 0)
  (hat:(∀e∈L,e.2≠o.name)∧ev (tm 13) fr=iv (-1)∨∃j d,L[j]? =some d∧d.2=o.name∧ev (tm 13) fr=iv (j:Nat))
  (hQ:∀fr' m' xs' xi' D' L',DN m' xs' xi' D' L' (c+1)→OsAt m' x es→NF fr' x xs' xi' i→Q .normal fr' m'):GX Tryz.prog tb a2X Q fr mk:=by
 obtain⟨f0,f3,f5,f6,f7,f8,f9⟩:=hf
 obtain⟨K,hK⟩:∃K,K=a5a:=⟨_,rfl⟩
 obtain⟨K2,hK2⟩:∃K,K=a92:=⟨_,rfl⟩
 have o5:∀Q fr m,GX Tryz.prog tb a2X Q fr m=GX Tryz.prog tb (.seq (.reg b0o) (.seq K K2)) Q fr m:=fun _ _ _=>by rw[hK,hK2];rfl
 rw[o5]
 simp-implicitDefEqProofs only[b0o,wA,wB,wC,wD]
 subst hK
 refine f86 h hc hv hok hnb (by simp-implicitDefEqProofs only[f3,d7,↓reduceIte,Nat.reduceEqDiff]) (by simp-implicitDefEqProofs only[f5,d7,↓reduceIte,Nat.reduceEqDiff]) (by simp-implicitDefEqProofs only[f6,d7,↓reduceIte,Nat.reduceEqDiff]) (by simp-implicitDefEqProofs only[f7,d7,↓reduceIte,Nat.reduceEqDiff]) (by simp-implicitDefEqProofs only[f8,d7,↓reduceIte,Nat.reduceEqDiff]) (by simp-implicitDefEqProofs only[f10,d7,↓reduceIte,Nat.reduceEqDiff]) (by simp-implicitDefEqProofs only[d7,↓reduceIte,Nat.reduceEqDiff]) (by simp-implicitDefEqProofs only[d7,↓reduceIte]) (by
  rcases hat with⟨h1,h2⟩|⟨j,d,h1,h2,h3⟩
  ·exact .inl ⟨h1,by simp-implicitDefEqProofs only[h2,d7,↓reduceIte,Nat.reduceEqDiff]⟩
  ·exact .inr ⟨j,d,h1,h2,by simp-implicitDefEqProofs only[h3,d7,↓reduceIte,Nat.reduceEqDiff]⟩) ?_
 intro fr' m' xs' xi' D' L' w h' k' hfr
 simp-implicitDefEqProofs only[f0,f9,d7,↓reduceIte,Nat.reduceEqDiff] at hfr
 obtain⟨g0,g3,g5,g6,g7,g8,g9,g15,g16⟩:=hfr
 obtain⟨o1,o2,hN⟩:=h'.ln
 obtain⟨m2,k2,r2⟩:=f7o h'.ls hN h'.pm h'.nd h'.ok (by have:=h'.ll;omega)
 have pl:m'.rdN 1 0 12=some i5:=h'.ls.pl.rdN (show 0+12≤12 by omega)
 subst hK2
 simp-implicitDefEqProofs only[B5,c9S,g3,g5,g6,g7,g8,g15,g16,eq_self,pl,r2.eq,↓reduceIte,Nat.reduceEqDiff,wA,wB,wC,wD]
 exact hQ _ m2 xs' xi' D' L' (h'.k0 k2) ((hx.kp h.ls.wf k').k0 h'.ls.wf k2) (by unfold NF;simp-implicitDefEqProofs only[g0,g3,g5,g6,g7,g8,g9,d7,↓reduceIte,Nat.reduceEqDiff,and_self])
def O9(c:UInt8):Bool:=decide (97≤c.toNat)&&decide (c.toNat≤122)
set_option maxRecDepth 20000 in
set_option maxHeartbeats 1000000 in
theorem f6X(h:DN mk xs xi D L c)(hc:c≤29)(hx:OsAt mk x es)(ho:es[i]? =some o)(hf:NF fr x xs xi i)
  (hQ:∀r fr' m' xs' xi' D' L',(r= .normal∨r= .exit 1)→DN m' xs' xi' D' L' (c+1)→OsAt m' x es→NF fr' x xs' xi' i→Q r fr' m'):GX Tryz.prog tb a2Z Q fr mk:=by
 obtain⟨f0,f3,f5,f6,f7,f8,f9⟩:=hf
 have hw:=h.ls.wf
 obtain⟨bx,cap,lim,ex,hil,hr⟩:=hx.elem ho
 obtain⟨m1,e1,a1,k1,n1⟩:=B0 hw a4J 4 [iv 0,iv 0,iv 0,tv []]
 obtain⟨m2,e2,a2,k2,n2⟩:=a1.st k1.wf 0 (E7 o) (l':=E7 o)
 have k02:Keep mk m2 (fun _=>False):=k1.trans k2 fun b hb e=>by omega
 have h2:=h.k0 k02
 have hx2:=hx.k0 hw k02
 have r1:m2.rd mk.next 3=some (tv o.name):=by rw[a2.rd];rfl
 have r2:m2.rd mk.next 2=some (iv o.n):=by rw[a2.rd];rfl
 have q1:=x9 (m:=mk) 4 bx 0 es.length cap lim hil
 rw[Nat.zero_add] at q1
 have e2:m1.wr mk.next 0 [iv o.kind,iv o.d,iv o.n,tv o.name] =some m2:=e2
 have hr:mk.rdN bx (i*4) 4=some [iv o.kind,iv o.d,iv o.n,tv o.name] :=hr
 obtain⟨nb,hnb⟩:∃nb,nb=mk.next:=⟨_,rfl⟩
 rw[←hnb] at r1 r2 a2 e2
 obtain⟨K,hK⟩:∃K,K=a5w:=⟨_,rfl⟩
 have o5:∀Q fr m,GX Tryz.prog tb a2Z Q fr m=GX Tryz.prog tb (.seq (.reg a0D) (.seq b0R K)) Q fr m:=fun _ _ _=>by rw[hK];rfl
 rw[o5]
 have go:∀{r fr'},(r= .normal∨r= .exit 1)→NF fr' x xs xi i→Q r fr' m2:=fun hr hf=>hQ _ _ m2 xs xi D L hr h2.up hx2 hf
 by_cases l0:(o.name.length:Int)=0
 ·simp-implicitDefEqProofs only[B5,a0D,a1x,f0,f9,ex,q1,hr,e1,←hnb,e2,r1,eq_true l0,↓reduceIte,Nat.reduceEqDiff,Nat.reduceAdd,wA,wB,wC,wD]
  exact go (.inr rfl) (by unfold NF;simp-implicitDefEqProofs only[f0,f3,f5,f6,f7,f8,f9,ex,d7,↓reduceIte,Nat.reduceEqDiff,and_self])
 by_cases l13:(13:Int)<(o.name.length:Int)
 ·simp-implicitDefEqProofs only[B5,a0D,a1x,f0,f9,ex,q1,hr,e1,←hnb,e2,r1,eq_false l0,eq_true l13,↓reduceIte,Nat.reduceEqDiff,Nat.reduceAdd,wA,wB,wC,wD]
  exact go (.inr rfl) (by unfold NF;simp-implicitDefEqProofs only[f0,f3,f5,f6,f7,f8,f9,ex,d7,↓reduceIte,Nat.reduceEqDiff,and_self])
 by_cases n1':o.n<1
 ·simp-implicitDefEqProofs only[B5,a0D,a1x,f0,f9,ex,q1,hr,e1,←hnb,e2,r1,r2,eq_false l0,eq_false l13,eq_true n1',↓reduceIte,Nat.reduceEqDiff,Nat.reduceAdd,wA,wB,wC,wD]
  exact go (.inr rfl) (by unfold NF;simp-implicitDefEqProofs only[f0,f3,f5,f6,f7,f8,f9,ex,d7,↓reduceIte,Nat.reduceEqDiff,and_self])
 by_cases nbig:(65535:Int)<o.n
 ·simp-implicitDefEqProofs only[B5,a0D,a1x,f0,f9,ex,q1,hr,e1,←hnb,e2,r1,r2,eq_false l0,eq_false l13,eq_false n1',eq_true nbig,↓reduceIte,Nat.reduceEqDiff,Nat.reduceAdd,wA,wB,wC,wD]
  exact go (.inr rfl) (by unfold NF;simp-implicitDefEqProofs only[f0,f3,f5,f6,f7,f8,f9,ex,d7,↓reduceIte,Nat.reduceEqDiff,and_self])
 obtain⟨v,hv⟩:∃v:Nat,o.n=v:=⟨o.n.toNat,by omega⟩
 simp-implicitDefEqProofs only[B5,a0D,a1x,f0,f9,ex,q1,hr,e1,←hnb,e2,r1,r2,eq_false l0,eq_false l13,eq_false n1',eq_false nbig,↓reduceIte,Nat.reduceEqDiff,Nat.reduceAdd,wA,wB,wC,wD]
 subst hK
 obtain⟨K,hK⟩:∃K,K=a45:=⟨_,rfl⟩
 have o6:∀Q fr m,GX Tryz.prog tb a5w Q fr m=GX Tryz.prog tb (.seq (.reg b0y) (.seq b0E K)) Q fr m:=fun _ _ _=>by rw[hK];rfl
 rw[o6]
 simp-implicitDefEqProofs only[B5,b0y,c0x,wA,wB,wC,wD]
 refine y7 (fun j fr mk=>∃k,k≤o.name.length∧j=o.name.length-k∧(ev (tm 0) fr=x∧ev (tm 3) fr= .ptr 1 0∧ev (tm 5) fr= .ptr 181 0∧ev (tm 6) fr= .ptr 185 0∧ev (tm 7) fr=xs∧ev (tm 8) fr=xi∧ev (tm 9) fr=iv i∧ev (tm 10) fr= .ptr nb 0∧ev (tm 11) fr= .b ((o.name.take k).all O9)∧ev (tm 12) fr=iv (k:Nat))∧mk=m2) (k:=o.name.length) ⟨0,Nat.zero_le _,rfl,by simp-implicitDefEqProofs only[f0,f3,f5,f6,f7,f8,f9,ex,↓reduceIte,Nat.reduceEqDiff,wA,wB,wC,wD],rfl⟩ ?_
 clear f0 f3 f5 f6 f7 f8 f9
 rintro _ fr m3 ⟨k,hk,rfl,⟨f0,f3,f5,f6,f7,f8,f9,f10,f11,f12⟩,rfl⟩
 by_cases hlt:k<o.name.length
 ·obtain⟨ch,hch⟩:∃ch,o.name[k]? =some ch:=⟨_,List.getElem?_eq_getElem hlt⟩
  have hstep:(o.name.take (k+1)).all O9=((o.name.take k).all O9&&O9 ch):=by
   rw[List.take_add_one,hch]
   simp
  have vx:=a62 hch m3
  cases hall:(o.name.take k).all O9 with
  |false=>
   rw[hall] at f11 hstep
   simp-implicitDefEqProofs only[B5,a1r,a5v,a47,f10,f11,f12,r1,show((k:Int)<(o.name.length:Int))=True from eq_true (by omega),aD (k:Int) 1,↓reduceIte,Nat.reduceEqDiff,wA,wB,wC,wD]
   exact y8 (k':=o.name.length-(k+1)) (by omega) ⟨k+1,by omega,rfl,by simp-implicitDefEqProofs only[f0,f3,f5,f6,f7,f8,f9,f10,hstep,show(k:Int)+1=((k+1:Nat):Int) from rfl,d7,↓reduceIte,Nat.reduceEqDiff,Bool.false_and,and_self],rfl⟩
  |true=>
   rw[hall] at f11 hstep
   cases h97:decide (97≤ch.toNat) with
   |false=>
    have hlow:O9 ch=false:=by unfold O9;rw[h97];rfl
    simp-implicitDefEqProofs only[B5,a1r,a5v,a47,f10,f11,f12,r1,show((k:Int)<(o.name.length:Int))=True from eq_true (by omega),a3F,vx,f03,h97,aD (k:Int) 1,↓reduceIte,Nat.reduceEqDiff,wA,wB,wC,wD]
    exact y8 (k':=o.name.length-(k+1)) (by omega) ⟨k+1,by omega,rfl,by simp-implicitDefEqProofs only[f0,f3,f5,f6,f7,f8,f9,f10,hstep,hlow,show(k:Int)+1=((k+1:Nat):Int) from rfl,d7,↓reduceIte,Nat.reduceEqDiff,Bool.and_false,and_self],rfl⟩
   |true=>
    have hlow:O9 ch=decide (ch.toNat≤122):=by unfold O9;rw[h97];rfl
    simp-implicitDefEqProofs only[B5,a1r,a5v,a47,f10,f11,f12,r1,show((k:Int)<(o.name.length:Int))=True from eq_true (by omega),a3F,vx,f03,g5j,h97,aD (k:Int) 1,↓reduceIte,Nat.reduceEqDiff,wA,wB,wC,wD]
    exact y8 (k':=o.name.length-(k+1)) (by omega) ⟨k+1,by omega,rfl,by simp-implicitDefEqProofs only[f0,f3,f5,f6,f7,f8,f9,f10,hstep,hlow,show(k:Int)+1=((k+1:Nat):Int) from rfl,d7,↓reduceIte,Nat.reduceEqDiff,Bool.true_and,and_self],rfl⟩
 ·obtain rfl:k=o.name.length:=by omega
  rw[List.take_length] at f11
  obtain⟨K2,hK2⟩:∃K,K=a40:=⟨_,rfl⟩
  have o7:∀Q fr m,GX Tryz.prog tb a45 Q fr m=GX Tryz.prog tb (.seq a9Z K2) Q fr m:=fun _ _ _=>by rw[hK2];rfl
  cases hall:o.name.all O9 with
  |false=>
   rw[hall] at f11
   simp-implicitDefEqProofs only[B5,a1r,f10,f12,r1,↓reduceIte,Nat.reduceEqDiff,wA,wB,wC,wD]
   subst hK
   rw[o7]
   simp-implicitDefEqProofs only[B5,b0p,f11,↓reduceIte,Nat.reduceEqDiff,wA,wB,wC,wD]
   exact go (.inr rfl) (by unfold NF;simp-implicitDefEqProofs only[f0,f3,f5,f6,f7,f8,f9,d7,↓reduceIte,Nat.reduceEqDiff,and_self])
  |true=>
   rw[hall] at f11
   have hok:EOk (v,o.name):=⟨by show 1≤v;omega,by show v≤65535;omega,by show 1≤o.name.length;omega,by show o.name.length≤13;omega,fun ch hch=>by
    have:=List.all_eq_true.1 hall ch hch
    unfold O9 at this
    simpa using this⟩
   simp-implicitDefEqProofs only[B5,a1r,f10,f12,r1,↓reduceIte,Nat.reduceEqDiff,wA,wB,wC,wD]
   subst hK
   rw[o7]
   simp-implicitDefEqProofs only[B5,b0p,f11,↓reduceIte,Nat.reduceEqDiff,wA,wB,wC,wD]
   subst hK2
   obtain⟨K,hK⟩:∃K,K=a2X:=⟨_,rfl⟩
   have o8:∀Q fr m,GX Tryz.prog tb a40 Q fr m=GX Tryz.prog tb (.seq (.reg b0U) (.seq a9U K)) Q fr m:=fun _ _ _=>by rw[hK];rfl
   rw[o8]
   simp-implicitDefEqProofs only[B5,b0U,c61,wA,wB,wC,wD]
   have hLc:=h2.ll
   obtain⟨o1,o2,hN⟩:=h2.ln
   have ln:E4 false xs=some L.length:=hN.ns.len
   refine y7 (fun j fr mk=>∃k,k≤L.length∧j=L.length-k∧(NF fr x xs xi i∧ev (tm 10) fr= .ptr nb 0∧ev (tm 14) fr=iv (k:Nat))∧mk=m3∧((∀j e,j<k→L[j]? =some e→e.2≠o.name)∧ev (tm 13) fr=iv (-1)∨∃j d,j<k∧L[j]? =some d∧d.2=o.name∧ev (tm 13) fr=iv (j:Nat))) (k:=L.length)
    ⟨0,Nat.zero_le _,rfl,by unfold NF;simp-implicitDefEqProofs only[nc0,f0,f3,f5,f6,f7,f8,f9,f10,d7,↓reduceIte,Nat.reduceEqDiff,nc0,and_self],rfl,.inl ⟨fun j e hj=>by omega,by simp-implicitDefEqProofs only[d7,↓reduceIte,Nat.reduceEqDiff]⟩⟩ ?_
   clear f0 f3 f5 f6 f7 f8 f9 f10 f11 f12
   rintro _ fr m4 ⟨k,hk,rfl,⟨⟨f0,f3,f5,f6,f7,f8,f9⟩,f10,f14⟩,rfl,hat⟩
   by_cases hlt:k<L.length
   ·obtain⟨e,he⟩:∃e,L[k]? =some e:=⟨_,List.getElem?_eq_getElem hlt⟩
    obtain⟨⟨b,cap',ex',w1⟩,_⟩:=hN.rd he
    have w2:=x9 (m:=m4) 1 b 0 L.length cap' false hlt
    rw[Nat.zero_add,Nat.mul_one] at w2
    have lb:E4 false (.slice b 0 L.length cap' false)=some L.length:=rfl
    by_cases hen:e.2=o.name
    ·simp-implicitDefEqProofs only[B5,a5E,b0V,c8C,b01,f7,f10,f14,ex',lb,show((k:Int)<(L.length:Int))=True from eq_true (by omega),w1,w2,r1,eq_true hen,aD (k:Int) 1,↓reduceIte,Nat.reduceEqDiff,List.getElem?_cons_succ,List.getElem?_cons_zero,exists_eq_left',wA,wB,wC,wD]
     refine y8 (k':=L.length-(k+1)) (by omega) ⟨k+1,by omega,rfl,?_,rfl,.inr ⟨k,e,by omega,he,hen,by simp-implicitDefEqProofs only[d7,↓reduceIte,Nat.reduceEqDiff]⟩⟩
     unfold NF;simp-implicitDefEqProofs only[f0,f3,f5,f6,f7,f8,f9,f10,ex',show(k:Int)+1=((k+1:Nat):Int) from rfl,d7,↓reduceIte,Nat.reduceEqDiff,and_self]
    ·simp-implicitDefEqProofs only[B5,a5E,b0V,b01,f7,f10,f14,ex',lb,show((k:Int)<(L.length:Int))=True from eq_true (by omega),w1,w2,r1,eq_false hen,aD (k:Int) 1,↓reduceIte,Nat.reduceEqDiff,List.getElem?_cons_succ,List.getElem?_cons_zero,exists_eq_left',wA,wB,wC,wD]
     refine y8 (k':=L.length-(k+1)) (by omega) ⟨k+1,by omega,rfl,?_,rfl,?_⟩
     ·unfold NF;simp-implicitDefEqProofs only[f0,f3,f5,f6,f7,f8,f9,f10,ex',show(k:Int)+1=((k+1:Nat):Int) from rfl,d7,↓reduceIte,Nat.reduceEqDiff,and_self]
     ·rcases hat with⟨g1,g2⟩|⟨j,d,g1,g2,g3,g4⟩
      ·refine .inl ⟨fun j e' hj he'=> ?_,by simp-implicitDefEqProofs only[g2,d7,↓reduceIte,Nat.reduceEqDiff]⟩
       by_cases hjk:j=k
       ·subst hjk;rw[he] at he';cases he';exact hen
       ·exact g1 j e' (by omega) he'
      ·exact .inr ⟨j,d,by omega,g2,g3,by simp-implicitDefEqProofs only[g4,d7,↓reduceIte,Nat.reduceEqDiff]⟩
   ·obtain rfl:k=L.length:=by omega
    simp-implicitDefEqProofs only[B5,a5E,f7,f14,ln,↓reduceIte,Nat.reduceEqDiff,wA,wB,wC,wD]
    subst hK
    refine f67 h2 hc hx2 hv hok a2 (i:=i) (by unfold NF;simp-implicitDefEqProofs only[f0,f3,f5,f6,f7,f8,f9,d7,↓reduceIte,Nat.reduceEqDiff,and_self]) (by simp-implicitDefEqProofs only[f10,d7,↓reduceIte,Nat.reduceEqDiff]) ?_ fun fr' m' xs' xi' D' L' g1 g2 g3=>hQ _ fr' m' xs' xi' D' L' (.inl rfl) g1 g2 g3
    rcases hat with⟨g1,g2⟩|⟨j,d,g1,g2,g3,g4⟩
    ·exact .inl ⟨fun e he=>by
      obtain⟨j,hj⟩:=List.mem_iff_getElem?.1 he
      exact g1 j e (List.getElem?_eq_some_iff.1 hj).1 hj,by simp-implicitDefEqProofs only[g2,d7,↓reduceIte,Nat.reduceEqDiff]⟩
    ·exact .inr ⟨j,d,g2,g3,by simp-implicitDefEqProofs only[g4,d7,↓reduceIte,Nat.reduceEqDiff]⟩
end
set_option maxRecDepth 20000 in
theorem f6R{q:Option Blk}{x:AV}{es:List Oq}(hx:OsAt (mS q) x es):WpF Tryz.prog tb f0e [x] (mS q) fun v _=>v= .b true:=by
 obtain⟨mz,mw,m1,ez,ew,hP,k01,h1,r1⟩:=f7K q
 have e1:(mS q).next=1:=rfl
 have hw0:Wf (mS q):=f0H q
 have hx1:=hx.k0 hw0 k01
 have hd1:DN m1 j7 j7 [] [] 0:=⟨h1,⟨none,none,.inl .nil,.inl .nil⟩,.refl _,List.nodup_nil,nofun,Nat.le_refl _⟩
 have lx:E4 false x=some es.length:=hx.len
 refine WpF.go g5L ?_
 simp-implicitDefEqProofs only[B5,e0O,e23,e94,d4w,d6L,e6b,e4A,wakesD_ran.eq,smallD_ran.eq,ez,e1,ew,hP,r1.eq,↓reduceIte,Nat.reduceEqDiff,Nat.reduceAdd,List.getElem?_cons_succ,List.getElem?_cons_zero,wA,wB,wC,wD]
 refine y7 (fun j fr mk=>∃i,i≤es.length∧i≤30∧j=es.length-i∧∃xs xi D L,NF fr x xs xi i∧DN mk xs xi D L i∧OsAt mk x es) (k:=es.length) ⟨0,Nat.zero_le _,by omega,rfl,j7,j7,[],[],by unfold NF;simp-implicitDefEqProofs only[nc0,d7,↓reduceIte,Nat.reduceEqDiff,nc0,and_self],hd1,hx1⟩ ?_
 rintro _ fr mk ⟨i,hi,hi30,rfl,xs,xi,D,L,hf,hD,hxk⟩
 obtain⟨f0,f3,f5,f6,f7,f8,f9⟩:=hf
 by_cases hlt:i<es.length
 ·by_cases h30:i<30
  ·obtain⟨o,ho⟩:∃o,es[i]? =some o:=⟨_,List.getElem?_eq_getElem hlt⟩
   obtain⟨K,hK⟩:∃K,K=a2Z:=⟨_,rfl⟩
   have o5:∀Q fr m,GX Tryz.prog tb b0t Q fr m=GX Tryz.prog tb (.seq b05 (.seq (.block 1 K) b0M)) Q fr m:=fun _ _ _=>by rw[hK];rfl
   rw[o5]
   simp-implicitDefEqProofs only[B5,a6b,f0,f9,lx,show((i:Int)<(es.length:Int))=True from eq_true (by omega),show((i:Int)<30)=True from eq_true (by omega),↓reduceIte,Nat.reduceEqDiff,wA,wB,wC,wD]
   subst hK
   refine f6X hD (by omega) hxk ho (i:=i) (by unfold NF;simp-implicitDefEqProofs only[f0,f3,f5,f6,f7,f8,f9,d7,↓reduceIte,Nat.reduceEqDiff,and_self]) ?_
   clear f0 f3 f5 f6 f7 f8 f9
   rintro r fr' m' xs' xi' D' L' hr hD' hx' ⟨g0,g3,g5,g6,g7,g8,g9⟩
   rcases hr with rfl|rfl
   ·simp-implicitDefEqProofs only[B5,b1m,g9,aD (i:Int) 1,↓reduceIte,wA,wB,wC,wD]
    exact y8 (k':=es.length-(i+1)) (by omega) ⟨i+1,by omega,by omega,rfl,xs',xi',D',L',by unfold NF;simp-implicitDefEqProofs only[g0,g3,g5,g6,g7,g8,show(i:Int)+1=((i+1:Nat):Int) from rfl,d7,↓reduceIte,Nat.reduceEqDiff,and_self],hD',hx'⟩
   ·simp-implicitDefEqProofs only[B5,b1m,g9,aD (i:Int) 1,↓reduceIte,wA,wB,wC,wD]
    exact y8 (k':=es.length-(i+1)) (by omega) ⟨i+1,by omega,by omega,rfl,xs',xi',D',L',by unfold NF;simp-implicitDefEqProofs only[g0,g3,g5,g6,g7,g8,show(i:Int)+1=((i+1:Nat):Int) from rfl,d7,↓reduceIte,Nat.reduceEqDiff,and_self],hD',hx'⟩
  ·simp-implicitDefEqProofs only[B5,a6b,b0C,f0,f9,lx,show((i:Int)<(es.length:Int))=True from eq_true (by omega),show((i:Int)<30)=False from eq_false (by omega),↓reduceIte,Nat.reduceEqDiff,wA,wB,wC,wD]
 ·simp-implicitDefEqProofs only[B5,a6b,b0C,f0,f9,lx,show((i:Int)<(es.length:Int))=False from eq_false (by omega),↓reduceIte,Nat.reduceEqDiff,wA,wB,wC,wD]
end Go.Proofs.YtooooiidpaecmaaGreatDoor
