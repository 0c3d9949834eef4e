import Derived.Test.YtooooiidpaecmaaGreatDoorGr
import Derived.Test.YtooooiidpaecmaaGreatDoorJs
import Derived.Test.YtooooiidpaecmaaGreatDoorPm
set_option linter.unusedVariables false
set_option linter.unusedSimpArgs false
/- inode.Table.Find. -/
namespace Go.Proofs.YtooooiidpaecmaaGreatDoor
open Go Go.Am
section
variable {m:M} {A:Ad} {S:PS} {own:Nat→Prop} {X:Nat→Ino} {tt aa i:Nat}
structure FindInv(m:M)(A:Ad)(tt:Nat)(S:PS)(X:Nat→Ino)(i:Nat)(p:Pa)(r sl:Nat)(n blk:Nat)(mk:M):Prop where
 z:n=0→blk=0
 s:∀j w,n=j+1→p.way[j]? =some w→nd S (X i) w=blk∧blk≠0
 sl:∃x,At mk sl D6 true [iv i,iv blk,x]
 r:At mk r d5 true ((p.way.map Pa.at).map ivn)
 kp:Keep m mk fun _=>False
theorem b9n(hw:Wf m)(h:GAt m A S own)(ht:TAt m tt aa A.g)(hI:Inv S I2 X)(hi:i∈I2){k:Nat}(hk:k≤1063):
  ∃m',Keep m m' (fun _=>False)∧Ran Tryz.prog tb a3U [.ptr tt 0,.ptr A.o 0,iv i,iv k] m (.tuple [iv (nd S (X i) (i6 k)),iv 0]) m':=by
 obtain⟨hpok,hpin⟩:=F0 hk
 obtain⟨m1,r,a1,k1,n1,r1⟩:=b88 hw hk
 obtain⟨hL1,hL3⟩:=c1a (i6 k)
 generalize i6 k=p at*
 obtain⟨m2,e2,a2,k2,n2⟩:=B0 k1.wf D6 3 [iv 0,iv 0,iv 0]
 obtain⟨m3,e3,a3,k3,n3⟩:=a2.st k2.wf 0 [iv i,iv 0,iv 0]
 have k02:=k1.tf k2
 have hn1:=k1.next
 have k03:Keep m m3 fun _=>False:=k02.trans k3 fun b hb e=>by omega
 have hp:m.rdN tt 1 12=some i5:=ht.t.rdN (by show 1+12≤14;omega)
 have hrp:B4 3 [iv 0] = [iv 0,iv 0,iv 0] :=rfl
 have hr1:=a1.lt k1.wf
 have a13:=(a1.keep k1.wf k2 id).keep k2.wf k3 (by omega)
 have key:WpF Tryz.prog tb a3U [.ptr tt 0,.ptr A.o 0,iv i,iv k] m fun v m'=>v= .tuple [iv (nd S (X i) p),iv 0]∧Keep m m' fun _=>False:=by
  refine WpF.go g4T ?_
  simp-implicitDefEqProofs only[a7x,d6E,d3m,d4E,d4u,e4e,d4W,d4o,a3f,hp,r1.eq,e2,e3,↓reduceIte,Nat.reduceEqDiff,Nat.reduceAdd,Nat.reduceLeDiff,List.getElem?_cons_succ,List.getElem?_cons_zero,wA,wB,wC,wD]
  refine y7 (fun j fr mk=>∃n blk,n≤p.way.length∧j=p.way.length-n∧(ev (tm 0) fr= .ptr tt 0∧ev (tm 1) fr= .ptr A.o 0∧ev (tm 12) fr= .ptr m1.next 0∧ev (tm 13) fr=iv (blk:Nat)∧ev (tm 30) fr= .slice r 0 p.way.length p.way.length false∧ev (tm 31) fr=iv (p.way.length:Nat)∧ev (tm 32) fr=iv (n:Nat))∧FindInv m A tt S X i p r m1.next n blk mk) (k:=p.way.length)
   ⟨0,0,Nat.zero_le _,rfl,by simp-implicitDefEqProofs only[nc0,d7,↓reduceIte,Nat.reduceEqDiff,nc0,and_self],⟨fun _=>rfl,fun j w e=>by omega,⟨_,a3⟩,a13,k03⟩⟩ ?_
  rintro j fr mk ⟨n,blk,hn,rfl,⟨f0,f1,f12,f13,f30,f31,f32⟩,hF⟩
  have hwk:=hF.kp.wf
  by_cases hlt:n<p.way.length
  ·have hq0:p.way[n]? =some p.way[n] :=List.getElem?_eq_getElem hlt
   generalize p.way[n] =q at hq0
   have hqok:=b2L hpok hq0
   have hsr:mk.rd r n=some (iv q.at):=by
    rw[hF.r.rd,List.getElem?_map,List.getElem?_map,hq0];rfl
   have hia:=x9 (m:=mk) 1 r 0 p.way.length p.way.length false hlt
   rw[Nat.zero_add,Nat.mul_one] at hia
   obtain⟨x,aS⟩:=hF.sl
   obtain⟨mA,eA,aA,kA,nA⟩:=aS.st hwk 2 [iv q.at]
   have k0A:Keep m mA fun _=>False:=hF.kp.trans kA fun b hb e=>by omega
   have hc:(∃k,q= .r k∧blk=0)∨∃w,q.up=some w∧nd S (X i) w=blk∧blk≠0:=by
    cases n with
    |zero=>
     obtain⟨k',rfl⟩:=f01 hq0
     exact .inl ⟨k',rfl,hF.z rfl⟩
    |succ n=>
     have hw0:p.way[n]? =some p.way[n] :=List.getElem?_eq_getElem (by omega)
     obtain⟨w1,w2⟩:=hF.s n _ rfl hw0
     exact .inr ⟨_,a6E hw0 hq0,w1,w2⟩
   obtain⟨mB,kB,rB⟩:=b0D kA.wf (h.k0 hw k0A) (ht.k0 hw k0A) hI hi hqok hc
   have hl:mA.rdN m1.next 0 3=some [iv i,iv blk,iv q.at] :=aA.rdN (by show 0+3≤3;omega)
   have aRA:=hF.r.keep hwk kA (by omega)
   have aB:=aA.keep kA.wf kB id
   by_cases h0:nd S (X i) q=0
   ·rw[h0,nc0] at rB
    have hp0:=d79 hpok hq0 h0
    simp-implicitDefEqProofs only[a7x,a6f,b0I,b0X,b0z,a9W,b0v,f0,f1,f12,f30,f31,f32,show((n:Int)<(p.way.length:Int))=True from eq_true (by omega),hia,hsr,eA,hl,rB.eq,↓reduceIte,Nat.reduceEqDiff,List.getElem?_cons_succ,List.getElem?_cons_zero,wA,wB,wC,wD]
    exact⟨by rw[hp0];rfl,k0A.tf kB⟩
   ·obtain⟨mC,eC,aC,kC,nC⟩:=aB.st kB.wf 1 [iv (nd S (X i) q)]
    simp-implicitDefEqProofs only[a7x,a6f,b0I,b0X,b0z,a9W,c7M,c17,f0,f1,f12,f30,f31,f32,show((n:Int)<(p.way.length:Int))=True from eq_true (by omega),hia,hsr,eA,hl,rB.eq,show((nd S (X i) q:Int)=0)=False from eq_false (by omega),eC,aD (n:Int) 1,↓reduceIte,Nat.reduceEqDiff,List.getElem?_cons_succ,List.getElem?_cons_zero,wA,wB,wC,wD]
    have k0C:Keep m mC fun _=>False:=(k0A.tf kB).trans kC fun b hb e=>by omega
    refine y8 (k':=p.way.length-(n+1)) (by omega) ⟨n+1,nd S (X i) q,by omega,rfl,by simp-implicitDefEqProofs only[f0,f1,f12,f30,f31,show(n:Int)+1=((n+1:Nat):Int) from rfl,d7,↓reduceIte,Nat.reduceEqDiff,and_self],⟨fun e=>by omega,fun j w e hj=> ?_,⟨_,aC⟩,((aRA.keep kA.wf kB id).keep kB.wf kC (by omega)),k0C⟩⟩
    obtain rfl:j=n:=by omega
    rw[hq0] at hj
    cases hj
    exact⟨rfl,h0⟩
  ·have hnl:n=p.way.length:=by omega
   subst hnl
   obtain⟨j,hj⟩:∃j,p.way.length=j+1:=⟨p.way.length-1,by omega⟩
   have hw0:p.way[j]? =some p.way[j] :=List.getElem?_eq_getElem (by omega)
   obtain⟨w1,w2⟩:=hF.s j _ hj hw0
   have hpq:=a2F hw0 hj.symm
   rw[hpq] at w1
   simp-implicitDefEqProofs only[a7x,a6f,b0v,f13,f31,f32,show((p.way.length:Int)<(p.way.length:Int))=False from eq_false (by omega),↓reduceIte,Nat.reduceEqDiff,wA,wB,wC,wD]
   exact⟨by rw[w1],hF.kp⟩
 obtain⟨v,m',⟨rfl,h1⟩,r⟩:=key.ran
 exact⟨m',h1,r⟩
end
section
variable {S:PS} {X:Nat→Ino} {i:Nat} {x:Ino}
structure PrOk(S:PS)(x:Ino)(L:List (Nat×Nat)):Prop where
 nd:(L.map (·.1)).Nodup
 el:∀e∈L,e.1≤1063∧Go.Am.nd S x (i6 e.1)=e.2∧e.2≠0
 all:∀k,k≤1063→Go.Am.nd S x (i6 k)≠0→k∈L.map (·.1)
end
noncomputable def coL(A:Ad)(tt i:Nat)(pl:List AV)(x:Ino):List AV:= [.ptr A.o 0,.ptr tt 0] ++(pl++([iv i] ++s8 x.kind x.links x.size x.ps))
section
variable {m:M} {A:Ad} {S:PS} {own:Nat→Prop} {X:Nat→Ino} {tt aa i:Nat}
theorem a9B(hw:Wf m)(h:GAt m A S own)(ht:TAt m tt aa A.g)(hI:Inv S I2 X)(hi:i∈I2)(q0 q1 q2 q3 q4 q5 q6 q7 q8 q9 q10 q11:AV):
  ∃m' c,At m' c W9 true (coL A tt i [q0,q1,q2,q3,q4,q5,q6,q7,q8,q9,q10,q11] (X i))∧Keep m m' (fun _=>False)∧m.next≤c∧Ran Tryz.prog tb a3J [.ptr A.o 0,.ptr tt 0,.agg [q0,q1,q2,q3,q4,q5,q6,q7,q8,q9,q10,q11],iv i] m (.tuple [.ptr c 0,iv 0]) m':=by
 obtain⟨hi6,hx,ho⟩:=hI.ino i hi
 obtain⟨m1,e1,a1,k1,n1⟩:=l6 hw v7 12 [q0,q1,q2,q3,q4,q5,q6,q7,q8,q9,q10,q11]
 obtain⟨m2,k2,r2⟩:=a0I k1.wf (h.k0 hw k1) (ht.k0 hw k1) (Q5 hi) hx ho
 generalize X i=x at*
 obtain⟨kd,lk,sz,ps⟩:=x
 obtain⟨h1,h2,h3,h4,h5,h6⟩:=ho
 simp only at h1 h2 h3 h4 h5 h6
 obtain⟨p0,p1,p2,p3,p4,p5,p6,p7,p8,p9,rfl⟩:=ten h5
 have k02:=k1.tf k2
 obtain⟨m3,e3,a3,k3,n3⟩:=B0 k02.wf A3 13 z13
 have hin:s8 kd lk sz [p0,p1,p2,p3,p4,p5,p6,p7,p8,p9] = [ivn kd,ivn lk,ivn sz,ivn p0,ivn p1,ivn p2,ivn p3,ivn p4,ivn p5,ivn p6,ivn p7,ivn p8,ivn p9] :=rfl
 obtain⟨m4,e4,a4,k4,n4⟩:=a3.st k3.wf 0 [ivn kd,ivn lk,ivn sz,ivn p0,ivn p1,ivn p2,ivn p3,ivn p4,ivn p5,ivn p6,ivn p7,ivn p8,ivn p9]
 have hn2:=k02.next
 have k24:Keep m2 m4 fun _=>False:=k3.trans k4 fun b hb e=>by omega
 have k04:=k02.tf k24
 obtain⟨m5,e5,a5,k5,n5⟩:=l6 k04.wf W9 28 (coL A tt i [q0,q1,q2,q3,q4,q5,q6,q7,q8,q9,q10,q11] ⟨kd,lk,sz,[p0,p1,p2,p3,p4,p5,p6,p7,p8,p9]⟩)
 have hk0:((kd:Nat):Int)≠0:=by omega
 have hlp:m4.rdN m.next 0 12=some [q0,q1,q2,q3,q4,q5,q6,q7,q8,q9,q10,q11] :=((a1.keep k1.wf k2 id).keep k02.wf k24 id).rdN (by show 0+12≤12;omega)
 have hlx:m4.rdN m2.next 0 13=some [ivn kd,ivn lk,ivn sz,ivn p0,ivn p1,ivn p2,ivn p3,ivn p4,ivn p5,ivn p6,ivn p7,ivn p8,ivn p9] :=a4.rdN (by show 0+13≤13;omega)
 rw[hin] at r2
 have hco:coL A tt i [q0,q1,q2,q3,q4,q5,q6,q7,q8,q9,q10,q11] ⟨kd,lk,sz,[p0,p1,p2,p3,p4,p5,p6,p7,p8,p9]⟩= [.ptr A.o 0,.ptr tt 0,q0,q1,q2,q3,q4,q5,q6,q7,q8,q9,q10,q11,iv i,ivn kd,ivn lk,ivn sz,ivn p0,ivn p1,ivn p2,ivn p3,ivn p4,ivn p5,ivn p6,ivn p7,ivn p8,ivn p9] :=rfl
 rw[hco] at e5
 refine⟨m5,m4.next,a5,k04.tf k5,by have:=k04.next;omega,?_⟩
 refine WpF.go g6s ?_
 simp-implicitDefEqProofs only[g6S,d5Q,e1Q,e82,e5E,d55,e1,r2.eq,e3,e4,a4.rd,eq_false hk0,hlp,hlx,e5,↓reduceIte,Nat.reduceEqDiff,Nat.reduceAdd,Nat.reduceLeDiff,List.getElem?_cons_succ,List.getElem?_cons_zero,z6,wA,wB,wC,wD]
theorem b9c(hw:Wf m)(h:GAt m A S own){c:Nat}{x:Ino}{q0 q1 q2 q3 q4 q5 q6 q7 q8 q9 q10 q11:AV}(hc:At m c W9 true (coL A tt i [q0,q1,q2,q3,q4,q5,q6,q7,q8,q9,q10,q11] x)){b:Nat}{t:Bk}{s:AV}{r:Nat}(hs:BtU m s t r)(h64:t.length=64)(hlo:37≤b)(hb:b<90):
  ∃m' own',Step m m' A (S.wr b t) own own'∧Ran Tryz.prog tb a7t [.ptr c 0,iv b,s] m (iv 0) m':=by
 have h0:m.rd c 0=some (.ptr A.o 0):=by rw[hc.rd];rfl
 have h15:m.rd c 15=some (ivn x.kind):=by rw[hc.rd];rfl
 by_cases hk:(x.kind:Int)=2
 ·obtain⟨m',own',st,r⟩:=a2B hw h hs h64 (by omega) hb
  refine⟨m',own',st,?_⟩
  refine WpF.go f0O ?_
  simp-implicitDefEqProofs only[f2D,b1q,b2r,d4Q,h0,h15,eq_true hk,r.eq,↓reduceIte,Nat.reduceEqDiff,Nat.reduceAdd,wA,wB,wC,wD]
 ·obtain⟨m',own',st,r⟩:=g1a hw h hs h64 hlo hb
  refine⟨m',own',st,?_⟩
  refine WpF.go f0O ?_
  simp-implicitDefEqProofs only[f2D,b1q,b2r,e7T,h0,h15,eq_false hk,r.eq,↓reduceIte,Nat.reduceEqDiff,Nat.reduceAdd,wA,wB,wC,wD]
theorem f9l(hw:Wf m)(h:GAt m A S own)(ht:TAt m tt aa A.g)(hI:Inv S I2 X)(hi:i∈I2){s:Nat}(hs:s≤68096){Q:AV→M→Prop}
  (hQ1:s≤(X i).size→∀m',Keep m m' (fun _=>False)→Q (iv 0) m')
  (hQ2:(X i).size<s→∀m' own' T,Ptd S I2 X T i {X i with size:=s}→Step m m' A T own own'→Q (iv 0) m'):
  WpF Tryz.prog tb b3U [.ptr A.o 0,.ptr tt 0,iv i,iv s] m Q:=by
 obtain⟨hi6,hx,ho⟩:=hI.ino i hi
 obtain⟨m2,k2,r2⟩:=a0I hw h ht (Q5 hi) hx ho
 obtain⟨t,g1,g2,g3⟩:=id hx
 have hpt:(X i).size<s→Ptd S I2 X (S.wr 35 (spl t (32*(i % 2)) (enc {X i with size:=s}))) i {X i with size:=s}:=fun _=>by
  have:=Ptd.of hI hi g1 g2 (x':={X i with size:=s}) ⟨ho.k1,ho.k2,ho.ln,by show s<4294967296;omega,ho.len,ho.p⟩ rfl
  rwa [O2 hi] at this
 rw[O2 hi] at g1
 have hox:({X i with size:=s}:Ino).Ok:=⟨ho.k1,ho.k2,ho.ln,by show s<4294967296;omega,ho.len,ho.p⟩
 obtain⟨m3,e3,a3,k3,n3⟩:=B0 k2.wf A3 13 z13
 have hn2:=k2.next
 generalize X i=x at*
 obtain⟨kd,lk,sz,ps⟩:=x
 have h5:=ho.len
 simp only at h5 hQ1 hQ2 hpt hox
 obtain⟨p0,p1,p2,p3,p4,p5,p6,p7,p8,p9,rfl⟩:=ten h5
 have hin:∀z,s8 kd lk z [p0,p1,p2,p3,p4,p5,p6,p7,p8,p9] = [ivn kd,ivn lk,ivn z,ivn p0,ivn p1,ivn p2,ivn p3,ivn p4,ivn p5,ivn p6,ivn p7,ivn p8,ivn p9] :=fun _=>rfl
 obtain⟨m4,e4,a4,k4,n4⟩:=a3.st k3.wf 0 [ivn kd,ivn lk,ivn sz,ivn p0,ivn p1,ivn p2,ivn p3,ivn p4,ivn p5,ivn p6,ivn p7,ivn p8,ivn p9]
 have k24:Keep m2 m4 fun _=>False:=k3.trans k4 fun b hb e=>by omega
 have k04:=k2.tf k24
 rw[hin] at r2
 by_cases hle:s≤sz
 ·refine WpF.go f0Y ?_
  simp-implicitDefEqProofs only[f3r,b2c,b2A,b19,e1T,r2.eq,e3,e4,a4.rd,show((s:Int)≤(sz:Int))=True from eq_true (by omega),↓reduceIte,Nat.reduceEqDiff,Nat.reduceAdd,List.getElem?_cons_succ,List.getElem?_cons_zero,z6,wA,wB,wC,wD]
  exact hQ1 hle m4 k04
 ·obtain⟨m5,e5,a5,k5,n5⟩:=a4.st k24.wf 2 [ivn s]
  have k25:Keep m2 m5 fun _=>False:=k24.trans k5 fun b hb e=>by omega
  have k05:=k2.tf k25
  obtain⟨m6,own',st,r6⟩:=b0H k05.wf (h.k0 hw k05) (ht.k0 hw k05) (Q5 hi) g1 hox
  rw[hin] at r6
  have hl5:m5.rdN m2.next 0 13=some [ivn kd,ivn lk,ivn s,ivn p0,ivn p1,ivn p2,ivn p3,ivn p4,ivn p5,ivn p6,ivn p7,ivn p8,ivn p9] :=a5.rdN (by show 0+13≤13;omega)
  refine WpF.go f0Y ?_
  simp-implicitDefEqProofs only[f3r,b2c,b2A,b19,e5w,e6A,r2.eq,e3,e4,a4.rd,show((s:Int)≤(sz:Int))=False from eq_false (by omega),e5,hl5,r6.eq,↓reduceIte,Nat.reduceEqDiff,Nat.reduceAdd,List.getElem?_cons_succ,List.getElem?_cons_zero,z6,wA,wB,wC,wD]
  exact hQ2 (by omega) m6 own' _ (hpt (by omega)) (st.ft k05)
end
def pcl(at' n a:Nat):Nat:=min (64-(at'+a) % 64) (n-a)
noncomputable abbrev pcA(at' n a:Nat):List AV:= [ivn ((at'+a)/64),ivn ((at'+a) % 64),ivn ((at'+a) % 64+pcl at' n a),ivn a]
section
variable {m:M}
theorem f6o{y at' n:Nat}(hn:n≤100000)(hat:at'≤100000){J:Nat→M→Prop}{Sp:M→Prop}
  (hst:∀a mk,a<n→(a=0∨(at'+a) % 64=0)→J a mk→WpY Tryz.prog tb y [.agg (pcA at' n a)] mk fun v m'=>(v= .b true∧J (a+pcl at' n a) m')∨(v= .b false∧Sp m'))
  (h0:J 0 m):WpF Tryz.prog tb a09 [iv 64,iv at',iv n,.yield y] m fun _ m'=>J n m'∨Sp m':=by
 refine WpF.go g5e ?_
 simp-implicitDefEqProofs only[a30,e6J,Nat.reduceAdd,wA,wB,wC,wD]
 refine y7 (fun j fr mk=>∃a,a≤n∧j=n-a∧(a=0∨(at'+a) % 64=0∨a=n)∧(ev (tm 0) fr=iv 64∧ev (tm 1) fr=iv at'∧ev (tm 2) fr=iv n∧ev (tm 3) fr= .yield y∧ev (tm 8) fr=iv (a:Nat))∧J a mk) (k:=n) ⟨0,Nat.zero_le _,rfl,.inl rfl,by simp-implicitDefEqProofs only[nc0,d7,↓reduceIte,Nat.reduceEqDiff,nc0,and_self],h0⟩ ?_
 rintro j fr mk ⟨a,ha,rfl,hb,⟨f0,f1,f2,f3,f8⟩,hJ⟩
 by_cases hlt:a<n
 ·have hb':a=0∨(at'+a) % 64=0:=by omega
  have hsum:(at':Int)+(a:Int)=((at'+a:Nat):Int):=rfl
  have hr:=Y9 (P:=Tryz.prog) (a:=at'+a) (b:=64) d5 (by omega) (by omega)
  have hq:=V8 (P:=Tryz.prog) (a:=at'+a) (b:=64) d5 (by omega) (by omega)
  have c64:((64:Nat):Int)=64:=rfl
  rw[c64] at hr hq
  have hmin:min (64:Int) ((((at'+a) % 64:Nat):Int)+(n:Int)-(a:Int))=(((at'+a) % 64+pcl at' n a:Nat):Int):=by
   unfold pcl;omega
  have hl:((((at'+a) % 64+pcl at' n a:Nat):Int)-(((at'+a) % 64:Nat):Int))=(pcl at' n a:Int):=by omega
  have hpl:pcl at' n a≤n-a∧0<pcl at' n a∧(at'+a) % 64+pcl at' n a≤64:=by unfold pcl;omega
  have hnx:(a:Int)+(pcl at' n a:Int)=((a+pcl at' n a:Nat):Int):=rfl
  simp-implicitDefEqProofs only[a30,b2f,d62,d8u,e1O,f0,f1,f2,f3,f8,show((a:Int)<(n:Int))=True from eq_true (by omega),aD (at':Int) (a:Int),hsum,hr,hq,aD (((at'+a) % 64:Nat):Int) (n:Int),sB ((((at'+a) % 64:Nat):Int)+(n:Int)) (a:Int),hmin,↓reduceIte,Nat.reduceEqDiff,Nat.reduceAdd,Nat.reduceLeDiff,wA,wB,wC,wD]
  refine(hst a mk hlt hb' hJ).mono ?_
  rintro v m' (⟨rfl,hJ'⟩|⟨rfl,hS⟩)
  ·simp-implicitDefEqProofs only[a30,e7j,f8,sB (((at'+a) % 64+pcl at' n a:Nat):Int) (((at'+a) % 64:Nat):Int),hl,aD (a:Int) (pcl at' n a:Int),hnx,↓reduceIte,Nat.reduceEqDiff,wA,wB,wC,wD]
   refine y8 (k':=n-(a+pcl at' n a)) (by omega) ⟨a+pcl at' n a,by omega,rfl,by unfold pcl;omega,by simp-implicitDefEqProofs only[f0,f1,f2,f3,d7,↓reduceIte,Nat.reduceEqDiff,and_self],hJ'⟩
  ·simp-implicitDefEqProofs only[a30,↓reduceIte,wA,wB,wC,wD]
   exact .inr hS
 ·obtain rfl:a=n:=by omega
  simp-implicitDefEqProofs only[a30,b2f,f2,f8,show((a:Int)<(a:Int))=False from eq_false (by omega),↓reduceIte,Nat.reduceEqDiff,wA,wB,wC,wD]
  exact .inl hJ
end
section
variable {m3:M}
theorem b7y{f:Operand}{ps:Array Tmp}{ca bd:Code}{t q X:Nat}{h:FuncId}{caps:List AV}{fr:Go.Am.Fr}{at' n:Nat}{cb:CC}(hw:Wf m3)
  (hf:cO f=tm t) (hev:ev (tm t) fr= .func h caps) (hps:ps.toList= [q]) (has:j9 Tryz.prog ca= .reg [.op (some (pth X)) none (.alloc M6 4 [iv 0,iv 0,iv 0,iv 0]),.op none none (.store 4 (tm X) (tm q))]) (hXq:q≠X) (hbd:j9 Tryz.prog bd=cb)
  (hn:n≤100000) (hat:at'≤100000) (J:Nat→M→Prop) (Sp:M→Prop)
  (hcl:∀y mk (Q:M→Prop),Keep m3 mk (fun _=>False)→WpF Tryz.prog tb a09 [iv 64,iv at',iv n,.yield y] mk (fun _ m'=>Q m')→WpF Tryz.prog tb h (.yield y::caps) mk fun _ m'=>Q m')
  (h0:∀mk,Keep m3 mk (fun _=>False)→J 0 mk)
  (hJ:∀a mk mk',J a mk→kd mk (m3.next+1) 0→Keep mk mk' (fun b=>b=m3.next+1)→J a mk')
  (hS:∀mk mk',Sp mk→kd mk (m3.next+1) 0→Keep mk mk' (fun b=>b=m3.next+1)→Sp mk')
  (body:∀a mk r (Q:Go.Am.X→Go.Am.Fr→M→Prop),a<n→(a=0∨(at'+a) % 64=0)→J a mk→Wf mk→m3.next+2≤r→At mk r M6 true (pcA at' n a)→
   (∀fr' m2 F,Keep mk m2 F→¬F m3.next→¬F (m3.next+1)→J (a+pcl at' n a) m2→Q .normal fr' m2)→(∀fr' m2 F,Keep mk m2 F→¬F m3.next→¬F (m3.next+1)→Sp m2→Q .ret fr' m2)→
   GX Tryz.prog tb cb Q (D5 X (.ptr r 0) (D5 q (.agg (pcA at' n a)) fr)) mk):
  WpS Tryz.prog tb (.rangeFunc f ps ca bd) [] none fr m3 fun x f mm d=>f=fr∧d= [m3.next]∧mm.get m3.next=some (.obj (.dfr true))∧Wf mm∧m3.next<mm.next∧((x= .normal∧J n mm)∨(x= .ret∧Sp mm)):=by
 refine WpS.range (h:=h) (caps:=caps) (by rw[hf];exact hev) ?_
 have k1:Keep m3 (m3.new (.obj (.dfr true))) (fun _=>False):=Keep.new hw
 have n1:(m3.new (.obj (.dfr true))).next=m3.next+1:=M.next_new _ _
 have g1:(m3.new (.obj (.dfr true))).get m3.next=some (.obj (.dfr true)):=by rw[M.get_new,if_pos rfl]
 generalize m3.new (.obj (.dfr true))=m4 at k1 n1 g1⊢
 obtain⟨L0,hL0⟩:∃L0:ALoop,L0=⟨0,none,fr,ps.toList,ca,bd,m3.next⟩:=⟨_,rfl⟩
 rw[←hL0]
 have hst:L0.st=0:=by rw[hL0]
 have hpd:L0.pend=none:=by rw[hL0]
 have hfr:L0.fr=fr:=by rw[hL0]
 have hpr:L0.params= [q] :=by rw[hL0];exact hps
 have hasg:j9 Tryz.prog L0.assign= .reg [.op (some (pth X)) none (.alloc M6 4 [iv 0,iv 0,iv 0,iv 0]),.op none none (.store 4 (tm X) (tm q))] :=by rw[hL0];exact has
 have hbod:j9 Tryz.prog L0.body=cb:=by rw[hL0];exact hbd
 clear hL0
 have k2:Keep m4 (m4.new (.obj (.loop L0))) (fun _=>False):=Keep.new k1.wf
 have n2:(m4.new (.obj (.loop L0))).next=m4.next+1:=M.next_new _ _
 have g2:(m4.new (.obj (.loop L0))).get m4.next=some (.obj (.loop L0)):=by rw[M.get_new,if_pos rfl]
 generalize m4.new (.obj (.loop L0))=m5 at k2 n2 g2⊢
 have g15:m5.get m3.next=some (.obj (.dfr true)):=(k2.get _ (by omega) fun h=>h).trans g1
 rw[n1] at g2
 have k35:=k1.tf k2
 have kdl:∀{mk:M} {L:ALoop},mk.get (m3.next+1)=some (.obj (.loop L))→kd mk (m3.next+1) 0:=fun h=>by unfold kd;rw[h]
 have key:=hcl (m3.next+1) m5 (fun m'=>(J n m'∧Wf m'∧m'.get m3.next=some (.obj (.dfr true))∧m'.get (m3.next+1)=some (.obj (.loop L0))∧m3.next+1<m'.next)∨(Sp m'∧Wf m'∧m'.get m3.next=some (.obj (.dfr true))∧m'.get (m3.next+1)=some (.obj (.loop {L0 with st:=2,pend:=some .ret}))∧m3.next+1<m'.next)) k35
  (f6o (J:=fun a mk=>J a mk∧Wf mk∧mk.get m3.next=some (.obj (.dfr true))∧mk.get (m3.next+1)=some (.obj (.loop L0))∧m3.next+1<mk.next) (Sp:=fun mk=>Sp mk∧Wf mk∧mk.get m3.next=some (.obj (.dfr true))∧mk.get (m3.next+1)=some (.obj (.loop {L0 with st:=2,pend:=some .ret}))∧m3.next+1<mk.next) hn hat
   (fun a mk ha hb ⟨hj,hwk,hd,hl,hnx⟩=>by
    refine WpY.code (I3 hl) (by rw[hpr];rfl) hasg hbod ?_
    rw[hpr,hfr]
    obtain⟨mA,eA,aA,kA,nA⟩:=B0 hwk M6 4 [iv 0,iv 0,iv 0,iv 0]
    obtain⟨mB,eB,aB,kB,nB⟩:=aA.st kA.wf 0 (pcA at' n a)
    show GX Tryz.prog tb (.reg [.op (some (pth X)) none (.alloc M6 4 [iv 0,iv 0,iv 0,iv 0]),.op none none (.store 4 (tm X) (tm q))]) _ (D5 q (.agg (pcA at' n a)) fr) mk
    have hev1:∀v,ev (tm X) (D5 X v (D5 q (.agg (pcA at' n a)) fr))=v:=fun v=>by rw[d7,if_pos rfl]
    have hev2:∀v,ev (tm q) (D5 X v (D5 q (.agg (pcA at' n a)) fr))= .agg (pcA at' n a):=fun v=>by rw[d7,if_neg hXq,d7,if_pos rfl]
    simp only[b3a,b3s,b0k,b1a,eA,a91,a2r,hev1,hev2,a9p,a0G,C5,eB]
    have glB:=(kB.get (m3.next+1) (by omega) (by omega)).trans ((kA.get (m3.next+1) hnx (fun h=>h)).trans hl)
    have gdB:=(kB.get m3.next (by omega) (by omega)).trans ((kA.get m3.next (by omega) (fun h=>h)).trans hd)
    refine⟨rfl,L0,I3 glB,hst,?_⟩
    have hjB:J a mB:=hJ a mk mB hj (kdl hl) ((kA.trans kB fun b hb e=>by omega).mono fun _ _ e=>e.elim)
    have kp:Keep mB (mB.put (m3.next+1) (.obj (.loop {L0 with st:=1}))) (fun b=>b=m3.next+1):=Keep.put kB.wf (by omega) rfl
    have np:(mB.put (m3.next+1) (.obj (.loop {L0 with st:=1}))).next=mB.next:=M.next_put ..
    have gp:(mB.put (m3.next+1) (.obj (.loop {L0 with st:=1}))).get (m3.next+1)=some (.obj (.loop {L0 with st:=1})):=by rw[M.get_put,if_pos rfl]
    have hjp:=hJ a mB _ hjB (kdl glB) kp
    have gdp:=(kp.get m3.next (by omega) (by omega)).trans gdB
    have aP:=aB.keep kB.wf kp (by omega)
    generalize mB.put (m3.next+1) (.obj (.loop {L0 with st:=1}))=mp at kp np gp hjp gdp aP⊢
    refine body a mp mk.next _ ha hb hjp kp.wf (by omega) aP (fun f2 m2 F kF hF1 hF2 hj2=> ?_) (fun f2 m2 F kF hF1 hF2 hs2=> ?_)
    ·have gl2:=(kF.get (m3.next+1) (by omega) hF2).trans gp
     have gd2:=(kF.get m3.next (by omega) hF1).trans gdp
     have hn2:=kF.next
     refine⟨{L0 with st:=1},I3 gl2,?_⟩
     left
     have hfin:({({L0 with st:=1}:ALoop) with st:=bc (B8 .normal).isNone 0 2,pend:=B8 .normal}:ALoop)=L0:=by
      show({L0 with st:=0,pend:=none}:ALoop)=L0
      rw[←hst,←hpd]
     rw[hfin]
     have kz:Keep m2 (m2.put (m3.next+1) (.obj (.loop L0))) (fun b=>b=m3.next+1):=Keep.put kF.wf (by omega) rfl
     have nz:=M.next_put m2 (m3.next+1) (.obj (.loop L0))
     exact⟨rfl,hJ _ _ _ hj2 (kdl gl2) kz,kz.wf,(kz.get _ (by omega) (by omega)).trans gd2,by rw[M.get_put,if_pos rfl],by omega⟩
    ·have gl2:=(kF.get (m3.next+1) (by omega) hF2).trans gp
     have gd2:=(kF.get m3.next (by omega) hF1).trans gdp
     have hn2:=kF.next
     refine⟨{L0 with st:=1},I3 gl2,?_⟩
     right
     have hfin:({({L0 with st:=1}:ALoop) with st:=bc (B8 .ret).isNone 0 2,pend:=B8 .ret}:ALoop)={L0 with st:=2,pend:=some .ret}:=rfl
     rw[hfin]
     have kz:Keep m2 (m2.put (m3.next+1) (.obj (.loop {L0 with st:=2,pend:=some .ret}))) (fun b=>b=m3.next+1):=Keep.put kF.wf (by omega) rfl
     have nz:=M.next_put m2 (m3.next+1) (.obj (.loop {L0 with st:=2,pend:=some .ret}))
     exact⟨rfl,hS _ _ hs2 (kdl gl2) kz,kz.wf,(kz.get _ (by omega) (by omega)).trans gd2,(by rw[M.get_put,if_pos rfl];simp only[hfr,hpr]),by omega⟩)
   ⟨h0 m5 k35,k2.wf,g15,g2,by omega⟩)
 rw[n1]
 refine key.mono ?_
 have fin:∀{m6:M} {L:ALoop},Wf m6→m6.get m3.next=some (.obj (.dfr true))→m6.get (m3.next+1)=some (.obj (.loop L))→m3.next+1<m6.next→Keep m6 (m6.put (m3.next+1) (.obj (.loop {L with st:=3}))) (fun b=>b=m3.next+1)∧(m6.put (m3.next+1) (.obj (.loop {L with st:=3}))).get m3.next=some (.obj (.dfr true))∧m3.next<(m6.put (m3.next+1) (.obj (.loop {L with st:=3}))).next:=fun{m6 L} hw6 hd hl hnx=>by
  have kz:Keep m6 (m6.put (m3.next+1) (.obj (.loop {L with st:=3}))) (fun b=>b=m3.next+1):=Keep.put hw6 hnx rfl
  have nz:=M.next_put m6 (m3.next+1) (.obj (.loop {L with st:=3}))
  exact⟨kz,(kz.get _ (by omega) (by omega)).trans hd,by omega⟩
 rintro v m6 (⟨hj,hw6,hd,hl,hnx⟩|⟨hs,hw6,hd,hl,hnx⟩)
 ·obtain⟨kz,f2,f3⟩:=fin hw6 hd hl hnx
  exact⟨L0,.normal,I3 hl,by rw[hst];decide,by rw[hpd];rfl,rfl,rfl,f2,kz.wf,f3,.inl ⟨rfl,hJ _ _ _ hj (kdl hl) kz⟩⟩
 ·obtain⟨kz,f2,f3⟩:=fin hw6 hd hl hnx
  exact⟨{L0 with st:=2,pend:=some .ret},.ret,I3 hl,by show(2:Nat)≠1;decide,rfl,rfl,rfl,f2,kz.wf,f3,.inr ⟨rfl,hS _ _ hs (kdl hl) kz⟩⟩
end
section
variable {m:M} {A:Ad} {S:PS} {own:Nat→Prop} {X:Nat→Ino} {tt aa i:Nat}
theorem g3B{b off len cap:Nat}{lim:Bool}{z:List AV}{m':M}(h0:0<len)(hw:m.wr b off (B4 len z)=some m'):a3H z (.cst (.slice b off len cap lim)) .leaf m=some (AV.undef,m'):=by
 show bc (Nat.beq len 0) (some (AV.undef,m)) (ob (m.wr b off (B4 len z)) fun m=>some (AV.undef,m))=_
 rw[A4,decide_eq_false (by omega),u7,hw];rfl
theorem g3E(n:Nat):B4 n [AV.y 0] =i9 (List.replicate n 0):=by
 rw[a0w]
 induction n with
 |zero=>rfl
 |succ n ih=>rw[List.replicate_succ,←ih];rfl
theorem g1n{t:Bk}{a:Nat}(h:t.length=64)(ha:a≤64):spl t a (List.replicate (64-a) 0)=clr t a:=by
 unfold spl clr
 rw[List.length_replicate,show a+(64-a)=64 by omega,List.drop_of_length_le (by omega),List.append_nil]
theorem b9k(hw:Wf m)(h:GAt m A S own)(ht:TAt m tt aa A.g)(hI:Inv S I2 X)(hD:Dat S I2 X)(hi:i∈I2){c:Nat}{x:Ino}(hc:At m c W9 true (coL A tt i i5 x)){s:Nat}(hs:s≤68096):
  ∃m' own' T,Tld S I2 X T i s∧(∀j∈I2,∀q:Pa,q.ok→nd T (X j) q=nd S (X j) q)∧Step m m' A T own own'∧Ran Tryz.prog tb a65 [.ptr c 0,iv s] m (iv 0) m':=by
 have h0:m.rd c 0=some (.ptr A.o 0):=by rw[hc.rd];rfl
 have h1:m.rd c 1=some (.ptr tt 0):=by rw[hc.rd];rfl
 have h2:m.rd c 2=some (iv 64):=by rw[hc.rd];rfl
 have h14:m.rd c 14=some (iv i):=by rw[hc.rd];rfl
 have hr:=Y9 (P:=Tryz.prog) (a:=s) (b:=64) d5 (by omega) (by omega)
 have hq:=V8 (P:=Tryz.prog) (a:=s) (b:=64) d5 (by omega) (by omega)
 have c64:((64:Nat):Int)=64:=rfl
 rw[c64] at hr hq
 by_cases hs0:s % 64=0
 ·refine⟨m,own,S,Tld.none hI hD hi (.inl hs0),fun _ _ _ _=>rfl,.rf hw h,?_⟩
  rw[hs0,nc0] at hr
  refine WpF.go b3y ?_
  simp-implicitDefEqProofs only[b4h,a5Q,a5H,a6h,d7l,h2,hr,↓reduceIte,Nat.reduceEqDiff,Nat.reduceAdd,wA,wB,wC,wD]
 ·obtain⟨m1,k1,r1⟩:=b9n hw h ht hI hi (k:=s/64) (by omega)
  have f0:=h0
  have g0:m1.rd c 0=some (.ptr A.o 0):=by rw[(hc.keep hw k1 id).rd];rfl
  have g1:m1.rd c 1=some (.ptr tt 0):=by rw[(hc.keep hw k1 id).rd];rfl
  have g2:m1.rd c 2=some (iv 64):=by rw[(hc.keep hw k1 id).rd];rfl
  have g14:m1.rd c 14=some (iv i):=by rw[(hc.keep hw k1 id).rd];rfl
  by_cases hn0:nd S (X i) (i6 (s/64))=0
  ·refine⟨m1,own,S,Tld.none hI hD hi (.inr hn0),fun _ _ _ _=>rfl,(Step.rf hw h).tf k1,?_⟩
   rw[hn0,nc0] at r1
   refine WpF.go b3y ?_
   simp-implicitDefEqProofs only[b4h,a5Q,a5H,a6h,b1f,b2Y,e48,h0,h1,h2,h14,hr,hq,show(((s % 64:Nat):Int)=0)=False from eq_false (by omega),r1.eq,↓reduceIte,Nat.reduceEqDiff,Nat.reduceAdd,List.getElem?_cons_succ,List.getElem?_cons_zero,exists_eq_left',wA,wB,wC,wD]
  ·have hk:s/64≤1063:=by omega
   have hrng:=hI.rng hi (F0 hk).1 hn0
   have hbl:=hD.blk hi hk
   have hrd:=hD.rd hi hk hn0
   have hT:=Tld.of hI hD hi (s:=s) (by omega) hs0 hn0
   have hnd:=(hI.wrd hi hk rfl hn0 (clr (z8 S (X i) (s/64)) (s % 64))).2
   generalize nd S (X i) (i6 (s/64))=b at*
   generalize z8 S (X i) (s/64)=t at*
   obtain⟨m2,s',r,hb2,hs2,h64,k2,n2,r2⟩:=T8 k1.wf (h.k0 hw k1) (b:=b) (by omega) hrd
   have hrow:RowB m2 s' t r:=⟨hs2⟩
   obtain⟨cap,hse,hcap⟩:=hrow.shape
   rw[h64] at hse hcap
   subst hse
   have k02:=k1.tf k2
   obtain⟨m3,e3,hrow3,k3,n3⟩:=a2M (u:=List.replicate (64-s % 64) 0) (i:=s % 64) k02.wf hrow h64 (by rw[List.length_replicate];omega)
   rw[g1n h64 (by omega)] at hrow3
   have hn1:=k1.next
   have hn2:=k2.next
   have k03:Keep m m3 fun _=>False:=k02.trans k3 fun b hb e=>by omega
   have hc3:=hc.keep hw k03 id
   obtain⟨m4,own',st,r4⟩:=b9c k03.wf (h.k0 hw k03) hc3 (b:=b) (⟨hrow3.bs,hrow3.sl.kd⟩:BtU m3 _ (clr t (s % 64)) r) (c3n h64 (by omega)) (by omega) (by omega)
   refine⟨m4,own',_,hT,hnd,st.ft k03,?_⟩
   have hfr:=a1O (m:=m2) 1 r 0 64 cap false (lo:=s % 64) (by omega) hcap
   rw[Nat.mul_one,Nat.zero_add] at hfr
   have hcl:=g3B (m:=m2) (b:=r) (off:=s % 64) (len:=64-s % 64) (cap:=cap-s % 64) (lim:=false) (z:= [.y 0]) (m':=m3) (by omega) (by rw[g3E];exact e3)
   have j0:m2.rd c 0=some (.ptr A.o 0):=by rw[(hc.keep hw k02 id).rd];rfl
   refine WpF.go b3y ?_
   simp-implicitDefEqProofs only[b4h,a5Q,a5H,a6h,b1f,b2Y,e0c,d5g,c6X,c4t,h0,h1,h2,h14,g0,hr,hq,show(((s % 64:Nat):Int)=0)=False from eq_false (by omega),r1.eq,show((b:Int)=0)=False from eq_false (by omega),r2.eq,a60,hfr,hcl,r4.eq,↓reduceIte,Nat.reduceEqDiff,Nat.reduceAdd,List.getElem?_cons_succ,List.getElem?_cons_zero,exists_eq_left',wA,wB,wC,wD]
end
end Go.Proofs.YtooooiidpaecmaaGreatDoor
