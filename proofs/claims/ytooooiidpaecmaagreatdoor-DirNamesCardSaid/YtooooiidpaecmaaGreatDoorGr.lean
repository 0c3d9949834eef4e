import Derived.Test.YtooooiidpaecmaaGreatDoorGn
import Derived.Test.YtooooiidpaecmaaGreatDoorJs
set_option linter.unusedVariables false
set_option linter.unusedSimpArgs false
/- A file's block that is made. -/
namespace Go.Proofs.YtooooiidpaecmaaGreatDoor
open Go Go.Am
abbrev I2:List Nat:= [2,3]
theorem Q5{i:Nat}(h:i∈I2):i=2∨i=3:=by simpa using h
theorem O2{i:Nat}(h:i∈I2):34+i/2=35:=by rcases Q5 h with rfl|rfl<;>rfl
section
variable {m m':M} {A:Ad} {S T:PS} {own:Nat→Prop} {tt aa:Nat} {X Y:Nat→Ino} {i:Nat} {q:Pa}
theorem Inv.ps(h:Inv T I2 X)(hi:i∈I2){k:Nat}(hk:k<10):(X i).ps[k]? =some (nd T (X i) (.r k)):=by
 have:=(h.ino i hi).2.2.len
 show _=some ((X i).ps.getD k 0)
 rw[List.getD_eq_getElem?_getD,List.getElem?_eq_getElem (by omega)];rfl
theorem b0D(hw:Wf m)(h:GAt m A T own)(ht:TAt m tt aa A.g)(hI:Inv T I2 X)(hi:i∈I2)(hq:q.ok){c:Nat}(hc:(∃k,q= .r k∧c=0)∨∃w,q.up=some w∧nd T (X i) w=c∧c≠0):
  ∃m',Keep m m' (fun _=>False)∧Ran Tryz.prog tb a0V [.ptr tt 0,.ptr A.o 0,.agg [iv i,iv c,iv q.at]] m (.tuple [iv (nd T (X i) q),iv 0]) m':=by
 rcases hc with⟨k,rfl,rfl⟩|⟨w,hw',rfl,h0⟩
 ·obtain⟨_,h1,h2⟩:=hI.ino i hi
  exact f7G hw h ht (Q5 hi) h1 h2 (Inv.ps hI hi hq)
 ·obtain⟨w1,w2,w3⟩:=A0 hw' hq
  obtain⟨t,g1,g2⟩:=hI.blk i hi w w1 w2 h0
  have hr:=hI.rng hi w1 h0
  have e:nd T (X i) q=p16 t q.at:=by
   rw[U9 T (X i) hw']
   unfold ptz
   rw[if_neg h0,g1]
  rw[e]
  exact f8t hw h hr.2 h0 g1 w3
theorem f9D(hw:Wf m){t:Bk}{b:Nat}(h:GAt m A (T.wr 33 (A5 t b true)) own)(ht:TAt m tt aa A.g)(hI:Inv T I2 X)(hi:i∈I2)(hq:q.ok)(hb:b<90){c:Nat}(hc:(∃k,q= .r k∧c=0)∨∃w,q.up=some w∧nd T (X i) w=c∧c≠0):
  ∃m' own' c' u x',Step m m' A ((T.wr 33 (A5 t b true)).wr c' u) own own'∧Ran Tryz.prog tb a0k [.ptr tt 0,.ptr A.o 0,.agg [iv i,iv c,iv q.at],iv b] m (iv 0) m'∧
   (∀k,x'.ps.getD k 0=if q= .r k then b else(X i).ps.getD k 0)∧x'.Ok∧(x'.kind=(X i).kind∧x'.links=(X i).links∧x'.size=(X i).size)∧
   ((∃k,q= .r k∧c'=35∧InoAt (T.wr c' u) i x'∧(∀j∈I2,j≠i→InoAt (T.wr c' u) j (X j)))∨(∃w tc,q.up=some w∧c'=nd T (X i) w∧c'≠0∧T.rd c'=some tc∧tc.length=64∧u=F5 tc q.at b∧x'=X i)):=by
 rcases hc with⟨k,rfl,rfl⟩|⟨w,hw',rfl,h0⟩
 ·obtain⟨_,h1,h2⟩:=hI.ino i hi
  have hk:k<10:=hq
  obtain⟨u0,g1,g2,g3⟩:=id h1
  rw[O2 hi] at g1
  have h1':InoAt (T.wr 33 (A5 t b true)) i (X i):=h1.ne (by rw[O2 hi];exact PS.wr_ne _ _ (by omega))
  obtain⟨m',own',st,r⟩:=b7Y hw h ht (Q5 hi) h1' h2 (t:=u0) (by rw[PS.wr_ne _ _ (by omega)];exact g1) (k:=k) (v:=b) hk (by omega)
  have hl:({X i with ps:=(X i).ps.set k b}:Ino).ps.length=10:=by show((X i).ps.set k b).length=10;rw[List.length_set];exact h2.len
  have hput:=InoAt.put (S:=T) (i:=i) (x:=X i) (y:={X i with ps:=(X i).ps.set k b}) hl (by rw[O2 hi];exact g1) g2
  rw[O2 hi] at hput
  refine⟨m',own',35,_,{X i with ps:=(X i).ps.set k b},st,r,fun j=> ?_,⟨h2.k1,h2.k2,h2.ln,h2.sz,hl,fun p hp=> ?_⟩,⟨rfl,rfl,rfl⟩,.inl ⟨k,rfl,rfl,hput.1,fun j hj hji=>hput.2 j (X j) hji (hI.ino j hj).2.1⟩⟩
  ·show((X i).ps.set k b).getD j 0=_
   rw[List.getD_eq_getElem?_getD,List.getElem?_set]
   by_cases hj:k=j
   ·subst hj
    rw[if_pos rfl,if_pos rfl,if_pos (by rw[h2.len];exact hk)];rfl
   ·rw[if_neg hj,if_neg (fun e=>hj (by cases e;rfl)),List.getD_eq_getElem?_getD]
  ·rcases List.mem_or_eq_of_mem_set hp with hp|rfl
   ·exact h2.p p hp
   ·omega
 ·obtain⟨w1,w2,w3⟩:=A0 hw' hq
  obtain⟨tc,g1,g2⟩:=hI.blk i hi w w1 w2 h0
  have hr:=hI.rng hi w1 h0
  obtain⟨m',own',st,r⟩:=b8p hw h (i:=i) (c:=nd T (X i) w) (a:=q.at) (v:=b) (t:=tc) hr.1 hr.2 (by rw[PS.wr_ne _ _ (by omega)];exact g1) w3 (by omega)
  refine⟨m',own',nd T (X i) w,F5 tc q.at b,X i,st,r,fun k=> ?_,(hI.ino i hi).2.2,⟨rfl,rfl,rfl⟩,.inr ⟨w,tc,hw',rfl,h0,g1,g2,rfl,rfl⟩⟩
  rw[if_neg]
  rintro rfl
  cases hw'
theorem g1v{T:PS}{t:Bk}(ht:T.rd 33=some t)(h:∀b,37≤b→b<90→bt t b=true∨T.kp b=true):a31 T:=fun b h1 h2=>by
 unfold tkn
 rw[ht,Bool.or_eq_true]
 exact h b h1 h2
theorem f7u{p:Pa}{mB:M}{sl:Nat}{R:Am.X→Fr→M→Prop}{fr:Fr}{blk:Nat}(hwB:Wf mB)(h:GAt mB A T own)(ht:TAt mB tt aa A.g)(hM:Mk I2 S X T Y i p)(hi:i∈I2)(hq:q.ok)(hp:p.ok)(hqp:q=p∨q.inn)
  (aS:At mB sl D6 true [iv i,iv blk,iv q.at]) (hc:(∃k,q= .r k∧blk=0)∨∃w,q.up=some w∧nd T (Y i) w=blk∧blk≠0)
  (f0:ev (tm 0) fr= .ptr tt 0) (f1:ev (tm 1) fr= .ptr A.o 0) (f12:ev (tm 12) fr= .ptr sl 0)
  (hret:nd T (Y i) q=0→a31 T→∀fr' m',Keep mB m' (fun _=>False)→ev (tm 8) fr'=iv 0→ev (tm 9) fr'= .b false→ev (tm 10) fr'=iv 10→R .ret fr' m')
  (hold:nd T (Y i) q≠0→∀fr' m',Keep mB m' (fun x=>x=sl)→At m' sl D6 true [iv i,iv (nd T (Y i) q),iv q.at]→ev (tm 8) fr'=iv (nd T (Y i) q)→ev (tm 9) fr'= .b false→(∀t∈[0,1,12,31,32,33],ev (tm t) fr'=ev (tm t) fr)→R .normal fr' m')
  (hnew:nd T (Y i) q=0→∀fr' m' own' Sn V Y' (b:Nat),t8 V≤t8 T+1→GAt m' A Sn own'→(∀x,own' x→own x∨mB.next≤x)→Keep mB m' (fun x=>x=sl∨x∈A.ms)→At m' sl D6 true [iv i,iv b,iv q.at]→Mk I2 S X V Y' i p→nd V (Y' i) q=b→37≤b→b<90→(q.inn→V=Sn.wr b z64)→(¬q.inn→V=Sn)→(q≠p→nd V (Y' i) p=nd T (Y i) p)→
   ev (tm 8) fr'=iv b→ev (tm 9) fr'= .b true→(∀t∈[0,1,12,31,32,33],ev (tm t) fr'=ev (tm t) fr)→R .normal fr' m'):GX Tryz.prog tb a5F R fr mB:=by
 obtain⟨m1,k1,r1⟩:=b0D hwB h ht hM.inv hi hq hc
 have hl:mB.rdN sl 0 3=some [iv i,iv blk,iv q.at] :=aS.rdN (by show 0+3≤3;omega)
 have aS1:=aS.keep hwB k1 id
 by_cases h0:nd T (Y i) q=0
 ·rw[h0,nc0] at r1
  obtain⟨t,g1,g2,g3⟩:=hM.inv.bm
  have h1:=h.k0 hwB k1
  have ht1:=ht.k0 hwB k1
  have hra:m1.rd tt (0+0)=some (.ptr aa 0):=by rw[ht1.t.rd];rfl
  have rB:WpF Tryz.prog tb a7u [.ptr aa 0,.ptr A.o 0] m1 fun v m'=>(∃(own':Nat→Prop) (b:Nat),v= .tuple [iv b,iv 0]∧37≤b∧b<90∧bt t b=false∧Step m1 m' A (T.wr 33 (A5 t b true)) own own')∨(v= .tuple [iv 0,iv 10]∧a31 T∧Keep m1 m' (fun _=>False)):=
   f8i k1.wf h1 ht1.a g1 (fun m' own' b b1 b2 b3 _ st=> .inl ⟨own',b,rfl,b1,b2,b3,st⟩) (fun hf m' k=> .inr ⟨rfl,g1v g1 hf,k⟩)
  obtain⟨v,m2,hv,r2⟩:=rB.ran
  rcases hv with⟨own',b,rfl,b1,b2,b3,st⟩|⟨rfl,hfull,k2⟩
  ·have hw2:=st.kp.wf
   obtain⟨m3,own3,c',u,x',st3,r3,q1,q2,q3,q4⟩:=f9D hw2 st.at' (ht1.kp k1.wf st.kp) hM.inv hi hq b2 hc
   have aS2:=aS1.kp k1.wf st.kp
   have aS3:=aS2.kp hw2 st3.kp
   have hl2:m2.rdN sl 0 3=some [iv i,iv blk,iv q.at] :=aS2.rdN (by show 0+3≤3;omega)
   obtain⟨m4,e4,a4,k4,n4⟩:=aS3.st st3.kp.wf 1 [iv b]
   have hb0:((b:Nat):Int)≠0:=by omega
   obtain⟨V,v1,v2,v3,v4,v5⟩:=hM.inv.made hi hq h0 g1 g2 b1 b2 b3 q1 q2 q4
   have hMV:Mk I2 S X V (upx Y i x') i p:=hM.step hi hq hqp h0 (c:=c') (by omega) v1 q3 v2 v5 (by
    rcases q4 with⟨_,_,rfl,_⟩|⟨w,tc,hw',rfl,hc0,_⟩
    ·exact .inl (by omega)
    ·exact .inr ⟨w,(A0 hw' hq).1,(A0 hw' hq).2.1,hc0,rfl⟩)
   have hc33:c'≠33:=by
    rcases q4 with⟨_,_,rfl,_⟩|⟨w,tc,hw',rfl,hc0,_⟩
    ·omega
    ·have:=(hM.inv.rng hi (A0 hw' hq).1 hc0).1;omega
   have hcV:t8 V≤t8 T+1:=by
    have e1:=g1T g1 g2 b1 b2
    have e2:=a3l (S:=T.wr 33 (A5 t b true)) hc33 u
    by_cases hin:q.inn
    ·rw[←v3 hin]
     have e3:=a3l (S:=(T.wr 33 (A5 t b true)).wr c' u) (b:=b) (by omega) z64
     omega
    ·rw[←v4 hin];omega
   simp-implicitDefEqProofs only[W5,a5l,a5p,a5g,a5k,a93,b0Y,c6D,d29,b0S,a8O,f0,f1,f12,hl,r1.eq,hra,r2.eq,hl2,r3.eq,e4,↓reduceIte,Nat.reduceEqDiff,List.getElem?_cons_succ,List.getElem?_cons_zero,wA,wB,wC,wD]
   have st13:Step mB m3 A ((T.wr 33 (A5 t b true)).wr c' u) own own3:=Step.ft k1 (st.trans st3)
   have hsl:kd m3 sl (D6+1):=aS3.kd
   refine hnew h0 _ m4 own3 _ V (upx Y i x') b hcV (st13.at'.kp st13.kp.wf (E:= [D6+1]) (k4.k1 hsl)) st13.ow ((st13.kp.mono fun x _ e=> ?_).trans k4 fun _ _ e=> .inl e) a4 hMV ?_ b1 b2 (fun hin=>(v3 hin).symm) (fun hin=>(v4 hin).symm) (fun hne=> ?_) (by simp-implicitDefEqProofs only[d7,↓reduceIte,Nat.reduceEqDiff]) (by simp-implicitDefEqProofs only[d7,↓reduceIte,Nat.reduceEqDiff]) ?_
   ·rcases e with⟨_,h1,_⟩|⟨h1,_⟩
    ·cases h1
    ·exact .inr h1
   ·rw[v2 i hi q hq,if_pos ⟨rfl,rfl⟩]
   ·rw[v2 i hi p hp,if_neg fun e=>hne e.2.symm]
   ·intro t' htm
    simp only[List.mem_cons,List.not_mem_nil,or_false] at htm
    rcases htm with rfl|rfl|rfl|rfl|rfl|rfl<;>simp-implicitDefEqProofs only[d7,↓reduceIte,Nat.reduceEqDiff]
  ·simp-implicitDefEqProofs only[W5,a5l,a5p,a5g,a5k,a93,b0Y,c2I,a8O,f0,f1,f12,hl,r1.eq,hra,r2.eq,show((10:Int)=0)=False from eq_false (by omega),↓reduceIte,Nat.reduceEqDiff,List.getElem?_cons_succ,List.getElem?_cons_zero,wA,wB,wC,wD]
   exact hret h0 hfull _ m2 (k1.tf k2) (by simp-implicitDefEqProofs only[d7,↓reduceIte,Nat.reduceEqDiff]) (by simp-implicitDefEqProofs only[d7,↓reduceIte,Nat.reduceEqDiff]) (by simp-implicitDefEqProofs only[d7,↓reduceIte])
 ·have hz:((nd T (Y i) q:Nat):Int)≠0:=by omega
  obtain⟨m2,e2,a2,k2,n2⟩:=aS1.st k1.wf 1 [iv (nd T (Y i) q)]
  simp-implicitDefEqProofs only[W5,a5l,a5p,a5g,a5k,b0S,a8O,f0,f1,f12,hl,r1.eq,eq_false hz,e2,↓reduceIte,Nat.reduceEqDiff,List.getElem?_cons_succ,List.getElem?_cons_zero,wA,wB,wC,wD]
  refine hold h0 _ m2 (k1.ft k2) a2 (by simp-implicitDefEqProofs only[d7,↓reduceIte,Nat.reduceEqDiff]) (by simp-implicitDefEqProofs only[d7,↓reduceIte,Nat.reduceEqDiff]) ?_
  intro t htm
  simp only[List.mem_cons,List.not_mem_nil,or_false] at htm
  rcases htm with rfl|rfl|rfl|rfl|rfl|rfl<;>simp-implicitDefEqProofs only[d7,↓reduceIte,Nat.reduceEqDiff]
theorem d79{p q:Pa}{n:Nat}{x:Ino}(hp:p.ok)(hq:p.way[n]? =some q)(h0:nd T x q=0):nd T x p=0:=by
 have key:∀d n q,n+d+1=p.way.length→p.way[n]? =some q→nd T x q=0→nd T x p=0:=by
  intro d
  induction d with
  |zero=>intro n q e h1 h2;rw[←a2F h1 (by omega)];exact h2
  |succ d ih=>
   intro n q e h1 h2
   have h3:p.way[n+1]? =some p.way[n+1] :=List.getElem?_eq_getElem (by omega)
   refine ih (n+1) _ (by omega) h3 ?_
   rw[U9 T x (a6E h1 h3),h2];exact a0W _ _
 have hn:=(List.getElem?_eq_some_iff.1 hq).1
 exact key (p.way.length-n-1) n q (by omega) hq h0
structure Way(S:PS)(X:Nat→Ino)(i:Nat)(p:Pa)(k:Nat)(Sk T:PS)(Y:Nat→Ino)(fr:Bool)(blk:Nat):Prop where
 w:Mk I2 S X T Y i p
 z:k=0→fr=false∧blk=0
 s:∀j q,k=j+1→p.way[j]? =some q→nd T (Y i) q=blk∧blk≠0∧(fr=true→q.inn→T=Sk.wr blk z64∧37≤blk∧blk<90)∧(fr=true→¬q.inn→T=Sk)
 f:fr=false→T=Sk
 l:k<p.way.length→nd T (Y i) p=nd S (X i) p
 e:k=p.way.length→fr=decide (nd S (X i) p=0)
 c:t8 T≤t8 S+k
theorem c6K:(List.replicate 64 [AV.y 0]).flatten=i9 z64:=by
 unfold z64
 rw[a9v,a0w];rfl
def b3m(m:M)(A:Ad)(tt:Nat)(S:PS)(own:Nat→Prop)(X:Nat→Ino)(i:Nat)(p:Pa)(r sl:Nat)(j:Nat)(fr:Fr)(mk:M):Prop:=
 ∃(n:Nat) (Sk:PS) (own':Nat→Prop) (T:PS) (Y:Nat→Ino) (f:Bool) (blk:Nat) (lst:AV),n≤p.way.length∧j=p.way.length-n∧(ev (tm 0) fr= .ptr tt 0∧ev (tm 1) fr= .ptr A.o 0∧ev (tm 12) fr= .ptr sl 0∧ev (tm 31) fr= .slice r 0 p.way.length p.way.length false∧ev (tm 32) fr=iv p.way.length∧ev (tm 33) fr=iv n∧ev (tm 9) fr= .b f∧(n≠0→ev (tm 8) fr=iv blk))∧
  Way S X i p n Sk T Y f blk∧Step m mk A Sk own own'∧At mk sl D6 true [iv i,iv blk,lst]∧At mk r d5 true ((p.way.map Pa.at).map ivn)
set_option maxHeartbeats 1000000 in
theorem f88(hw:Wf m)(h:GAt m A S own)(ht:TAt m tt aa A.g)(hI:Inv S I2 X)(hi:i∈I2){k:Nat}(hk:k≤1063){Q:AV→M→Prop}
  (hQ1:∀m' own' T Y b,t8 T≤t8 S+(i6 k).way.length→Mk I2 S X T Y i (i6 k)→nd T (Y i) (i6 k)=b→b≠0→Step m m' A T own own'→Q (.tuple [iv b,.b (decide (nd S (X i) (i6 k)=0)),iv 0]) m')
  (hQ2:∀m' own' T Y,a31 T→t8 T≤t8 S+(i6 k).way.length→Mk I2 S X T Y i (i6 k)→nd S (X i) (i6 k)=0→nd T (Y i) (i6 k)=0→Step m m' A T own own'→Q (.tuple [iv 0,.b false,iv 10]) m'):
  WpF Tryz.prog tb b3W [.ptr tt 0,.ptr A.o 0,iv i,iv k] m Q:=by
 obtain⟨hpok,hpin⟩:=F0 hk
 obtain⟨m1,r,a1,k1,n1,r1⟩:=b88 hw hk
 obtain⟨hL1,hL3⟩:=c1a (i6 k)
 generalize i6 k=p at*
 obtain⟨m2,e2,a2,k2,n2⟩:=B0 k1.wf D6 3 [iv 0,iv 0,iv 0]
 obtain⟨m3,e3,a3,k3,n3⟩:=a2.st k2.wf 0 [iv i,iv 0,iv 0]
 have k02:=k1.tf k2
 have hn1:=k1.next
 have k03:Keep m m3 fun _=>False:=k02.trans k3 fun b hb e=>by omega
 have hp:m.rdN tt 1 12=some i5:=ht.t.rdN (by show 1+12≤14;omega)
 have hrp:B4 3 [iv 0] = [iv 0,iv 0,iv 0] :=rfl
 have hr1:=a1.lt k1.wf
 have a13:=(a1.keep k1.wf k2 id).keep k2.wf k3 (by omega)
 have h3:=h.k0 hw k03
 refine WpF.go g6u ?_
 simp-implicitDefEqProofs only[W5,d3u,d7b,e5n,e1g,e81,e5k,a3f,hp,r1.eq,e2,e3,↓reduceIte,Nat.reduceEqDiff,Nat.reduceAdd,Nat.reduceLeDiff,List.getElem?_cons_succ,List.getElem?_cons_zero,wA,wB,wC,wD]
 refine y7 (b3m m A tt S own X i p r m1.next) (k:=p.way.length)
  ⟨0,S,own,S,X,false,0,iv 0,Nat.zero_le _,rfl,by simp-implicitDefEqProofs only[nc0,d7,↓reduceIte,Nat.reduceEqDiff,nc0,true_and];exact fun h=>absurd rfl h,⟨.refl hI,fun _=>⟨rfl,rfl⟩,fun j q e=>by omega,fun _=>rfl,fun _=>rfl,fun e=>by omega,Nat.le_refl _⟩,⟨h3,fun _=> .inl,k03.k0⟩,a3,a13⟩ ?_
 rintro j fr mk ⟨n,Sk,own',T,Y,f,blk,lst,hn,rfl,⟨f0,f1,f12,f31,f32,f33,f9,f8⟩,hW,st,aS,aR⟩
 have hwk:=st.kp.wf
 by_cases hlt:n<p.way.length
 ·have hq0:p.way[n]? =some p.way[n] :=List.getElem?_eq_getElem hlt
  generalize p.way[n] =q at hq0
  have hqok:=b2L hpok hq0
  have hqp:q=p∨q.inn:=by
   by_cases e:n+1=p.way.length
   ·exact .inl (a2F hq0 e)
   ·exact .inr (b0N hpok hq0 (by omega))
  have hsr:mk.rd r n=some (iv q.at):=by
   rw[aR.rd,List.getElem?_map,List.getElem?_map,hq0];rfl
  have hia:=x9 (m:=mk) 1 r 0 p.way.length p.way.length false hlt
  rw[Nat.zero_add,Nat.mul_one] at hia
  obtain⟨mA,eA,aA,kA,nA⟩:=aS.st hwk 2 [iv q.at]
  have stA:Step m mA A Sk own own':=st.row kA (by omega) aS.kd (by decide)
  have aRA:=aR.keep hwk kA (fun e=>absurd (aR.kd.inj (e▸aS.kd)) (by decide))
  have hc:(∃k,q= .r k∧blk=0)∨∃w,q.up=some w∧nd T (Y i) w=blk∧blk≠0:=by
   cases n with
   |zero=>
    obtain⟨k',rfl⟩:=f01 hq0
    exact .inl ⟨k',rfl,(hW.z rfl).2⟩
   |succ n=>
    have hw0:p.way[n]? =some p.way[n] :=List.getElem?_eq_getElem (by omega)
    obtain⟨w1,w2,_⟩:=hW.s n _ rfl hw0
    exact .inr ⟨_,a6E hw0 hq0,w1,w2⟩
  have hnl:p.way.length-(n+1)<p.way.length-n:=by omega
  --what comes behind a round
  have E:∀(fr':Fr) (m':M) (Sn T':PS) (own3:Nat→Prop) (Y':Nat→Ino) (f':Bool) (b:Nat),Way S X i p (n+1) Sn T' Y' f' b→Step m m' A Sn own own3→At m' m1.next D6 true [iv i,iv b,iv q.at]→At m' r d5 true ((p.way.map Pa.at).map ivn)→ev (tm 8) fr'=iv b→ev (tm 9) fr'= .b f'→(∀t∈[0,1,12,31,32,33],ev (tm t) fr'=ev (tm t) fr)→
    b3m m A tt S own X i p r m1.next (p.way.length-(n+1)) (D5 33 (iv ((n+1:Nat):Int)) (D5 93 (iv ((n+1:Nat):Int)) fr')) m':=by
   intro fr' m' Sn T' own3 Y' f' b w1 w2 w3 w4 g8 g9 gt
   have g0:=(gt 0 (by simp)).trans f0
   have g1:=(gt 1 (by simp)).trans f1
   have g12:=(gt 12 (by simp)).trans f12
   have g31:=(gt 31 (by simp)).trans f31
   have g32:=(gt 32 (by simp)).trans f32
   exact⟨n+1,Sn,own3,T',Y',f',b,_,hlt,rfl,by simp-implicitDefEqProofs only[g0,g1,g12,g31,g32,g9,g8,d7,↓reduceIte,Nat.reduceEqDiff,true_and];exact fun _=>trivial,w1,w2,w3,w4⟩
  have hwq:∀j' q',n+1=j'+1→p.way[j']? =some q'→q'=q:=fun j' q' e1 e2=>by
   have:j'=n:=by omega
   subst this
   rw[hq0] at e2
   cases e2;rfl
  have h0z:∀x,x∈A.ms→kd m x 0:=fun x hx=>h.kdm x (by
   simp only[List.mem_cons,List.not_mem_nil,or_false] at hx⊢
   rcases hx with rfl|rfl|rfl<;>simp)
  have last0:n+1=p.way.length→q=p:=fun e=>a2F hq0 e
  --the rest of the round,whatever comes behind it
  have fin:∀(R:Am.X→Fr→M→Prop) (mB:M) (own2:Nat→Prop) (fr1:Fr),Step m mB A T own own2→At mB m1.next D6 true [iv i,iv blk,iv q.at]→At mB r d5 true ((p.way.map Pa.at).map ivn)→(∀t∈[0,1,12,31,32,33],ev (tm t) fr1=ev (tm t) fr)→
    (∀fr' m',ev (tm 8) fr'=iv 0→ev (tm 9) fr'= .b false→ev (tm 10) fr'=iv 10→Q (.tuple [iv 0,.b false,iv 10]) m'→R .ret fr' m')→
    (∀fr' m',ev (tm 33) fr'=iv n→b3m m A tt S own X i p r m1.next (p.way.length-(n+1)) (D5 33 (iv ((n+1:Nat):Int)) (D5 93 (iv ((n+1:Nat):Int)) fr')) m'→R .normal fr' m')→GX Tryz.prog tb a5F R fr1 mB:=by
   intro R mB own2 fr1 stB aSB aRB gt hR1 hR2
   have hwB:=stB.kp.wf
   have htB:=ht.kp hw stB.kp
   have hrs:r≠m1.next:=by omega
   refine f7u hwB stB.at' htB hW.w hi hqok hpok hqp aSB hc ((gt 0 (by simp)).trans f0) ((gt 1 (by simp)).trans f1) ((gt 12 (by simp)).trans f12) (fun h0 hfull fr' m' k' g8 g9 g10=> ?_) (fun h0 fr' m' k' a' g8 g9 gt'=> ?_) (fun h0 fr' m' own3 Sn V Y' b hcV hg how hk' a' hM' hb b1 b2 hin hni hpp g8 g9 gt'=> ?_)
   ·have hp0:nd T (Y i) p=0:=by
     rcases hqp with rfl|_
     ·exact h0
     ·exact d79 hpok hq0 h0
    exact hR1 fr' m' g8 g9 g10 (hQ2 m' own2 T Y hfull (by have:=hW.c;omega) hW.w ((hW.l hlt).symm.trans hp0) hp0 (stB.tf k'))
   ·have hn0:nd S (X i) p≠0∨q≠p:=by
     by_cases e:q=p
     ·exact .inl (by rw[←hW.l hlt,←e];exact h0)
     ·exact .inr e
    refine hR2 fr' m' ((gt' 33 (by simp)).trans ((gt 33 (by simp)).trans f33)) (E fr' m' T T own2 Y false _ ⟨hW.w,fun e=>by omega,fun j' q' e1 e2=> ?_,fun _=>rfl,fun e=>hW.l hlt,fun e=> ?_,by have:=hW.c;omega⟩ (stB.row k' (by omega) aSB.kd (by decide)) a' (aRB.keep hwB k' hrs) g8 g9 fun t' ht'=>(gt' t' ht').trans (gt t' ht'))
    ·rw[hwq j' q' e1 e2]
     exact⟨rfl,h0,nofun,nofun⟩
    ·have:=last0 e
     subst this
     rw[decide_eq_false]
     rcases hn0 with h1|h1
     ·exact h1
     ·exact absurd rfl h1
   ·have st3:Step m m' A Sn own own3:=⟨hg,fun x hx=>by
      have:=stB.kp.next
      rcases how x hx with h1|h1
      ·exact stB.ow x h1
      ·exact .inr (by omega),(stB.kp.trans hk' fun x hx e=>by
       rcases e with rfl|e
       ·omega
       ·exact .inr ⟨e,h0z x e⟩)⟩
    have hrm:¬(r=m1.next∨r∈A.ms):=fun e=>by
     rcases e with e|e
     ·exact hrs e
     ·have:=(h0z r e).lt hw
      omega
    refine hR2 fr' m' ((gt' 33 (by simp)).trans ((gt 33 (by simp)).trans f33)) (E fr' m' Sn V own3 Y' true b ⟨hM',fun e=>by omega,fun j' q' e1 e2=> ?_,nofun,fun e=> ?_,fun e=> ?_,by have:=hW.c;omega⟩ st3 a' (aRB.keep hwB hk' hrm) g8 g9 fun t' ht'=>(gt' t' ht').trans (gt t' ht'))
    ·rw[hwq j' q' e1 e2]
     exact⟨hb,by omega,fun _ hin'=>⟨hin hin',b1,b2⟩,fun _ hni'=>hni hni'⟩
    ·have hqp':q≠p:=fun e2=>by
      have:=b0N hpok hq0 e
      rw[e2] at this
      exact hpin this
     rw[hpp hqp']
     exact hW.l hlt
    ·have:=last0 e
     subst this
     rw[decide_eq_true]
     rw[←hW.l hlt];exact h0
  have hF:(n:Int)+1=((n+1:Nat):Int):=rfl
  cases f with
  |false=>
   have hT:=hW.f rfl
   subst hT
   simp-implicitDefEqProofs only[W5,a6v,b1Z,b00,b0c,f12,f31,f32,f33,f9,show((n:Int)<(p.way.length:Int))=True from eq_true (by omega),hia,hsr,eA,↓reduceIte,Nat.reduceEqDiff,wA,wB,wC,wD]
   refine fin _ mA own' _ stA aA aRA (fun t' ht'=> ?_) (fun fr' m' g8 g9 g10 hq'=> ?_) (fun fr' m' g33 hI'=> ?_)
   ·simp only[List.mem_cons,List.not_mem_nil,or_false] at ht'
    rcases ht' with rfl|rfl|rfl|rfl|rfl|rfl<;>simp-implicitDefEqProofs only[d7,↓reduceIte,Nat.reduceEqDiff]
   ·simp-implicitDefEqProofs only[g8,g9,g10,a5X,a6m,a6s,a5z]
    exact hq'
   ·simp-implicitDefEqProofs only[W5,a98,g33,aD (n:Int) 1,hF,↓reduceIte,wA,wB,wC,wD]
    exact y8 (k':=p.way.length-(n+1)) hnl hI'
  |true=>
   have hn0:n≠0:=fun e=>by have:=(hW.z e).1;cases this
   obtain⟨n',rfl⟩:∃n',n=n'+1:=⟨n-1,by omega⟩
   have hw0:p.way[n']? =some p.way[n'] :=List.getElem?_eq_getElem (by omega)
   obtain⟨w1,w2,w3,w4⟩:=hW.s n' _ rfl hw0
   obtain⟨w5,w6,w7⟩:=w3 rfl (b0N hpok hw0 hlt)
   have hza:=At.addZr (m:=mA) (e:=l3) (k:=64*1) (z:= [.y 0]) 64 rfl
   have hzk:Keep mA (mA.addZ l3 (64*1) [.y 0]) fun _=>False:=Keep.addZ kA.wf
   have emk:=f0k (m:=mA) (e:=l3) (z:= .y 0) (n:=64) (by omega)
   rw[c6K] at hza
   generalize mA.addZ l3 (64*1) [.y 0] =mZ at hza hzk emk
   have hbz:BtU mZ (.slice mA.next 0 64 64 false) z64 mA.next:=⟨by
    have:=BsAt.row (m:=mZ) (b:=mA.next) (off:=0) (cap:=64) (lim:=false) (l:=z64) hza.r (by decide) rfl
    exact this,hza.kd⟩
   obtain⟨mB,own2,stB,rB⟩:=a2B hzk.wf (stA.at'.k0 kA.wf hzk) (b:=blk) hbz rfl (by omega) w7
   rw[←w5] at stB
   have hg0:mA.rd tt 1=some (iv 64):=by rw[(ht.kp hw stA.kp).t.rd];rfl
   have c64:((64:Nat):Int)=64:=rfl
   rw[c64] at emk
   have hslB:=aA.rd
   have hslZ:=(aA.keep kA.wf hzk id).rd
   simp-implicitDefEqProofs only[W5,a6v,b1Z,b00,b0c,c8o,c48,f0,f1,f12,f31,f32,f33,f9,show(((n'+1:Nat):Int)<(p.way.length:Int))=True from eq_true (by omega),hia,hsr,eA,show((0:Int)<((n'+1:Nat):Int))=True from eq_true (by omega),hslB,hslZ,hg0,emk,rB.eq,↓reduceIte,Nat.reduceEqDiff,Nat.reduceAdd,List.getElem?_cons_succ,List.getElem?_cons_zero,exists_eq_left',z6,wA,wB,wC,wD]
   have aB:=aA.kp kA.wf (Step.ft hzk stB).kp
   have aRB:=aRA.kp kA.wf (Step.ft hzk stB).kp
   refine fin _ mB own2 _ (stA.trans (Step.ft hzk stB)) aB aRB (fun t' ht'=> ?_) (fun fr' m' g8 g9 g10 hq'=> ?_) (fun fr' m' g33 hI'=> ?_)
   ·simp only[List.mem_cons,List.not_mem_nil,or_false] at ht'
    rcases ht' with rfl|rfl|rfl|rfl|rfl|rfl<;>simp-implicitDefEqProofs only[d7,↓reduceIte,Nat.reduceEqDiff]
   ·simp-implicitDefEqProofs only[g8,g9,g10,a5X,a6m,a6s,a5z]
    exact hq'
   ·simp-implicitDefEqProofs only[W5,a98,g33,aD ((n'+1:Nat):Int) 1,hF,↓reduceIte,wA,wB,wC,wD]
    exact y8 (k':=p.way.length-(n'+1+1)) hnl hI'
 ·have hne:n=p.way.length:=by omega
  subst hne
  obtain⟨j,hj⟩:∃j,p.way.length=j+1:=⟨p.way.length-1,by omega⟩
  have hw0:p.way[j]? =some p.way[j] :=List.getElem?_eq_getElem (by omega)
  have hl:=a2F hw0 hj.symm
  rw[hl] at hw0
  obtain⟨w1,w2,_,w4⟩:=hW.s j p hj hw0
  have hT:T=Sk:=by
   cases f with
   |false=>exact hW.f rfl
   |true=>exact w4 rfl hpin
  have f8:=f8 (by omega)
  have hf:=hW.e rfl
  simp-implicitDefEqProofs only[W5,a6v,c6U,f32,f33,f9,f8,show((p.way.length:Int)<(p.way.length:Int))=False from eq_false (by omega),↓reduceIte,Nat.reduceEqDiff,wA,wB,wC,wD]
  subst hT
  rw[hf]
  exact hQ1 mk own' T Y blk (by have:=hW.c;omega) hW.w w1 w2 st
end
end Go.Proofs.YtooooiidpaecmaaGreatDoor
/- A file's blocks, told: one pointer, and what lies below. -/
namespace Go.Am
def lst(N:Nat→Nat):Nat→Int
 |0=> -1
 |n+1=>if N n=0 then lst N n else n
end Go.Am
namespace Go.Proofs.YtooooiidpaecmaaGreatDoor
open Go Go.Am
def g6N(m:M)(mb:Nat)(f:Nat→Nat):Prop:=∃L:Al,MpAt m mb L∧Nk L∧∀k,lkp L k=if f k=0 then none else some (iv (f k))
section
variable {m m':M} {mb:Nat} {f:Nat→Nat}
end
structure Bx where
 fb:Nat
 lb:Nat
 db:Nat
 tb:Nat
 ob:Nat
 ib:Nat
 wb:Nat
 mb:Nat
 xr:Nat
 xl:List AV
noncomputable def Bx.fn(x:Bx):AV:= .func g5u [.ptr x.fb 0,.ptr x.lb 0,.ptr x.db 0,.ptr x.tb 0,.ptr x.ob 0,.ptr x.ib 0,.ptr x.wb 0]
structure BS(m0 m:M)(A:Ad)(tt:Nat)(x:Bx)(i:Nat)(N:Nat→Nat)(n:Nat)(D:List Nat):Prop where
 kp:Keep m0 m fun _=>False
 fb:At m x.fb f5g true [.map x.mb]
 lb:At m x.lb d5 true [iv (lst N n)]
 db:∃s o,At m x.db g0L true [s]∧SlAt m d5 1 s D.length (D.map ivn) o∧∀b,o=some b→m0.next≤b∧b≠x.lb∧b≠x.ib
 tb:At m x.tb G3 true [.ptr tt 0]
 ob:At m x.ob G4 true [.ptr A.o 0]
 ib:At m x.ib d5 true [iv i]
 wb:At m x.wb f3U true [x.fn]
 xr:At m x.xr A3 true x.xl
 mp:g6N m x.mb fun k=>if k<n then N k else 0
 ne:x.lb≠x.ib
 ge:m0.next≤x.fb∧m0.next≤x.lb∧m0.next≤x.db∧m0.next≤x.mb
section
variable {m0 m m':M} {A:Ad} {S:PS} {own:Nat→Prop} {tt aa:Nat} {X:Nat→Ino} {i:Nat} {x:Bx} {N:Nat→Nat} {n:Nat} {D:List Nat}
end
def one(S:PS)(x:Ino)(q:Pa):List Nat:=if nd S x q=0 then[] else[nd S x q]
section
variable {m0 m m':M} {A:Ad} {S:PS} {own:Nat→Prop} {tt aa:Nat} {X:Nat→Ino} {i:Nat} {x:Bx} {D:List Nat}
end
end Go.Proofs.YtooooiidpaecmaaGreatDoor
