import Derived.Test.YtooooiidpaecmaaGreatDoorFk
import Derived.Test.YtooooiidpaecmaaGreatDoorFe
import Derived.Test.YtooooiidpaecmaaGreatDoorAmSt
import Derived.Test.YtooooiidpaecmaaGreatDoorWrd
import Derived.Test.YtooooiidpaecmaaGreatDoorGk
set_option linter.unusedVariables false
set_option linter.unusedSimpArgs false
/- alloc.Alloc.FreeBlock. -/
namespace Go.Proofs.YtooooiidpaecmaaGreatDoor
open Go Go.Am
section
variable {m:M} {A:Ad} {S:PS} {own:Nat→Prop} {aa:Nat}
theorem f57{s:AV}{t:Bk}{r i:Nat}(hs:BsAt m s t r)(h64:t.length=64)(hi:i<512):Ran Tryz.prog tb b3L [s,iv i] m (.tuple [.b (bt t i),iv 0]) m:=by
 have hlen:E4 false s=some 64:=by rw[hs.len,h64]
 have hq8:d8 Tryz.prog .quo d5 (iv (i:Int)) (iv 8)=some (iv ((i/8:Nat):Int)):=V8 (b:=8) d5 (by omega) (by omega)
 have hr8:d8 Tryz.prog .rem d5 (iv (i:Int)) (iv 8)=some (iv ((i % 8:Nat):Int)):=Y9 (b:=8) d5 (by omega) (by omega)
 have hm8:i % 8<8:=Nat.mod_lt _ (by omega)
 have hz:t[i/8]? =some (t.getD (i/8) 0):=by
  rw[List.getD_eq_getElem?_getD,List.getElem?_eq_getElem (by omega)];rfl
 have hbm:=e8Z t i
 have c64:((64:Nat):Int)=64:=rfl
 cases hs with
 | @row _ off cap lim _ cells hh hl hc=>
  have hyl:(i9 t).length=64:=by simp[i9,h64]
  have hrd:m.rd r (off+i/8)=some (.y (t.getD (i/8) 0).toNat):=by
   rw[hh.rd]
   have e:((cells.drop off).take t.length)[i/8]? =(i9 t)[i/8]? :=by rw[hc]
   rw[List.getElem?_take,if_pos (by omega),List.getElem?_drop] at e
   rw[e]
   unfold i9
   rw[List.getElem?_map,hz];rfl
  have hia:=x9 (m:=m) 1 r off t.length cap lim (show i/8<t.length by omega)
  rw[Nat.mul_one] at hia
  refine WpF.go g4V ?_
  by_cases hb:bt t i=true
  ·rw[hb] at hbm
   have hbm:(t.getD (i/8) 0).toNat/2^(i % 8) % 2=1:=hbm
   rw[h64] at hia
   simp-implicitDefEqProofs only[f2W,b1P,b2y,b2J,show((i:Int)<0)=False from eq_false (by omega),h64,hq8,c64,show((64:Int)≤((i/8:Nat):Int))=False from eq_false (by omega),hia,hrd,hr8,D8,a1C l3 hm8,a1A,a1E,hbm,a19,hb,↓reduceIte,Nat.reduceEqDiff,Nat.reduceAdd,wA,wB,wC,wD]
  ·have hb0:bt t i=false:=by simpa using hb
   rw[hb0] at hbm
   have hbm:(t.getD (i/8) 0).toNat/2^(i % 8) % 2=0:=hbm
   rw[h64] at hia
   simp-implicitDefEqProofs only[f2W,b1P,b2y,b2J,show((i:Int)<0)=False from eq_false (by omega),h64,hq8,c64,show((64:Int)≤((i/8:Nat):Int))=False from eq_false (by omega),hia,hrd,hr8,D8,a1C l3 hm8,a1A,a1E,hbm,a19,hb0,show((0:Nat)=1)=False from eq_false (by omega),↓reduceIte,Nat.reduceEqDiff,Nat.reduceAdd,wA,wB,wC,wD]
theorem f7j(hw:Wf m)(h:GAt m A S own){t:Bk}(ht:S.rd 33=some t){i:Nat}(hi:i<90):
  ∃m',Keep m m' (fun _=>False)∧Ran Tryz.prog tb b3P [bmV,.ptr A.o 0,iv i] m (.tuple [.b (bt t i),iv 0]) m':=by
 obtain⟨m1,e1,a1,k1,n1⟩:=a3o hw
 have h1:=h.k0 hw k1
 obtain⟨m2,s,r,hb2,hs2,h64,k2,n2,r2⟩:=T8 k1.wf h1 (b:=33) (by omega) ht
 rw[show((33:Nat):Int)=33 from rfl] at r2
 have a2:=a1.keep k1.wf k2 id
 refine⟨m2,k1.tf k2,?_⟩
 refine WpF.go g56 ?_
 simp-implicitDefEqProofs only[g7E,d9k,e6m,d5x,e1m,e1,a1.rd,a2.rd,b37 (show i<512 by omega),s33,r2.eq,f1Y (show i<512 by omega),(f57 hb2.bs h64 (show i<512 by omega)).eq,↓reduceIte,Nat.reduceEqDiff,Nat.reduceAdd,List.getElem?_cons_succ,List.getElem?_cons_zero,exists_eq_left',wA,wB,wC,wD]
theorem f6h(hw:Wf m)(h:GAt m A S own){t:Bk}(ht:S.rd 33=some t){i:Nat}(hi:i<90)(hb:bt t i=true):
  ∃m' own',Step m m' A (S.wr 33 (A5 t i false)) own own'∧Ran Tryz.prog tb b3R [bmV,.ptr A.o 0,iv i] m (iv 0) m':=by
 obtain⟨m1,e1,a1,k1,n1⟩:=a3o hw
 obtain⟨m2,k2,r2⟩:=f7j k1.wf (h.k0 hw k1) ht hi
 have k02:=k1.tf k2
 have a2:=a1.keep k1.wf k2 id
 obtain⟨m3,own',st,r3⟩:=b9p k02.wf (h.k0 hw k02) ht hi false
 have l1:m1.rdN m.next 0 2=some [iv 33,iv 512] :=a1.rdN (by show 0+2≤2;omega)
 have l2:m2.rdN m.next 0 2=some [iv 33,iv 512] :=a2.rdN (by show 0+2≤2;omega)
 rw[hb] at r2
 refine⟨m3,own',st.ft k02,?_⟩
 refine WpF.go g51 ?_
 simp-implicitDefEqProofs only[g7J,d5j,e0V,d5a,e9w,e52,e1,l1,l2,r2.eq,r3.eq,↓reduceIte,Nat.reduceEqDiff,Nat.reduceAdd,List.getElem?_cons_succ,List.getElem?_cons_zero,wA,wB,wC,wD]
theorem f5D(hw:Wf m)(h:GAt m A S own)(ha:b32 m aa A.g){t:Bk}(ht:S.rd 33=some t){b:Nat}(h1:37≤b)(h2:b<90)(hb:bt t b=true):
  ∃m' own',Step m m' A ((S.wr 33 (A5 t b false)).fr b) own own'∧Ran Tryz.prog tb a6Z [.ptr aa 0,.ptr A.o 0,iv b] m (iv 0) m':=by
 obtain⟨m1,own1,st1,r1⟩:=f6h hw h ht h2 hb
 obtain⟨m2,st2,r2⟩:=g0T st1.kp.wf st1.at' h1 h2
 have hl:m.rdN aa 13 2=some [iv 33,iv 512] :=At.rdN ha (by show 13+2≤17;omega)
 have d1:m.rd aa 12=some (iv 37):=by rw[At.rd ha];rfl
 have d2:m.rd aa 2=some (iv 90):=by rw[At.rd ha];rfl
 refine⟨m2,own1,st1.trans st2,?_⟩
 refine WpF.go g5t ?_
 simp-implicitDefEqProofs only[g6I,e6G,e9r,e2H,d9C,e7f,e7p,b2F,d1,d2,hl,show((b:Int)<37)=False from eq_false (by omega),show((90:Int)≤(b:Int))=False from eq_false (by omega),r1.eq,r2.eq,↓reduceIte,Nat.reduceEqDiff,Nat.reduceAdd,wA,wB,wC,wD]
end
theorem O0(t:TypeId){a b:Int}(h1: -9223372036854775808≤a*b)(h2:a*b≤9223372036854775807):d8 Tryz.prog .mul t (iv a) (iv b)=some (iv (a*b)):=by
 rw[I8]
 show some (iv (IntKind.i64.wrap (a*b)))=_
 rw[IntWalk.i64_in _ ⟨h1,h2⟩]
section
variable {m m':M} {A:Ad} {S T:PS} {own:Nat→Prop} {tt aa:Nat} {X Y:Nat→Ino} {i:Nat} {q:Pa}
theorem f76(hw:Wf m)(h:GAt m A T own)(ht:TAt m tt aa A.g)(hI:Inv T I2 X)(hi:i∈I2)(hq:q.ok){c:Nat}(hc:(∃k,q= .r k∧c=0)∨∃w,q.up=some w∧nd T (X i) w=c∧c≠0):
  ∃m' own' c' u x',Step m m' A (T.wr c' u) own own'∧Ran Tryz.prog tb a0k [.ptr tt 0,.ptr A.o 0,.agg [iv i,iv c,iv q.at],iv 0] m (iv 0) m'∧
   (∀k,x'.ps.getD k 0=if q= .r k then 0 else(X i).ps.getD k 0)∧x'.Ok∧(x'.kind=(X i).kind∧x'.links=(X i).links∧x'.size=(X i).size)∧
   ((∃k,q= .r k∧c'=35∧InoAt (T.wr c' u) i x'∧(∀j∈I2,j≠i→InoAt (T.wr c' u) j (X j)))∨(∃w tc,q.up=some w∧c'=nd T (X i) w∧c'≠0∧T.rd c'=some tc∧tc.length=64∧u=F5 tc q.at 0∧x'=X i)):=by
 rcases hc with⟨k,rfl,rfl⟩|⟨w,hw',rfl,h0⟩
 ·obtain⟨_,h1,h2⟩:=hI.ino i hi
  have hk:k<10:=hq
  obtain⟨u0,g1,g2,g3⟩:=id h1
  rw[O2 hi] at g1
  obtain⟨m',own',st,r⟩:=b7Y hw h ht (Q5 hi) h1 h2 (t:=u0) g1 (k:=k) (v:=0) hk (by omega)
  have hl:({X i with ps:=(X i).ps.set k 0}:Ino).ps.length=10:=by show((X i).ps.set k 0).length=10;rw[List.length_set];exact h2.len
  have hput:=InoAt.put (S:=T) (i:=i) (x:=X i) (y:={X i with ps:=(X i).ps.set k 0}) hl (by rw[O2 hi];exact g1) g2
  rw[O2 hi] at hput
  refine⟨m',own',35,_,{X i with ps:=(X i).ps.set k 0},st,r,fun j=> ?_,⟨h2.k1,h2.k2,h2.ln,h2.sz,hl,fun p hp=> ?_⟩,⟨rfl,rfl,rfl⟩,.inl ⟨k,rfl,rfl,hput.1,fun j hj hji=>hput.2 j (X j) hji (hI.ino j hj).2.1⟩⟩
  ·show((X i).ps.set k 0).getD j 0=_
   rw[List.getD_eq_getElem?_getD,List.getElem?_set]
   by_cases hj:k=j
   ·subst hj
    rw[if_pos rfl,if_pos rfl,if_pos (by rw[h2.len];exact hk)];rfl
   ·rw[if_neg hj,if_neg (fun e=>hj (by cases e;rfl)),List.getD_eq_getElem?_getD]
  ·rcases List.mem_or_eq_of_mem_set hp with hp|rfl
   ·exact h2.p p hp
   ·omega
 ·obtain⟨w1,w2,w3⟩:=A0 hw' hq
  obtain⟨tc,g1,g2⟩:=hI.blk i hi w w1 w2 h0
  have hr:=hI.rng hi w1 h0
  obtain⟨m',own',st,r⟩:=b8p hw h (i:=i) (c:=nd T (X i) w) (a:=q.at) (v:=0) (t:=tc) hr.1 hr.2 g1 w3 (by omega)
  refine⟨m',own',nd T (X i) w,F5 tc q.at 0,X i,st,r,fun k=> ?_,(hI.ino i hi).2.2,⟨rfl,rfl,rfl⟩,.inr ⟨w,tc,hw',rfl,h0,g1,g2,rfl,rfl⟩⟩
  rw[if_neg]
  rintro rfl
  cases hw'
theorem b8S(hw:Wf m)(h:GAt m A T own)(ht:TAt m tt aa A.g)(hI:Inv T I2 Y)(hi:i∈I2)(hq:q.ok){b c:Nat}(hb:nd T (Y i) q=b)(h0:b≠0)(hz:∀r:Pa,r.ok→r.up=some q→nd T (Y i) r=0)(hc:(∃k,q= .r k∧c=0)∨∃w,q.up=some w∧nd T (Y i) w=c∧c≠0):
  ∃m1 m2 own' V Z,Ran Tryz.prog tb a0k [.ptr tt 0,.ptr A.o 0,.agg [iv i,iv c,iv q.at],iv 0] m (iv 0) m1∧m1.rd tt 0=some (.ptr aa 0)∧Ran Tryz.prog tb a6Z [.ptr aa 0,.ptr A.o 0,iv b] m1 (iv 0) m2∧Pr I2 T Y V Z i (fun r=>r=q)∧Step m m2 A V own own':=by
 obtain⟨m1,own1,c',u,x',st1,r1,hx,hxo,hxs,hcc⟩:=f76 hw h ht hI hi hq hc
 obtain⟨t,g1,g2,g3⟩:=hI.bm
 have hg:=g3 i hi q hq (by rw[hb];exact h0)
 rw[hb] at hg
 have hc33:c'≠33:=by
  rcases hcc with⟨_,_,rfl,_⟩|⟨w,tc,hw',rfl,hc0,_⟩
  ·omega
  ·have:=(hI.rng hi (A0 hw' hq).1 hc0).1;omega
 have ht1:=ht.kp hw st1.kp
 obtain⟨m2,own2,st2,r2⟩:=f5D st1.kp.wf st1.at' ht1.a (t:=t) (by rw[PS.wr_ne _ _ (Ne.symm hc33)];exact g1) hg.1 hg.2.1 hg.2.2
 exact⟨m1,m2,own2,_,_,r1,by rw[ht1.t.rd];rfl,r2,Pr.one hI hi hq hb h0 hz g1 g2 hx hxo hxs hcc,st1.trans st2⟩
theorem f8L{keep n:Nat}{p:Pa}(hi:i∈I2)(hq:q.ok)(hin:q.inn)(hn:n≤32)(h:Pr I2 S X T Y i (PrC q keep n))(hu:q.up=some p):nd T (Y i) p=nd S (X i) p:=h.on i hi p (A0 hu hq).1 fun⟨_,a,ha,e,_⟩=>by
 obtain⟨_,_,_,d,_⟩:=Z5 hq hin (show a<32 by omega)
 have h1:=c5J (A0 hu hq).1 e
 obtain⟨o1,o2,o3⟩:=A0 hu hq
 obtain⟨b,hb,e2⟩:=a1N hq hu
 obtain⟨_,_,_,d2,_⟩:=Z5 o1 o2 hb
 rw[←e2] at d2
 omega
theorem f9F:∀{q:Pa},q.ok→q.first≤1063
 | .r k,h=>by
  have h:k<10:=h
  show(if k=9 then 40 else k)≤1063
  split<;>omega
 | .s k a,h=>by
  obtain⟨h1,h2⟩:=h
  show(if k=9 then 40+32*a else 8+a)≤1063
  split<;>omega
 | .t a b,h=>by
  obtain⟨h1,h2⟩:=h
  show 40+32*a+b≤1063
  omega
theorem g3L(q:Pa):q.dep≤2:=by
 cases q with
 |r k=>show(if k=9 then 2 else if k=8 then 1 else 0)≤2;split;omega;split<;>omega
 |s k a=>show(if k=9 then 1 else 0)≤2;split<;>omega
 |t a b=>show 0≤2;omega
theorem g5s{k:Nat}(hk:k≤1):d8 Tryz.prog .mul d5 (iv ((32^k:Nat):Int)) (iv 32)=some (iv ((32^(k+1):Nat):Int)):=by
 rcases(show k=0∨k=1 by omega) with rfl|rfl<;>kernel_rfl
theorem g4f{d:Nat}(h:d≤2):32^d≤1024:=by
 rcases(show d=0∨d=1∨d=2 by omega) with rfl|rfl|rfl<;>decide
set_option maxHeartbeats 4000000 in
set_option maxRecDepth 20000 in
theorem a9j{keep:Nat}(hk:keep≤2000)(hi:i∈I2)(d:Nat):∀{m:M} {S:PS} {own:Nat→Prop} {X:Nat→Ino} {q:Pa} {c:Nat},q.dep=d→Wf m→GAt m A S own→TAt m tt aa A.g→Inv S I2 X→q.ok→((∃k,q= .r k∧c=0)∨∃w,q.up=some w∧nd S (X i) w=c∧c≠0)→
  ∃m' own' T Y,Pr I2 S X T Y i (PrD q keep)∧Step m m' A T own own'∧Ran Tryz.prog tb R0 [.ptr tt 0,.ptr A.o 0,.agg [iv i,iv c,iv q.at],iv q.first,iv keep,iv d] m (iv 0) m':=by
 induction d using Nat.strongRecOn with
 |ind d ih=>
 intro m S own X q c hd hw hG hT hI hq hc
 have hdl:=g3L q
 rw[hd] at hdl
 have hfl:=f9F hq
 obtain⟨m1,e1,a1,k1,n1⟩:=l6 hw D6 3 [iv i,iv c,iv q.at]
 obtain⟨m2,k2,r2⟩:=b0D k1.wf (hG.k0 hw k1) (hT.k0 hw k1) hI hi hq hc
 have l1:m1.rdN m.next 0 3=some [iv i,iv c,iv q.at] :=a1.rdN (by show 0+3≤3;omega)
 have k02:=k1.tf k2
 have hn2:=k02.next
 have a2:=a1.keep k1.wf k2 id
 have hT2:=hT.k0 hw k02
 have hG2:=hG.k0 hw k02
 have hper:m2.rd tt 13=some (iv 32):=by rw[hT2.t.rd];rfl
 by_cases h0:nd S (X i) q=0
 ·refine⟨m2,own,S,X,b8k hI hi hq (.inl h0),(Step.rf hw hG).tf k02,?_⟩
  rw[h0,nc0] at r2
  refine WpF.go f0f ?_
  simp-implicitDefEqProofs only[W3,b2z,b2H,b1o,e2I,e1,l1,r2.eq,↓reduceIte,Nat.reduceEqDiff,Nat.reduceAdd,List.getElem?_cons_succ,List.getElem?_cons_zero,wA,wB,wC,wD]
 ·generalize hb:nd S (X i) q=b at*
  have hb0:((b:Nat):Int)≠0:=by omega
  have key:WpF Tryz.prog tb R0 [.ptr tt 0,.ptr A.o 0,.agg [iv i,iv c,iv q.at],iv q.first,iv keep,iv d] m fun v m'=>v=iv 0∧∃own' T Y,Pr I2 S X T Y i (PrD q keep)∧Step m m' A T own own':=by
   refine WpF.go f0f ?_
   simp-implicitDefEqProofs only[W3,b2z,b2H,b1o,e9C,e0P,e1,l1,r2.eq,eq_false hb0,↓reduceIte,Nat.reduceEqDiff,Nat.reduceAdd,List.getElem?_cons_succ,List.getElem?_cons_zero,wA,wB,wC,wD]
   refine y7 (fun j fr mk=>∃k,k≤d∧j=d-k∧(ev (tm 0) fr= .ptr tt 0∧ev (tm 1) fr= .ptr A.o 0∧ev (tm 3) fr=iv (q.first:Nat)∧ev (tm 4) fr=iv (keep:Nat)∧ev (tm 5) fr=iv (d:Nat)∧ev (tm 8) fr= .ptr m.next 0∧ev (tm 13) fr=iv (b:Nat)∧ev (tm 15) fr=iv ((32^k:Nat):Int)∧ev (tm 33) fr=iv (d:Nat)∧ev (tm 34) fr=iv (k:Nat))∧mk=m2) (k:=d)
    ⟨0,Nat.zero_le _,rfl,by simp-implicitDefEqProofs only[nc0,show((32^0:Nat):Int)=1 from rfl,d7,↓reduceIte,Nat.reduceEqDiff,nc0,and_self],rfl⟩ ?_
   rintro j fr mk ⟨k,hkd,rfl,⟨f0,f1,f3,f4,f5,f8,f13,f15,f33,f34⟩,rfl⟩
   by_cases hlt:k<d
   ·simp-implicitDefEqProofs only[W3,a3c,e5l,e8N,f0,f15,f33,f34,show((k:Int)<(d:Int))=True from eq_true (by omega),hper,g5s (show k≤1 by omega),aD (k:Int) 1,↓reduceIte,Nat.reduceEqDiff,wA,wB,wC,wD]
    exact y8 (k':=d-(k+1)) (by omega) ⟨k+1,by omega,rfl,by simp-implicitDefEqProofs only[f0,f1,f3,f4,f5,f8,f13,f33,show(k:Int)+1=((k+1:Nat):Int) from rfl,d7,↓reduceIte,Nat.reduceEqDiff,and_self],rfl⟩
   ·obtain rfl:k=d:=by omega
    have hpw:=g4f hdl
    generalize hsp:32^k=sp at*
    have hsum:(q.first:Int)+(sp:Int)=((q.first+sp:Nat):Int):=rfl
    by_cases hfk:q.first+sp≤keep
    ·simp-implicitDefEqProofs only[W3,a3c,a6i,c4h,f3,f4,f15,f33,f34,aD (q.first:Int) (sp:Int),show((q.first:Int)+(sp:Int)≤(keep:Int))=True from eq_true (by omega),↓reduceIte,Nat.reduceEqDiff,wA,wB,wC,wD]
     exact⟨own,S,X,b8k hI hi hq (.inr (by rw[hd,hsp];exact hfk)),(Step.rf hw hG).tf k02⟩
    ·cases k with
     |zero=>
      have hin:¬q.inn:=fun e=>(d0m hq).1 e hd
      have hsp1:sp=1:=hsp.symm
      subst hsp1
      obtain⟨m3,m4,own',V,Z,r3,ra,r4,hP,st⟩:=b8S k2.wf hG2 hT2 hI hi hq hb (by omega) (fun r hr hu=>absurd (A0 hu hr).2.1 hin) hc
      have l2:mk.rdN m.next 0 3=some [iv i,iv c,iv q.at] :=a2.rdN (by show 0+3≤3;omega)
      simp-implicitDefEqProofs only[W3,a3c,a6i,a9S,a5q,a95,b09,a9V,f0,f1,f3,f4,f5,f8,f13,f15,f33,f34,aD (q.first:Int) ((1:Nat):Int),show((q.first:Int)+((1:Nat):Int)≤(keep:Int))=False from eq_false (by omega),show((q.first:Int)<(keep:Int))=False from eq_false (by omega),l2,r3.eq,ra,r4.eq,↓reduceIte,Nat.reduceEqDiff,Nat.reduceSub,wA,wB,wC,wD]
      exact⟨own',V,Z,f7a hi hq hin (by omega) hP,st.ft k02⟩
     |succ d'=>
      have hin:q.inn:=(d0m hq).2 (by omega)
      have hd0:(0:Int)<((d'+1:Nat):Int):=by omega
      simp-implicitDefEqProofs only[W3,a3c,a6i,a9S,c6E,f0,f3,f4,f5,f15,f33,f34,aD (q.first:Int) (sp:Int),show((q.first:Int)+(sp:Int)≤(keep:Int))=False from eq_false (by omega),eq_true hd0,hper,↓reduceIte,Nat.reduceEqDiff,wA,wB,wC,wD]
      refine y7 (fun j fr mk=>∃n own' T Y,n≤32∧j=32-n∧(ev (tm 0) fr= .ptr tt 0∧ev (tm 1) fr= .ptr A.o 0∧ev (tm 3) fr=iv (q.first:Nat)∧ev (tm 4) fr=iv (keep:Nat)∧ev (tm 5) fr=iv ((d'+1:Nat):Int)∧ev (tm 8) fr= .ptr m.next 0∧ev (tm 13) fr=iv (b:Nat)∧ev (tm 15) fr=iv (sp:Nat)∧ev (tm 53) fr=iv 32∧ev (tm 54) fr=iv (n:Nat))∧
       Pr I2 S X T Y i (PrC q keep n)∧Step m mk A T own own'∧At mk m.next D6 true [iv i,iv c,iv q.at]) (k:=32) ⟨0,own,S,X,by omega,rfl,by simp-implicitDefEqProofs only[f0,f1,f3,f4,f5,f8,f13,f15,nc0,d7,↓reduceIte,Nat.reduceEqDiff,nc0,and_self],f6Q hI hi q keep,(Step.rf hw hG).tf k02,a2⟩ ?_
      clear f0 f1 f3 f4 f5 f8 f13 f15 f33 f34 fr hlt
      rintro j fr mm ⟨n,own',T,Y,hn,rfl,⟨f0,f1,f3,f4,f5,f8,f13,f15,f53,f54⟩,hP,st,aS⟩
      have hwm:=st.kp.wf
      have hTm:=hT.kp hw st.kp
      have hself:=f6x hi hq hin hn hP
      rw[hb] at hself
      by_cases hn32:n<32
      ·obtain⟨c1,c2,c3,c4,c5⟩:=Z5 hq hin hn32
       obtain⟨m3,own3,V,Z,hP3,st3,r3⟩:=ih d' (by omega) (q:=q.chd n) (c:=b) (by omega) hwm st.at' hTm hP.inv c1 (.inr ⟨q,c2,hself,by omega⟩)
       rw[c3,c5,hd,hsp] at r3
       have hper':mm.rd tt 13=some (iv 32):=by rw[hTm.t.rd];rfl
       have hs0:mm.rd m.next 0=some (iv i):=by rw[aS.rd];rfl
       have hTm3:=hTm.kp hwm st3.kp
       have hper3:m3.rd tt 13=some (iv 32):=by rw[hTm3.t.rd];rfl
       have aS3:=aS.kp hwm st3.kp
       have hs3:m3.rd m.next 0=some (iv i):=by rw[aS3.rd];rfl
       have hml:(n:Int)*(sp:Int)=((n*sp:Nat):Int):=rfl
       have hnsp:n*sp≤31*1024:=Nat.mul_le_mul (by omega) hpw
       have hmul:=O0 d5 (a:=(n:Int)) (b:=(sp:Int)) (by rw[hml];omega) (by rw[hml];omega)
       rw[hml] at hmul
       have hquo:d8 Tryz.prog .quo d5 (iv ((n*sp:Nat):Int)) (iv 32)=some (iv ((n*sp/32:Nat):Int)):=V8 (b:=32) d5 (by omega) (by omega)
       have hns:n*sp/32≤100000:=by omega
       generalize n*sp/32=ns at*
       have hsm:(q.first:Int)+(ns:Int)=((q.first+ns:Nat):Int):=rfl
       have hdm:((d'+1:Nat):Int)-1=(d':Int):=by omega
       simp-implicitDefEqProofs only[W3,a5r,d2o,c5D,c7A,c0G,f0,f1,f3,f4,f5,f8,f13,f15,f53,f54,show((n:Int)<32)=True from eq_true (by omega),hs0,hmul,hper',hquo,aD (q.first:Int) (ns:Int),hsm,sB ((d'+1:Nat):Int) 1,hdm,r3.eq,aD (n:Int) 1,↓reduceIte,Nat.reduceEqDiff,Nat.reduceAdd,Nat.reduceLeDiff,List.getElem?_cons_succ,List.getElem?_cons_zero,exists_eq_left',wA,wB,wC,wD]
       exact y8 (k':=32-(n+1)) (by omega) ⟨n+1,own3,V,Z,by omega,rfl,by simp-implicitDefEqProofs only[f0,f1,f3,f4,f5,f8,f13,f15,f53,show(n:Int)+1=((n+1:Nat):Int) from rfl,d7,↓reduceIte,Nat.reduceEqDiff,and_self],f7d hi hP hP3,st.trans st3,aS3⟩
      ·obtain rfl:n=32:=by omega
       by_cases hfk2:q.first<keep
       ·simp-implicitDefEqProofs only[W3,a5r,a5q,d0L,f3,f4,f53,f54,show(((32:Nat):Int)<32)=False from eq_false (by omega),show((q.first:Int)<(keep:Int))=True from eq_true (by omega),↓reduceIte,Nat.reduceEqDiff,Nat.reduceSub,wA,wB,wC,wD]
        exact⟨own',T,Y,f6G hi hq hin hfk2 hP,st⟩
       ·have hc':(∃k,q= .r k∧c=0)∨∃w,q.up=some w∧nd T (Y i) w=c∧c≠0:=by
         rcases hc with h|⟨w,h1,h2,h3⟩
         ·exact .inl h
         ·exact .inr ⟨w,h1,(f8L hi hq hin hn hP h1).trans h2,h3⟩
        obtain⟨m3,m4,own3,V,Z,r3,ra,r4,hP3,st3⟩:=b8S hwm st.at' hTm hP.inv hi hq hself (by omega) (fun r hr hu=>f6i hi hq (by omega) hP hr hu) hc'
        have l2:mm.rdN m.next 0 3=some [iv i,iv c,iv q.at] :=aS.rdN (by show 0+3≤3;omega)
        simp-implicitDefEqProofs only[W3,a5r,a5q,a95,b09,a9V,f0,f1,f3,f4,f8,f13,f53,f54,show(((32:Nat):Int)<32)=False from eq_false (by omega),show((q.first:Int)<(keep:Int))=False from eq_false (by omega),l2,r3.eq,ra,r4.eq,↓reduceIte,Nat.reduceEqDiff,Nat.reduceSub,wA,wB,wC,wD]
        exact⟨own3,V,Z,f7L hi hq hin (by omega) hP hP3,st.trans st3⟩
  obtain⟨v,m',⟨rfl,own',T,Y,g1,g2⟩,r⟩:=key.ran
  exact⟨m',own',T,Y,g1,g2,r⟩
end
section
variable {m m':M} {A:Ad} {S:PS} {own:Nat→Prop} {tt aa:Nat} {X:Nat→Ino} {i:Nat}
theorem g1c{k:Nat}(h:k<8):(Pa.r k).dep=0∧(Pa.r k).first=k:=by
 constructor
 ·show(if k=9 then 2 else if k=8 then 1 else 0)=0
  rw[if_neg (by omega),if_neg (by omega)]
 ·show(if k=9 then 40 else k)=k
  rw[if_neg (by omega)]
set_option maxHeartbeats 4000000 in
set_option maxRecDepth 20000 in
theorem f97(hw:Wf m)(h:GAt m A S own)(ht:TAt m tt aa A.g)(hI:Inv S I2 X)(hi:i∈I2){s:Nat}(hs:s≤68096):
  ∃m' own' T Y V,Pr I2 S X T Y i (PrR ((s+63)/64) 10)∧Ptd T I2 Y V i {Y i with size:=s}∧Step m m' A V own own'∧Ran Tryz.prog tb a66 [.ptr tt 0,.ptr A.o 0,iv i,iv s] m (iv 0) m':=by
 have key:WpF Tryz.prog tb a66 [.ptr tt 0,.ptr A.o 0,iv i,iv s] m fun v m'=>v=iv 0∧∃own' T Y V,Pr I2 S X T Y i (PrR ((s+63)/64) 10)∧Ptd T I2 Y V i {Y i with size:=s}∧Step m m' A V own own':=by
  have hp:m.rdN tt 1 12=some i5:=ht.t.rdN (by show 1+12≤14;omega)
  have rP:=a9f (m:=m) (Q5 hi)
  have rM:Ran Tryz.prog tb W8 [.agg i5] m (.tuple [iv 68096,iv 0]) m:=P3 Tryz.func74 rfl
  have h64:m.rd tt 1=some (iv 64):=by rw[ht.t.rd];rfl
  have hks:(s:Int)+64-1=((s+63:Nat):Int):=by omega
  have hq:d8 Tryz.prog .quo d5 (iv ((s+63:Nat):Int)) (iv 64)=some (iv (((s+63)/64:Nat):Int)):=V8 (b:=64) d5 (by omega) (by omega)
  have hkeep:(s+63)/64≤2000:=by omega
  refine WpF.go g6p ?_
  simp-implicitDefEqProofs only[b4k,d7o,e3L,d6I,d9R,e8F,e7o,e2G,a3f,hp,rP.eq,rM.eq,show((s:Int)<0)=False from eq_false (by omega),show((68096:Int)<(s:Int))=False from eq_false (by omega),h64,aD (s:Int) 64,sB ((s:Int)+64) 1,hks,hq,↓reduceIte,Nat.reduceEqDiff,Nat.reduceAdd,List.getElem?_cons_succ,List.getElem?_cons_zero,exists_eq_left',wA,wB,wC,wD]
  generalize (s+63)/64=keep at*
  refine y7 (fun j fr mk=>∃n own' T Y,n≤8∧j=8-n∧(ev (tm 0) fr= .ptr tt 0∧ev (tm 1) fr= .ptr A.o 0∧ev (tm 2) fr=iv i∧ev (tm 3) fr=iv s∧ev (tm 14) fr=iv (keep:Nat)∧ev (tm 69) fr=iv (n:Nat))∧Pr I2 S X T Y i (PrR keep n)∧Step m mk A T own own') (k:=8)
   ⟨0,own,S,X,by omega,rfl,by simp-implicitDefEqProofs only[nc0,d7,↓reduceIte,Nat.reduceEqDiff,nc0,and_self],f9K hI hi keep,.rf hw h⟩ ?_
  rintro j fr mk ⟨n,own1,T,Y,hn,rfl,⟨f0,f1,f2,f3,f14,f69⟩,hP,st⟩
  have hwk:=st.kp.wf
  have hTk:=ht.kp hw st.kp
  by_cases hlt:n<8
  ·obtain⟨d1,d2⟩:=g1c hlt
   obtain⟨m1,own2,V,Z,hP1,st1,r1⟩:=a9j hkeep hi 0 (q:= .r n) (c:=0) d1 hwk st.at' hTk hP.inv (show n<10 by omega) (.inl ⟨n,rfl,rfl⟩)
   rw[d2] at r1
   have r1:Ran Tryz.prog tb R0 [.ptr tt 0,.ptr A.o 0,.agg [iv i,iv 0,iv n],iv n,iv keep,iv 0] mk (iv 0) m1:=r1
   simp-implicitDefEqProofs only[b4k,b1x,c4K,c0q,c99,d1Y,f0,f1,f2,f14,f69,show((n:Int)<8)=True from eq_true (by omega),r1.eq,aD (n:Int) 1,↓reduceIte,Nat.reduceEqDiff,Nat.reduceAdd,Nat.reduceLeDiff,wA,wB,wC,wD]
   exact y8 (k':=8-(n+1)) (by omega) ⟨n+1,own2,V,Z,by omega,rfl,by simp-implicitDefEqProofs only[f0,f1,f2,f3,f14,show(n:Int)+1=((n+1:Nat):Int) from rfl,d7,↓reduceIte,Nat.reduceEqDiff,and_self],a9F hi hP hP1,st.trans st1⟩
  ·obtain rfl:n=8:=by omega
   obtain⟨m1,own2,V1,Z1,hP1,st1,r1⟩:=a9j hkeep hi 1 (q:= .r 8) (c:=0) rfl hwk st.at' hTk hP.inv (show 8<10 by omega) (.inl ⟨8,rfl,rfl⟩)
   have r1:Ran Tryz.prog tb R0 [.ptr tt 0,.ptr A.o 0,.agg [iv i,iv 0,iv 8],iv 8,iv keep,iv 1] mk (iv 0) m1:=r1
   have hw1:=st1.kp.wf
   have hT1:=hTk.kp hwk st1.kp
   have hper:m1.rd tt 13=some (iv 32):=by rw[hT1.t.rd];rfl
   obtain⟨m2,own3,V2,Z2,hP2,st2,r2⟩:=a9j hkeep hi 2 (q:= .r 9) (c:=0) rfl hw1 st1.at' hT1 hP1.inv (show 9<10 by omega) (.inl ⟨9,rfl,rfl⟩)
   have r2:Ran Tryz.prog tb R0 [.ptr tt 0,.ptr A.o 0,.agg [iv i,iv 0,iv 9],iv 40,iv keep,iv 2] m1 (iv 0) m2:=r2
   have hw2:=st2.kp.wf
   have hT2:=hT1.kp hw1 st2.kp
   have hPA:=a9F hi (a9F hi hP hP1) hP2
   have stA:=(st.trans st1).trans st2
   obtain⟨hi6,hx,ho⟩:=hP2.inv.ino i hi
   obtain⟨m3,k3,r3⟩:=a0I hw2 st2.at' hT2 (Q5 hi) hx ho
   obtain⟨t,g1,g2,g3⟩:=id hx
   have hox:({Z2 i with size:=s}:Ino).Ok:=⟨ho.k1,ho.k2,ho.ln,by show s<4294967296;omega,ho.len,ho.p⟩
   have hpt:Ptd V2 I2 Z2 (V2.wr 35 (spl t (32*(i % 2)) (enc {Z2 i with size:=s}))) i {Z2 i with size:=s}:=by
    have:=Ptd.of hP2.inv hi g1 g2 (x':={Z2 i with size:=s}) hox rfl
    rwa [O2 hi] at this
   rw[O2 hi] at g1
   obtain⟨m4,e4,a4,k4,n4⟩:=B0 k3.wf A3 13 z13
   have hn3:=k3.next
   have hX:(s8 (Z2 i).kind (Z2 i).links (Z2 i).size (Z2 i).ps).length=13:=by rw[X5,ho.len]
   generalize hgz:Z2 i=x at*
   obtain⟨kd,lk,sz,ps⟩:=x
   have h5:=ho.len
   simp only at h5
   obtain⟨p0,p1,p2,p3,p4,p5,p6,p7,p8,p9,rfl⟩:=ten h5
   have hin:∀z,s8 kd lk z [p0,p1,p2,p3,p4,p5,p6,p7,p8,p9] = [ivn kd,ivn lk,ivn z,ivn p0,ivn p1,ivn p2,ivn p3,ivn p4,ivn p5,ivn p6,ivn p7,ivn p8,ivn p9] :=fun _=>rfl
   obtain⟨m5,e5,a5,k5,n5⟩:=a4.st k4.wf 0 [ivn kd,ivn lk,ivn sz,ivn p0,ivn p1,ivn p2,ivn p3,ivn p4,ivn p5,ivn p6,ivn p7,ivn p8,ivn p9]
   have k35:Keep m3 m5 fun _=>False:=k4.trans k5 fun b hb e=>by omega
   rw[hin] at r3
   obtain⟨m6,e6,a6,k6,n6⟩:=a5.st k35.wf 2 [ivn s]
   have k26:Keep m2 m6 fun _=>False:=(k3.tf k35).trans k6 fun b hb e=>by omega
   obtain⟨m7,own4,st7,r7⟩:=b0H k26.wf (st2.at'.k0 hw2 k26) (hT2.k0 hw2 k26) (Q5 hi) g1 hox
   rw[hin] at r7
   have hl6:m6.rdN m3.next 0 13=some [ivn kd,ivn lk,ivn s,ivn p0,ivn p1,ivn p2,ivn p3,ivn p4,ivn p5,ivn p6,ivn p7,ivn p8,ivn p9] :=a6.rdN (by show 0+13≤13;omega)
   simp-implicitDefEqProofs only[b4k,b1x,d2s,c6C,c6h,c8e,c04,c6R,c7e,c6Z,f0,f1,f2,f3,f14,f69,show(((8:Nat):Int)<8)=False from eq_false (by omega),r1.eq,hper,aD (8:Int) 32,show(8:Int)+32=40 from rfl,r2.eq,r3.eq,e4,e5,e6,hl6,r7.eq,↓reduceIte,Nat.reduceEqDiff,Nat.reduceAdd,Nat.reduceSub,Nat.reduceLeDiff,List.getElem?_cons_succ,List.getElem?_cons_zero,wA,wB,wC,wD]
   refine⟨own4,V2,Z2,_,hPA,?_,stA.trans (st7.ft k26)⟩
   rw[hgz]
   exact hpt
 obtain⟨v,m',⟨rfl,own',T,Y,V,g1,g2,g3⟩,r⟩:=key.ran
 exact⟨m',own',T,Y,V,g1,g2,g3,r⟩
end
section
variable {m m':M} {A:Ad} {S:PS} {own:Nat→Prop} {tt aa:Nat} {X:Nat→Ino} {i:Nat}
set_option maxHeartbeats 1000000 in
theorem f5W(hw:Wf m)(h:GAt m A S own)(ht:TAt m tt aa A.g)(hF:FS S I2 X)(hi:i∈I2){s:Nat}(hs:s≤68096):
  ∃m' own' T Y,Trt S I2 X T Y i s∧Step m m' A T own own'∧Ran Tryz.prog tb a7s [.ptr A.o 0,.ptr tt 0,.agg i5,iv i,iv s] m (iv 0) m':=by
 obtain⟨m1,e1,a1,k1,n1⟩:=l6 hw v7 12 i5
 have l1:m1.rdN m.next 0 12=some i5:=a1.rdN (by show 0+12≤12;omega)
 have rM:Ran Tryz.prog tb W8 [.agg i5] m1 (.tuple [iv 68096,iv 0]) m1:=P3 Tryz.func74 rfl
 obtain⟨m2,c,a2,k2,n2,r2⟩:=a9B k1.wf (h.k0 hw k1) (ht.k0 hw k1) hF.inv hi (iv 64) (iv 90) (iv 6) (iv 30) (iv 2) (iv 32) (iv 1) (iv 33) (iv 1) (iv 34) (iv 3) (iv 37)
 have k02:=k1.tf k2
 obtain⟨m3,own3,U,Z,R,hP,hPt,st3,r3⟩:=f97 k02.wf (h.k0 hw k02) (ht.k0 hw k02) hF.inv hi hs
 have hC:=Ctd.of hi hF.inv hF.dat hP
 have hw3:=st3.kp.wf
 have a3:=a2.kp k02.wf st3.kp
 have hsz:=hF.sz i hi
 obtain⟨m4,own4,T,hT,hnd,st4,r4⟩:=b9k hw3 st3.at' ((ht.k0 hw k02).kp k02.wf st3.kp) hPt.inv (hPt.dat hC.inv hC.dat) hi (s:=min s (X i).size) a3 (by omega)
 have hsz3:m3.rd c 17=some (ivn (X i).size):=by rw[a3.rd];rfl
 have hmin:min (s:Int) ((X i).size:Int)=((min s (X i).size:Nat):Int):=by omega
 refine⟨m4,own4,T,_,Trt.of hF hi hs hC hPt hT (fun q hq=>hnd i hi q hq),(st3.ft k02).trans st4,?_⟩
 refine WpF.go g57 ?_
 simp-implicitDefEqProofs only[g64,e6U,d58,d3F,d68,e0h,e8g,e08,d0r,c9P,e1,l1,rM.eq,show((s:Int)<0)=False from eq_false (by omega),show((68096:Int)<(s:Int))=False from eq_false (by omega),r2.eq,r3.eq,hsz3,hmin,r4.eq,↓reduceIte,Nat.reduceEqDiff,Nat.reduceAdd,List.getElem?_cons_succ,List.getElem?_cons_zero,wA,wB,wC,wD]
end
def t32:Bk:=3::List.replicate 63 0
def t33:Bk:=255::255::255::255::31::List.replicate 59 0
def n32(k:UInt8):Bk:=k::0::1::List.replicate 29 0
def t35:Bk:=n32 1++n32 2
def yl(k:Nat):List AV:= .y k:: .y 0:: .y 1::List.replicate 29 (.y 0)
def rd0:Nat→Option Bk:=fun b=>if b=32 then some t32 else if b=33 then some t33 else if b=35 then some t35 else none
def S0:PS:=⟨rd0,fun _=>false⟩
def x0(k:Nat):Ino:=⟨k,1,0,List.replicate 10 0⟩
def X0:Nat→Ino:=fun i=>if i=3 then x0 2 else x0 1
theorem ps0(i j:Nat):(X0 i).ps.getD j 0=0:=by
 have e:(X0 i).ps=List.replicate 10 0:=by unfold X0 x0;split<;>rfl
 rw[e,List.getD_eq_getElem?_getD,List.getElem?_replicate]
 split<;>rfl
theorem nd0(S:PS)(i:Nat):∀p:Pa,nd S (X0 i) p=0
 | .r j=>ps0 i j
 | .s j a=>by show ptz S _ a=0;rw[ps0,a0W]
 | .t a b=>by show ptz S (ptz S _ a) b=0;rw[ps0,a0W,a0W]
theorem f0L{k:Nat}(h:k=1∨k=2):(x0 k).Ok:=⟨by show 1≤k;omega,by show k≤2;omega,by show 1<65536;omega,by show 0<4294967296;omega,List.length_replicate,fun p hp=>by have:=List.eq_of_mem_replicate hp;omega⟩
theorem g6Y:Inv S0 I2 X0:={
 ino:=fun i hi=>by
  have hi:i=2∨i=3:=by simpa[I2] using hi
  rcases hi with rfl|rfl
  ·exact⟨by omega,⟨t35,rfl,rfl,by decide+kernel⟩,f0L (.inl rfl)⟩
  ·exact⟨by omega,⟨t35,rfl,rfl,by decide+kernel⟩,f0L (.inr rfl)⟩
 bm:=⟨t33,rfl,by decide+kernel,fun i _ p _ h0=>absurd (nd0 _ i p) h0⟩
 inj:=fun i _ j _ p q _ _ h0=>absurd (nd0 _ i p) h0
 blk:=fun i _ p _ _ h0=>absurd (nd0 _ i p) h0
 }
theorem g6W(S:PS)(i n:Nat):z8 S (X0 i) n=z64:=if_pos (nd0 S i _)
theorem fs0:FS S0 I2 X0:=
 ⟨g6Y,fun i _ n _ h0=>absurd (nd0 _ i _) h0,fun i _ o _ _=>by unfold fby;rw[g6W,b0j],fun i _=>by unfold X0 x0;split<;>exact Nat.zero_le _⟩
theorem g7C:t8 S0=0:=by decide+kernel
def a7J:Nat→Prop:=fun b=>b=196∨b=275∨b=415
noncomputable def A2:Ad:=⟨177,185,129,4,173,175,176,182,183,184,128⟩
theorem b2n{m:M}{b:Nat}{xt:Bool}{cells:List AV}{t:Bk}(h:At m b 5 xt cells)(ht:cells=i9 t)(hl:t.length=64):BtU m (.slice b 0 64 64 false) t b:=by
 subst ht
 have h2:(i9 t).length=64:=by simp[i9,hl]
 have:=BsAt.row (off:=0) (cap:=64) (lim:=false) (l:=t) h.r (by omega) (by rw[List.drop_zero,hl,List.take_of_length_le (by omega)])
 rw[hl] at this
 exact⟨this,h.kd⟩
theorem g59{m:M}{gl a b c:Nat}{own:Nat→Prop}(h:MpAt m gl [(32,.slice a 0 64 64 false),(33,.slice b 0 64 64 false),(35,.slice c 0 64 64 false)])(ha:BtU m (.slice a 0 64 64 false) t32 a)(hb:BtU m (.slice b 0 64 64 false) t33 b)(hc:BtU m (.slice c 0 64 64 false) t35 c)
  (oa:own a) (ob:own b) (oc:own c):BmAt m gl rd0 own:=by
 refine⟨_,h,(by decide: [32,33,35].Nodup),fun k=>⟨fun hk=> ?_,fun t hk=> ?_⟩⟩
 ·unfold rd0 at hk
  by_cases h1:k=32
  ·rw[if_pos h1] at hk;cases hk
  ·rw[if_neg h1] at hk
   by_cases h2:k=33
   ·rw[if_pos h2] at hk;cases hk
   ·rw[if_neg h2] at hk
    by_cases h3:k=35
    ·rw[if_pos h3] at hk;cases hk
    ·exact(if_neg (Ne.symm h1)).trans ((if_neg (Ne.symm h2)).trans (if_neg (Ne.symm h3)))
 ·unfold rd0 at hk
  by_cases h1:k=32
  ·rw[if_pos h1] at hk;cases hk;subst h1
   exact⟨by decide+kernel,_,a,rfl,ha,oa⟩
  ·rw[if_neg h1] at hk
   by_cases h2:k=33
   ·rw[if_pos h2] at hk;cases hk;subst h2
    exact⟨by decide+kernel,_,b,rfl,hb,ob⟩
   ·rw[if_neg h2] at hk
    by_cases h3:k=35
    ·rw[if_pos h3] at hk;cases hk;subst h3
     exact⟨rfl,_,c,rfl,hc,oc⟩
    ·rw[if_neg h3] at hk;cases hk
theorem BmAt.none{m:M}{b:Nat}{own:Nat→Prop}(h:MpAt m b []):BmAt m b (fun _=>Option.none) own:=⟨[],h,List.nodup_nil,fun k=>⟨fun _=>rfl,fun t e=>by cases e⟩⟩
noncomputable abbrev z12:List AV:= [iv 0,iv 0,iv 0,iv 0,iv 0,iv 0,iv 0,iv 0,iv 0,iv 0,iv 0,iv 0]
noncomputable def mQ(o:Option Blk):Option M:=((mS o).addZ v7 12 z12).wr 1 0 i5
noncomputable def ckF(r:R):Bool×Option Blk×AV:=match r with
 |some (v,m)=>(bc (ltT m.tab m.next) (bc (O8 m 177 131 true [.ptr 4 0,.ptr 129 0,.ptr 173 0,.n 64,.n 90,.n 6,.n 30,.n 2,.n 32,.n 1,.n 33,.n 1,.n 34,.n 3,.n 37,.map 175,.map 176,.ptr 185 0])
   (bc (O8 m 129 120 true [.ptr 4 0,.n 64,.n 90,.n 6,.n 30,.n 2,.n 32,.n 1,.n 33,.n 1,.n 34,.n 3,.n 37,.n 1,.n 0,.n 0,.map 128,.b false])
   (bc (a0l m 128 []) (bc (a0l m 175 []) (bc (a0l m 176 []) (bc (a0l m 183 []) (bc (a0l m 184 []) (bc (a0l m 182 [(32,.slice 196 0 64 64 false),(33,.slice 275 0 64 64 false),(35,.slice 415 0 64 64 false)])
   (bc (O8 m 196 5 false (.y 3::List.replicate 63 (.y 0))) (bc (O8 m 275 5 false (.y 255:: .y 255:: .y 255:: .y 255:: .y 31::List.replicate 59 (.y 0))) (bc (O8 m 415 5 false (yl 1++yl 2))
   (bc (O8 m 179 135 true [.ptr 177 0,.n 64,.n 90,.n 6,.n 30,.n 2,.n 32,.n 1,.n 33,.n 1,.n 34,.n 3,.n 37,.n 33,.n 512,.n 32,.n 512])
   (bc (O8 m 181 137 true [.ptr 179 0,.n 64,.n 90,.n 6,.n 30,.n 2,.n 32,.n 1,.n 33,.n 1,.n 34,.n 3,.n 37,.n 32])
   (bc (O8 m 1 24 true i5) (O8 m 185 139 true [.ptr 177 0,.map 182,.map 183,.map 184]) false) false) false) false) false) false) false) false) false) false) false) false) false) false) false,m.get 0,v)
 |none=>(false,none,.undef)
noncomputable def ckL(o:Option M):Bool×Option Blk×AV:=match o with
 |some m=>ckF (arun Tryz.prog tbA 100000 8 [.agg i5] m)
 |none=>(false,none,.undef)
set_option maxRecDepth 100000 in
theorem fr3(o:Option Blk):ckL (mQ o)=(true,o,.tuple [.ptr 177 0,.ptr 181 0,.ptr 185 0]):=by kernel_rfl
set_option maxRecDepth 20000 in
theorem f9A{o:Option Blk}{m2:M}(hm:mQ o=some m2):∃m1,Wf m1∧Keep (mS o) m1 (fun _=>False)∧At m1 1 v7 true i5∧GAt m1 A2 S0 a7J∧TAt m1 181 179 A2.g∧Ran Tryz.prog tb a8T [.agg i5] m2 (.tuple [.ptr 177 0,.ptr 181 0,.ptr 185 0]) m1:=by
 have h:=fr3 o
 rw[hm] at h
 have h:ckF (arun Tryz.prog tbA 100000 8 [.agg i5] m2)=_:=h
 generalize hr:arun Tryz.prog tbA 100000 8 [.agg i5] m2=r at h
 unfold ckF at h
 split at h
 ·rename_i v m
  simp only[Prod.mk.injEq] at h
  obtain⟨h,h0,hv⟩:=h
  obtain⟨h1,h⟩:=C8 h
  obtain⟨h2,h⟩:=C8 h
  obtain⟨h3,h⟩:=C8 h
  obtain⟨h4,h⟩:=C8 h
  obtain⟨h5,h⟩:=C8 h
  obtain⟨h6,h⟩:=C8 h
  obtain⟨h7,h⟩:=C8 h
  obtain⟨h8,h⟩:=C8 h
  obtain⟨h9,h⟩:=C8 h
  obtain⟨h10,h⟩:=C8 h
  obtain⟨h11,h⟩:=C8 h
  obtain⟨h12,h⟩:=C8 h
  obtain⟨h13,h⟩:=C8 h
  obtain⟨h14,h⟩:=C8 h
  obtain⟨h15,h16⟩:=C8 h
  have b1:=b2n (t:=t32) (T5 h10) (by kernel_rfl) rfl
  have b2:=b2n (t:=t33) (T5 h11) (by kernel_rfl) rfl
  have b3:=b2n (t:=t35) (T5 h12) (by kernel_rfl) rfl
  have wf:Wf m:=g5E h1
  have hg:At m 177 131 true _:=T5 h2
  have hlt:=hg.lt wf
  refine⟨m,wf,⟨by show 1≤m.next;omega,wf,fun b hb _=> ?_⟩,T5 h15,?_,⟨T5 h14,T5 h13⟩,P3 Tryz.func8 ?_⟩
  ·have hb:b<1:=hb
   obtain rfl:b=0:=by omega
   rw[a5Y,if_pos rfl,h0]
  ·exact{
    g:=hg
    o:=T5 h16
    l:=T5 h3
    lp:=a1k h4
    gf:=a1k h6
    nm:=by decide
    ow:=fun b hb=>by
     rcases hb with rfl|rfl|rfl
     ·exact b1.kd
     ·exact b2.kd
     ·exact b3.kd
    mp:=⟨rd0,fun _=>Option.none,fun _=>Option.none,g59 (a1k h9) b1 b2 b3 (.inl rfl) (.inr (.inl rfl)) (.inr (.inr rfl)),.none (a1k h7),.none (a1k h5),⟨[],a1k h8,List.nodup_nil,(fun k v e=>by cases e),fun k=>rfl⟩,fun b=>by show rd0 b=_;cases rd0 b<;>rfl,fun b hb=>rfl⟩
   }
  ·show F7 (arun Tryz.prog tbA 100000 8 [.agg i5] m2)=_
   rw[hr,hv];rfl
 ·cases h
end Go.Proofs.YtooooiidpaecmaaGreatDoor
/- Names: whether they are sound; a text is cut at its first byte 0. -/
namespace Go.Am
open Go Go.RowKit
theorem f8Y(x:RO)(fr:Fr)(m:M):run (.rangeS x) fr m=a5c (.cst (ev x fr)) .leaf m:=rfl
theorem c4L(x:RO)(fr:Fr)(m:M):run (.nextS x) fr m=a20 (.cst (ev x fr)) .leaf m:=rfl
theorem a3F(x i:RO)(fr:Fr)(m:M):run (.ixS x i) fr m=W6 (.cst (ev x fr)) (.cst (ev i fr)) .leaf m:=rfl
theorem f9g(l:List UInt8)(m:M):a5c (.cst (tv l)) .leaf m=some (.ptr m.next 0,m.new (.obj (.sit m.next ⟨l.toArray⟩ 0))):=rfl
theorem a62{l:List UInt8}{i:Nat}{c:UInt8}(h:l[i]? =some c)(m:M):W6 (.cst (tv l)) (.cst (iv (i:Nat))) .leaf m=some (.y c.toNat,m):=by
 show ob (a1S (iv (i:Nat))) (fun i=>ob (toS (tv l)) fun s=>ob (s.data.toList[i]?) fun c=>some (AV.y c.toNat,m))=_
 show ob (l.toArray.toList[i]?) _=_
 rw[List.toList_toArray,h];rfl
theorem c31{m:M}{b p:Nat}{s:ByteArray}(h:m.get b=some (.obj (.sit b s p))):m.sit b=some (b,s,p):=by
 unfold M.sit
 rw[h];rfl
theorem g0M{m:M}{b k:Nat}{l:List UInt8}{c:UInt8}(h:m.get b=some (.obj (.sit b ⟨l.toArray⟩ k)))(hk:l[k]? =some c)(hc:c.toNat≤127):
  a20 (.cst (.ptr b 0)) .leaf m=some (.tuple [.b true,iv (k:Nat),.p (.int .i32 (c.toNat:Int))],m.put b (.obj (.sit b ⟨l.toArray⟩ (k+1)))):=by
 show bc (Nat.beq 0 0) (ob (m.sit b) fun q=>bc (Nat.beq q.1 b) (match q.2.1.data.toList[q.2.2]? with
  |none=>some (AV.tuple [.b false],m)
  |some c=>bc (Nat.ble c.toNat 127) (some (.tuple [.b true,.n q.2.2,.p (.int .i32 (Int.ofNat c.toNat))],m.put b (.obj (.sit b q.2.1 (Nat.succ q.2.2))))) none) none) none=_
 rw[c31 h]
 show bc (Nat.beq b b) (match l.toArray.toList[k]? with
  |none=>some (AV.tuple [.b false],m)
  |some c=>bc (Nat.ble c.toNat 127) (some (.tuple [.b true,.n k,.p (.int .i32 (Int.ofNat c.toNat))],m.put b (.obj (.sit b ⟨l.toArray⟩ (Nat.succ k))))) none) none=_
 rw[Nat.beq_refl,l9,List.toList_toArray,hk]
 show bc (Nat.ble c.toNat 127) _ none=_
 rw[A1,decide_eq_true hc];rfl
theorem f50{m:M}{b k:Nat}{l:List UInt8}(h:m.get b=some (.obj (.sit b ⟨l.toArray⟩ k)))(hk:l.length≤k):
  a20 (.cst (.ptr b 0)) .leaf m=some (.tuple [.b false],m):=by
 show bc (Nat.beq 0 0) (ob (m.sit b) fun q=>bc (Nat.beq q.1 b) (match q.2.1.data.toList[q.2.2]? with
  |none=>some (AV.tuple [.b false],m)
  |some c=>bc (Nat.ble c.toNat 127) (some (.tuple [.b true,.n q.2.2,.p (.int .i32 (Int.ofNat c.toNat))],m.put b (.obj (.sit b q.2.1 (Nat.succ q.2.2))))) none) none) none=_
 rw[c31 h]
 show bc (Nat.beq b b) (match l.toArray.toList[k]? with
  |none=>some (AV.tuple [.b false],m)
  |some c=>bc (Nat.ble c.toNat 127) (some (.tuple [.b true,.n k,.p (.int .i32 (Int.ofNat c.toNat))],m.put b (.obj (.sit b ⟨l.toArray⟩ (Nat.succ k))))) none) none=_
 rw[Nat.beq_refl,l9,List.toList_toArray,List.getElem?_eq_none hk]
end Go.Am
namespace Go.Proofs.YtooooiidpaecmaaGreatDoor
open Go Go.Am
def Low(s:Bs):Prop:=1≤s.length∧s.length≤13∧∀c∈s,97≤c.toNat∧c.toNat≤122
section
variable {m:M}
theorem g2X(t:TypeId)(a b:Int):d8 Tryz.prog .geq t (.p (.int .i32 a)) (.p (.int .i32 b))=some (.b (decide (b≤a))):=rfl
theorem g3G(t:TypeId)(a b:Int):d8 Tryz.prog .leq t (.p (.int .i32 a)) (.p (.int .i32 b))=some (.b (decide (a≤b))):=rfl
theorem g7h:d8 Tryz.prog .eql c9a (.b false) (.b true)=some (.b false):=by kernel_rfl
theorem g0K{c:Nat}(h1:97≤c)(h2:c≤122):Ran Tryz.prog tb a0g [.p (.int .i32 (c:Int))] m (.b false) m:=by
 refine WpF.go g5d ?_
 simp-implicitDefEqProofs only[g7w,e5J,e3E,g2X,g3G,show((97:Int)≤(c:Int))=True from eq_true (by omega),show((c:Int)≤122)=True from eq_true (by omega),↓reduceIte,Nat.reduceEqDiff,wA,wB,wC,wD]
theorem g1j(hw:Wf m){s:Bs}(hs:∀c∈s,97≤c.toNat∧c.toNat≤122):∃m',Keep m m' (fun _=>False)∧Ran Tryz.prog tb a6S [tv s,.func a0g [],.b true] m (iv (-1)) m':=by
 have key:WpF Tryz.prog tb a6S [tv s,.func a0g [],.b true] m fun v m'=>v=iv (-1)∧Keep m m' fun _=>False:=by
  refine WpF.go g4X ?_
  simp-implicitDefEqProofs only[b4i,e2R,e4z,f8Y,f9g,↓reduceIte,Nat.reduceEqDiff,Nat.reduceAdd,wA,wB,wC,wD]
  refine y7 (fun j fr mk=>∃k,k≤s.length∧j=s.length-k∧(ev (tm 1) fr= .func a0g []∧ev (tm 2) fr= .b true∧ev (tm 10) fr= .ptr m.next 0)∧mk.get m.next=some (.obj (.sit m.next ⟨s.toArray⟩ k))∧Keep m mk fun _=>False) (k:=s.length) ⟨0,Nat.zero_le _,rfl,by simp-implicitDefEqProofs only[d7,↓reduceIte,Nat.reduceEqDiff,and_self],by rw[M.get_new,if_pos rfl],Keep.new hw⟩ ?_
  rintro j fr mk ⟨k,hk,rfl,⟨f1,f2,f10⟩,hg,kk⟩
  by_cases hlt:k<s.length
  ·have hv:s[k]? =some s[k] :=List.getElem?_eq_getElem hlt
   have hin:=hs _ (List.getElem_mem hlt)
   generalize s[k] =c at hv hin
   simp-implicitDefEqProofs only[b4i,b17,e5A,d84,c4L,f10,g0M hg hv (by omega),f1,f2,(g0K (m:=mk.put m.next (.obj (.sit m.next ⟨s.toArray⟩ (k+1)))) hin.1 hin.2).eq,g7h,↓reduceIte,Nat.reduceEqDiff,List.getElem?_cons_succ,List.getElem?_cons_zero,wA,wB,wC,wD]
   have hlt2:m.next<mk.next:=by
    rcases Nat.lt_or_ge m.next mk.next with h|h
    ·exact h
    ·rw[kk.wf _ h] at hg;cases hg
   refine y8 (k':=s.length-(k+1)) (by omega) ⟨k+1,by omega,rfl,by simp-implicitDefEqProofs only[f1,f2,f10,d7,↓reduceIte,Nat.reduceEqDiff,and_self],by rw[M.get_put,if_pos rfl],kk.trans (Keep.put (F:=fun b=>b=m.next) kk.wf hlt2 rfl) fun b hb e=>by omega⟩
  ·have hke:k=s.length:=by omega
   subst hke
   simp-implicitDefEqProofs only[b4i,b17,e8v,c4L,f10,f50 hg (Nat.le_refl _),↓reduceIte,List.getElem?_cons_zero,wA,wB,wC,wD]
   exact kk
 obtain⟨v,m',⟨rfl,k⟩,r⟩:=key.ran
 exact⟨m',k,r⟩
theorem a4U(hw:Wf m){s:Bs}(hs:Low s):∃m',Keep m m' (fun _=>False)∧Ran Tryz.prog tb a3B [tv s] m (iv 0) m':=by
 obtain⟨h1,h2,h3⟩:=hs
 obtain⟨m',k,r⟩:=g1j hw h3
 have r2:Ran Tryz.prog tb b3D [tv s,.func a0g []] m (iv (-1)) m':=by
  refine WpF.go g6n ?_
  simp-implicitDefEqProofs only[g7b,d6m,e5f,r.eq,↓reduceIte,Nat.reduceEqDiff,Nat.reduceAdd,wA,wB,wC,wD]
 have r3:Ran Tryz.prog tb b3M [tv s,.func a0g []] m (.b false) m':=by
  refine WpF.go g6j ?_
  simp-implicitDefEqProofs only[g62,d6G,e0s,r2.eq,show((0:Int)≤-1)=False from eq_false (by omega),↓reduceIte,Nat.reduceEqDiff,Nat.reduceAdd,wA,wB,wC,wD]
 have e0:¬s= [] :=fun e=>by rw[e] at h1;exact absurd h1 (by decide)
 have e1:¬s= [46] :=fun e=>by subst e;exact absurd (h3 46 (by simp)).1 (by decide)
 have e2:¬s= [46,46] :=fun e=>by subst e;exact absurd (h3 46 (by simp)).1 (by decide)
 refine⟨m',k,?_⟩
 refine WpF.go g6e ?_
 simp-implicitDefEqProofs only[g6X,e27,e7y,e7H,d9A,r3.eq,decide_eq_false e0,decide_eq_false e1,decide_eq_false e2,show((13:Int)<(s.length:Int))=False from eq_false (by omega),↓reduceIte,Nat.reduceEqDiff,wA,wB,wC,wD]
end
theorem b9V:∀{s:List UInt8} (k:Nat),(∀c∈s,c.toNat≠0)→D7 s 0 k=none
 | [],k,h=>rfl
 |c::s,k,h=>by
  unfold D7
  have h0:=h c (by simp)
  rw[A4,decide_eq_false h0]
  exact b9V _ fun c hc=>h c (List.mem_cons_of_mem _ hc)
theorem b9l:∀{s:List UInt8} (k:Nat) (r:List UInt8),(∀c∈s,c.toNat≠0)→D7 (s++0::r) 0 k=some (k+s.length)
 | [],k,r,h=>rfl
 |c::s,k,r,h=>by
  show D7 (c::(s++0::r)) 0 k=_
  unfold D7
  have h0:=h c (by simp)
  rw[A4,decide_eq_false h0]
  show D7 (s++0::r) 0 (k+1)=_
  rw[b9l (k+1) r fun c hc=>h c (List.mem_cons_of_mem _ hc),List.length_cons]
  congr 1
  omega
section
variable {m:M}
theorem g1Y(l:Bs):Ran Tryz.prog tb b4p [tv l,.y 0] m (Option.rec (motive:=fun _=>AV) (iv (-1)) (fun i=>iv (i:Nat)) (D7 l 0 0)) m:=by
 refine g0t (fn:=Tryz.f217) (by rw[i7];exact a0H Tryz.func217) rfl rfl ?_ ⟨rfl,rfl⟩
 have e:Tryz.f217.name=K6:=by kernel_rfl
 rw[e]
 show bc (decide (K6=K6)&&Nat.ble 0 255) (ob (toS (tv l)) fun s=>some (Option.rec (motive:=fun _=>AV) (.p (.int .i64 (-1))) (fun i=> .n i) (D7 s.data.toList 0 0),m)) (bc (decide (K6=a1j)&&Nat.ble 0 255) (ob (toS (tv l)) fun s=>some (AV.n (a0U s.data.toList 0 0),m)) none)=_
 rw[decide_eq_true (rfl:K6=K6)]
 show some (Option.rec (motive:=fun _=>AV) (.p (.int .i64 (-1))) (fun i=> .n i) (D7 l.toArray.toList 0 0),m)=_
 rw[List.toList_toArray];rfl
theorem b8x{l:Bs}{r:Option Nat}(h:D7 l 0 0=r)(h1:l≠[0]):Ran Tryz.prog tb a3K [tv l,tv [0]] m (Option.rec (motive:=fun _=>AV) (iv (-1)) (fun i=>iv (i:Nat)) r) m:=by
 subst h
 have r1:Ran Tryz.prog tb a7l [tv l,.y 0] m (Option.rec (motive:=fun _=>AV) (iv (-1)) (fun i=>iv (i:Nat)) (D7 l 0 0)) m:=by
  refine WpF.go g58 ?_
  simp-implicitDefEqProofs only[g7G,e0H,e2A,(g1Y l).eq,↓reduceIte,Nat.reduceEqDiff,Nat.reduceAdd,wA,wB,wC,wD]
 have hc:C1 (Option.rec (motive:=fun _=>AV) (iv (-1)) (fun i=>iv (i:Nat)) (D7 l 0 0))=some [Option.rec (motive:=fun _=>AV) (iv (-1)) (fun i=>iv (i:Nat)) (D7 l 0 0)] :=by
  generalize D7 l 0 0=r
  cases r<;>rfl
 generalize Option.rec (motive:=fun _=>AV) (iv (-1)) (fun i=>iv (i:Nat)) (D7 l 0 0)=v at r1 hc⊢
 have e0:¬([0] :Bs)=l:=fun e=>h1 e.symm
 have hx:=a62 (l:= [0]) (i:=0) (c:=0) rfl m
 have hx:W6 (.cst (tv [0])) (.cst (iv 0)) .leaf m=some (.y 0,m):=hx
 refine WpF.go g5c ?_
 simp-implicitDefEqProofs only[g7q,e3P,e4i,e3C,e29,d72,a3F,hx,decide_eq_false e0,show((((0+1:Nat):Int)=0))=False from eq_false (by omega),show((((0+1:Nat):Int)=1))=True from eq_true (by omega),r1.eq,↓reduceIte,Nat.reduceEqDiff,Nat.reduceAdd,wA,wB,wC,wD]
theorem g5a:d8 Tryz.prog .eql l3 (.y 0) (.y 0)=some (.b true):=by kernel_rfl
theorem g5U:d8 Tryz.prog .lss l3 (.y 0) (.y 128)=some (.b true):=by kernel_rfl
theorem trimL_ran:Ran Tryz.prog tb b3h [tv [],.y 0] m (tv []) m:=by
 refine WpF.go g5i ?_
 simp-implicitDefEqProofs only[f2k,e8H,Nat.reduceAdd,wA,wB,wC,wD]
 refine y7 (fun j fr mk=>j=0∧ev (tm 0) fr=tv []∧mk=m) (k:=0) ⟨rfl,by simp-implicitDefEqProofs only[d7,↓reduceIte,Nat.reduceEqDiff],rfl⟩ ?_
 rintro j fr mk ⟨rfl,f0,rfl⟩
 simp-implicitDefEqProofs only[f2k,d9W,e37,f0,show((0:Int)<0)=False from eq_false (by omega),↓reduceIte,Nat.reduceEqDiff,wA,wB,wC,wD]
theorem f7v(n:Nat)(hn:n≤1000):Ran Tryz.prog tb b3p [tv (List.replicate n 0),.y 0] m (tv []) m:=by
 refine WpF.go g49 ?_
 simp-implicitDefEqProofs only[b4b,d5z,Nat.reduceAdd,wA,wB,wC,wD]
 refine y7 (fun j fr mk=>j≤n∧(ev (tm 0) fr=tv (List.replicate j 0)∧ev (tm 1) fr= .y 0)∧mk=m) (k:=n) ⟨Nat.le_refl _,by simp-implicitDefEqProofs only[d7,↓reduceIte,Nat.reduceEqDiff,and_self],rfl⟩ ?_
 rintro j fr mk ⟨hj,⟨f0,f1⟩,rfl⟩
 by_cases h0:j=0
 ·subst h0
  have e:(List.replicate 0 0:Bs)= [] :=rfl
  rw[e] at f0
  simp-implicitDefEqProofs only[b4b,b1M,e9F,f0,show((0:Int)<0)=False from eq_false (by omega),↓reduceIte,Nat.reduceEqDiff,wA,wB,wC,wD]
 ·obtain⟨i,rfl⟩:∃i,j=i+1:=⟨j-1,by omega⟩
  have hx:=a62 (l:=List.replicate (i+1) 0) (i:=i) (c:=0) (by rw[List.getElem?_replicate,if_pos (by omega)]) mk
  have hx:W6 (.cst (tv (List.replicate (i+1) 0))) (.cst (iv (i:Nat))) .leaf mk=some (.y 0,mk):=hx
  have hs:=b99 (m:=mk) (List.replicate (i+1) (0:UInt8)) (b:=i) (by rw[List.length_replicate];omega)
  rw[List.take_replicate,show min i (i+1)=i by omega] at hs
  have hsub:((i+1:Nat):Int)-1=(i:Int):=by omega
  simp-implicitDefEqProofs only[b4b,b1M,d6x,f0,f1,List.length_replicate,show((0:Int)<((i+1:Nat):Int))=True from eq_true (by omega),sB ((i+1:Nat):Int) 1,hsub,a3F,hx,g5a,hs,↓reduceIte,Nat.reduceEqDiff,wA,wB,wC,wD]
  exact y8 (k':=i) (by omega) ⟨by omega,by simp-implicitDefEqProofs only[f1,d7,↓reduceIte,Nat.reduceEqDiff,and_self],rfl⟩
theorem f9i(n:Nat)(hn:n≤1000):Ran Tryz.prog tb b3G [tv (List.replicate n 0),tv [0]] m (tv []) m:=by
 have hx:W6 (.cst (tv [0])) (.cst (iv 0)) .leaf m=some (.y 0,m):=a62 (l:= [0]) (i:=0) (c:=0) rfl m
 refine WpF.go g5o ?_
 by_cases h0:n=0
 ·subst h0
  have e:(List.replicate 0 0:Bs)= [] :=rfl
  rw[e]
  simp-implicitDefEqProofs only[f1H,b1O,b2B,d9O,↓reduceIte,Nat.reduceEqDiff,Nat.reduceAdd,wA,wB,wC,wD]
 ·have e:¬(List.replicate n 0:Bs)= [] :=fun e=>h0 (by have:=congrArg List.length e;simpa using this)
  have e1:¬([0] :Bs)= [] :=by decide
  simp-implicitDefEqProofs only[f1H,b1O,b2B,e2f,d9v,decide_eq_false e,decide_eq_false e1,show((((0+1:Nat):Int)=1))=True from eq_true (by omega),a3F,hx,g5U,(f7v n hn).eq,trimL_ran.eq,↓reduceIte,Nat.reduceEqDiff,Nat.reduceAdd,exists_eq_left',wA,wB,wC,wD]
theorem f8N{b off n cap:Nat}{lim:Bool}{l s:Bs}{z:Nat}(h:BsAt m (.slice b off n cap lim) l b)(hn:n=l.length)(hcap:n≤cap)(hl:15≤n)(hl2:n≤1000)(he:(l.drop 2).take 13=s++List.replicate z 0)(hs:∀c∈s,c.toNat≠0):
  Ran Tryz.prog tb b3f [.slice b off n cap lim,iv 2,iv 13] m (.tuple [tv s,iv 0]) m:=by
 have hsz:s.length+z=13:=by
  have:=congrArg List.length he
  rw[List.length_take,List.length_drop,List.length_append,List.length_replicate] at this
  omega
 have hp:Ran Tryz.prog tb a3P [.slice b off n cap lim,iv 2,iv 13] m (.tuple [.slice b (off+2) 13 (cap-2) lim,.b true]) m:=c0j (at':=2) (n:=13) (by omega) (by omega) hcap (by omega)
 have hspan:Ran Tryz.prog tb b3B [.slice b off n cap lim,iv 2,iv 13] m (.tuple [.slice b (off+2) 13 (cap-2) lim,iv 0]) m:=by
  refine WpF.go g5p ?_
  simp-implicitDefEqProofs only[g66,d8z,e5d,d57,e6w,e8q,show((13:Int)<0)=False from eq_false (by omega),hp.eq,↓reduceIte,Nat.reduceEqDiff,Nat.reduceAdd,List.getElem?_cons_succ,List.getElem?_cons_zero,wA,wB,wC,wD]
 have hb:=BsAt.sub (cap':=cap-2) (lim':=lim) h (at':=2) (w:=13) (by omega)
 rw[he] at hb
 have hb2:=hb.run_b2s
 have hcut:Ran Tryz.prog tb b3d [tv (s++List.replicate z 0),tv [0]] m (.tuple [tv s,tv (List.replicate (z-1) 0),.b (decide (0<z))]) m:=by
  have hne:s++List.replicate z 0≠[0] :=fun e=>by
   have:=congrArg List.length e
   rw[List.length_append,List.length_replicate,hsz] at this
   exact absurd this (by decide)
  by_cases h0:z=0
  ·subst h0
   have e:s++List.replicate 0 0=s:=List.append_nil s
   rw[e] at hne⊢
   have ri:Ran Tryz.prog tb a3K [tv s,tv [0]] m (iv (-1)) m:=b8x (b9V 0 hs) hne
   refine WpF.go f0v ?_
   simp-implicitDefEqProofs only[f2q,b1p,b2Z,b1Y,d9h,ri.eq,show((0:Int)≤-1)=False from eq_false (by omega),↓reduceIte,Nat.reduceEqDiff,Nat.reduceAdd,Nat.reduceSub,wA,wB,wC,wD]
   exact rfl
  ·obtain⟨y,rfl⟩:∃y,z=y+1:=⟨z-1,by omega⟩
   have ri:Ran Tryz.prog tb a3K [tv (s++List.replicate (y+1) 0),tv [0]] m (iv ((0+s.length:Nat))) m:=b8x (b9l 0 (List.replicate y 0) hs) hne
   rw[Nat.zero_add] at ri
   have q1:=b99 (m:=m) (s++List.replicate (y+1) (0:UInt8)) (b:=s.length) (by rw[List.length_append];omega)
   rw[List.take_left] at q1
   have q2:=f9y (m:=m) (s++List.replicate (y+1) (0:UInt8)) (a:=s.length+1) (by rw[List.length_append,List.length_replicate];omega)
   have e2:(s++List.replicate (y+1) (0:UInt8)).drop (s.length+1)=List.replicate y 0:=by
    rw[List.drop_append,List.drop_eq_nil_of_le (by omega),List.nil_append,show s.length+1-s.length=1 by omega,List.drop_replicate];rfl
   rw[e2] at q2
   have hC:((s.length:Nat):Int)+((0+1:Nat):Int)=((s.length+1:Nat):Int):=rfl
   have e3:decide (0<y+1)=true:=decide_eq_true (by omega)
   rw[e3,show y+1-1=y by omega]
   refine WpF.go f0v ?_
   simp-implicitDefEqProofs only[f2q,b1p,b2Z,b1Y,e3F,ri.eq,show((0:Int)≤(s.length:Int))=True from eq_true (by omega),q1,show((1:Nat):Int)=(1:Int) from rfl,aD (s.length:Int) 1,show((s.length:Nat):Int)+1=((s.length+1:Nat):Int) from rfl,q2,↓reduceIte,Nat.reduceEqDiff,Nat.reduceAdd,exists_eq_left',wA,wB,wC,wD]
 have hcut2:Ran Tryz.prog tb b3i [tv (s++List.replicate z 0),tv [0]] m (.tuple [tv s,tv (List.replicate (z-1) 0),.b (decide (0<z))]) m:=by
  refine WpF.go g6D ?_
  simp-implicitDefEqProofs only[g7K,d9F,d8A,hcut.eq,↓reduceIte,Nat.reduceEqDiff,Nat.reduceAdd,List.getElem?_cons_succ,List.getElem?_cons_zero,wA,wB,wC,wD]
 refine WpF.go g5Y ?_
 simp-implicitDefEqProofs only[g7d,e5c,d5E,e8n,e8c,e7e,e6x,hspan.eq,hb2,hcut2.eq,(f9i (m:=m) (z-1) (by omega)).eq,↓reduceIte,Nat.reduceEqDiff,Nat.reduceAdd,List.getElem?_cons_succ,List.getElem?_cons_zero,wA,wB,wC,wD]
end
def ent(e:Nat×Bs):Bs:=(le 2 e.1++e.2)++List.replicate (16-(le 2 e.1++e.2).length) 0
structure EOk(e:Nat×Bs):Prop where
 i1:1≤e.1
 i2:e.1≤65535
 nm:Low e.2
theorem a1p{e:Nat×Bs}(h:EOk e):(ent e).length=16:=by
 have:=h.nm.2.1
 unfold ent
 simp only[List.length_append,List.length_replicate,y4]
 omega
theorem g0S{e:Nat×Bs}(h:EOk e):((ent e).drop 2).take 13=e.2++List.replicate (13-e.2.length) 0:=by
 have hl:=h.nm.2.1
 have h2:(le 2 e.1).length=2:=y4 2 e.1
 have e1:(ent e).drop 2=e.2++List.replicate (14-e.2.length) 0:=by
  unfold ent
  rw[List.append_assoc,List.drop_append,List.drop_of_length_le (by omega),List.nil_append,h2,List.length_append,h2]
  show List.drop 0 _=_
  rw[List.drop_zero,show 16-(2+e.2.length)=14-e.2.length by omega]
 rw[e1,List.take_append,List.take_of_length_le (by omega),List.take_replicate,show min (13-e.2.length) (14-e.2.length)=13-e.2.length by omega]
theorem g24{v:Nat}(h:v≤65535):ge (le 2 v)=v:=by
 have e:le 2 v= [UInt8.ofNat (v/2^(8*0)),UInt8.ofNat (v/2^(8*1))] :=rfl
 rw[e]
 show(UInt8.ofNat (v/1)).toNat+256*((UInt8.ofNat (v/256)).toNat+256*0)=v
 rw[UInt8.toNat_ofNat',UInt8.toNat_ofNat']
 omega
theorem g0d{e:Nat×Bs}(h:EOk e):ge (((ent e).drop 0).take 2)=e.1:=by
 have h2:(le 2 e.1).length=2:=y4 2 e.1
 have e1:((ent e).drop 0).take 2=le 2 e.1:=by
  unfold ent
  rw[List.drop_zero,List.append_assoc,List.take_append_of_le_length (by omega),List.take_of_length_le (by omega)]
 rw[e1,g24 h.i2]
section
variable {m0 m:M}
theorem WrAt.app{c:Nat}{bs s:Bs}(h:WrAt m0 m c bs)(hr:bs.length+s.length≤100000):∃x s3 m3 m4,m.rd c 0=some x∧v6 40 x x=true∧M5 l3 1 1 [.y 0] (.cst x) (.cst (tv s)) .leaf m=some (s3,m3)∧C1 s3=some [s3]∧m3.wr c 0 [s3] =some m4∧WrAt m0 m4 c (bs++s)∧y6 m m4 [uB,wrK] :=by
 obtain⟨x,o,h1,h2,h3⟩:=h.ex
 have hw:=h.kp.wf
 obtain⟨s3,m3,o3,e3,hS3,k3,ho3⟩:=h2.append (bytes:=1) (z:= [.y 0]) hw (e4H m s) (U1 (by omega) (by omega))
 have hoc:¬o=some c:=fun e=>by
  rw[e] at h2
  exact absurd (h2.kd.inj h1.kd) (by decide)
 have hA3:=h1.keep hw k3 hoc
 obtain⟨m4,e4,hA4,k4,n4⟩:=hA3.st k3.wf 0 [s3]
 have hlt3:∀b,o3=some b→b≠c∧m0.next≤b:=fun b hb=>by
  refine⟨fun e=> ?_,?_⟩
  ·subst e
   rw[hb] at hS3
   exact absurd (hS3.kd.inj hA3.kd) (by decide)
  ·rcases ho3 with e|⟨b',e,h5,_⟩
   ·exact h3 b (e▸hb)
   ·rw[e] at hb
    cases hb
    have:=h.kp.next
    omega
 refine⟨x,s3,m3,m4,by rw[h1.rd];rfl,h2.aq,e3,hS3.cl,e4,⟨((h.kp.trans k3 fun b hb e=>absurd (h3 b e) (by omega)).trans k4 fun b hb e=>absurd h.lo (by omega)),h.lo,s3,o3,hA4,?_,fun b hb=>(hlt3 b hb).2⟩,?_⟩
 ·rw[X1,List.length_append]
  exact hS3.keep k3.wf k4 fun b hb e=>(hlt3 b hb).1 e
 ·refine(k3.mono (G:=fun b=>o=some b∨b=c) fun _ _ h=> .inl h).trans k4 (fun b hb e=> .inr e)|>.mono fun b hb e=> ?_
  rcases e with e|e
  ·rw[e] at h2;exact .inl ⟨uB,by simp,h2.kd⟩
  ·subst e;exact .inl ⟨wrK,by simp,h1.kd⟩
set_option maxRecDepth 20000 in
theorem b71(hw:Wf m){e:Nat×Bs}(he:EOk e):∃m' x b,RowB m' x (ent e) b∧Keep m m' (fun _=>False)∧m.next≤b∧Ran Tryz.prog tb a6U [.agg [ivn e.1,tv e.2]] m (.tuple [x,iv 0]) m':=by
 have h1:=he.i1
 have h2:=he.i2
 have h3:=he.nm.2.1
 obtain⟨m1,e1,a1,k1,n1⟩:=l6 hw x7 2 [ivn e.1,tv e.2]
 obtain⟨m2,k2,r2⟩:=a4U k1.wf he.nm
 have k02:=k1.tf k2
 obtain⟨m3,e3,a3,k3,n3⟩:=l6 k2.wf a1e 2 [j7,iv 0]
 have k03:=k02.tf k3
 have hn2:=k02.next
 have w3:WrAt m m3 m2.next [] :=⟨k03,hn2,j7,none,a3,.nil,fun b hb=>by cases hb⟩
 obtain⟨m4,w4,k4,r4⟩:=cwn w3 (by show 0≤100000;omega) (w:=2) (v:=e.1) (by omega) (by show e.1<65536;omega)
 have b1:=(a1.keep k1.wf k2 id)
 have b3:=b1.keep k2.wf k3 id
 have b4:=b3.kp k03.wf k4
 rw[List.nil_append] at w4
 obtain⟨x,s5,m5,m6,q5,x5,e5,c5,e6,w6,k6⟩:=w4.app (s:=e.2) (by rw[y4];omega)
 obtain⟨m7,s7,b7,R7,k7,hb7,r7⟩:=whole w6 (n:=16) (by omega) (by rw[List.length_append,y4];omega) (by omega)
 refine⟨m7,s7,b7,R7,k7,hb7,?_⟩
 have q2:((2:Nat):Int)=2:=rfl
 have q16:((16:Nat):Int)=16:=rfl
 rw[q2] at r4
 rw[q16] at r7
 have hne:¬(e.1:Int)=0:=by omega
 refine WpF.go g5q ?_
 simp-implicitDefEqProofs only[g7L,d9l,e4Z,d7x,e3m,e02,e6t,d6M,e1,a1.rd,decide_eq_false hne,r2.eq,e3,b3.rd,r4.eq,q5,x5,b4.rd,e5,c5,e6,r7.eq,↓reduceIte,Nat.reduceEqDiff,Nat.reduceAdd,List.getElem?_cons_succ,List.getElem?_cons_zero,exists_eq_left',wA,wB,wC,wD]
theorem f7m{s1 s2:AV}{t:Bs}{b1 b2:Nat}{X:List AV}(hw:Wf m)(hX:X.length=2)(h1:BsAt m s1 t b1)(h2:BsAt m s2 t b2):
  ∃m',Keep m m' (fun _=>False)∧Ran Tryz.prog tb b3z [.agg X,s1,s2,iv 0] m (.tuple [.agg X,iv 0]) m':=by
 obtain⟨m1,e1,a1,k1,n1⟩:=l6 hw x7 2 X hX.symm
 obtain⟨m2,e2,a2,k2,n2⟩:=B0 k1.wf x7 2 [iv 0,tv []]
 have k02:=k1.tf k2
 have rb:=c3r (h1.keep hw k02 fun h=>h) (h2.keep hw k02 fun h=>h)
 rw[decide_eq_true rfl] at rb
 have a12:=a1.keep k1.wf k2 fun h=>h
 have q1:m2.rdN m.next 0 2=some X:=by rw[a12.rdN (by omega),List.drop_zero,List.take_of_length_le (by omega)]
 obtain⟨m3,e3,a3,k3,n3⟩:=a2.st k2.wf 0 X (l':=X) (by unfold z6;rw[List.take_zero,List.nil_append,List.drop_of_length_le (by simp[hX]),List.append_nil]) (by rw[hX];exact Nat.le_refl _)
 have q3:m3.rdN m1.next 0 2=some X:=by rw[a3.rdN (by omega),List.drop_zero,List.take_of_length_le (by omega)]
 refine⟨m3,k02.trans k3 fun b hb e=>by omega,?_⟩
 refine WpF.go g5z ?_
 simp-implicitDefEqProofs only[g7r,d4t,d4d,e5L,e1,e2,rb.eq,q1,hX,e3,↓reduceIte,Nat.reduceEqDiff,Nat.reduceAdd,wA,wB,wC,wD]
 rw[a2y (b:=m1.next) (off:=0) (n:=2) (l:=X) (by kernel_rfl) (by kernel_rfl) (by simp-implicitDefEqProofs only[d7,↓reduceIte,Nat.reduceEqDiff]) q3]
 simp-implicitDefEqProofs only[d7,↓reduceIte,and_self]
set_option maxRecDepth 20000 in
theorem f5V(hw:Wf m){e:Nat×Bs}(he:EOk e){b off cap:Nat}{lim:Bool}(h:BsAt m (.slice b off 16 cap lim) (ent e) b)(hcap:16≤cap):
  ∃m',Keep m m' (fun _=>False)∧Ran Tryz.prog tb b3c [.slice b off 16 cap lim] m (.tuple [.agg [ivn e.1,tv e.2],iv 0]) m':=by
 have hl:=a1p he
 have hb0:=h.lt hw
 obtain⟨m1,e1,a1,k1,n1⟩:=B0 hw x7 2 [iv 0,tv []]
 have r1:=f8N (h.keep hw k1 id) hl.symm hcap (by omega) (by omega) (g0S he) fun c hc=>by have:=(he.nm.2.2 c hc).1;omega
 obtain⟨m2,e2,a2,k2,n2⟩:=l6 k1.wf J2 2 [.slice b off 16 cap lim,iv ((0:Nat):Int)]
 have k02:=k1.tf k2
 obtain⟨m3,a3,k3,r3⟩:=crn (at':=0) (w:=2) k2.wf a2 (h.keep hw k02 id) hl.symm hcap (by omega) (by omega) (by omega)
 rw[g0d he] at r3
 have k03:Keep m m3 fun _=>False:=k02.trans k3 fun b hb e=>by omega
 obtain⟨m4,e4,a4,k4,n4⟩:=B0 k03.wf x7 2 [iv 0,tv []]
 obtain⟨m5,e5,a5,k5,n5⟩:=a4.st k4.wf 0 [ivn e.1,tv e.2] (l':= [ivn e.1,tv e.2])
 have hn3:=k03.next
 have k05:Keep m m5 fun _=>False:=(k03.tf k4).trans k5 fun b hb e=>by omega
 obtain⟨m6,s6,b6,R6,k6,hb6,r6⟩:=b71 k05.wf he
 have k06:=k05.tf k6
 have a6:=a5.keep k05.wf k6 id
 obtain⟨m7,k7,r7⟩:=f7m (X:= [ivn e.1,tv e.2]) k06.wf rfl (h.keep hw k06 id) R6.bs
 have hq3:m1.next≤m3.next:=by have:=k2.next;have:=k3.next;omega
 have k17:Keep m1 m7 fun _=>False:=by
  have t1:Keep m1 m5 fun _=>False:=((k2.trans k3 fun b hb e=>by omega).tf k4).trans k5 fun b hb e=>by omega
  exact(t1.tf k6).tf k7
 obtain⟨m8,e8,a8,k8,n8⟩:=(a1.keep k1.wf k17 id).st k17.wf 0 [ivn e.1,tv e.2] (l':= [ivn e.1,tv e.2])
 have L5:m5.rdN m3.next 0 2=some [ivn e.1,tv e.2] :=a5.rdN (by show 0+2≤2;omega)
 have L6:m6.rdN m3.next 0 2=some [ivn e.1,tv e.2] :=a6.rdN (by show 0+2≤2;omega)
 have L8:m8.rdN m.next 0 2=some [ivn e.1,tv e.2] :=a8.rdN (by show 0+2≤2;omega)
 refine⟨m8,(k1.tf k17).trans k8 fun b hb e=>by omega,?_⟩
 have q2:((2:Nat):Int)=2:=rfl
 have q16:((16:Nat):Int)=16:=rfl
 rw[q2] at r3
 rw[nc0] at e2
 refine WpF.go g6k ?_
 simp-implicitDefEqProofs only[g7o,e2h,e5N,e7z,d7F,e9Y,e1k,e0u,e88,e1,q16,r1.eq,e2,r3.eq,e4,e5,L5,r6.eq,L6,r7.eq,e8,↓reduceIte,Nat.reduceEqDiff,Nat.reduceAdd,Nat.reduceLeDiff,List.getElem?_cons_succ,List.getElem?_cons_zero,wA,wB,wC,wD]
 rw[a2y (b:=m.next) (off:=0) (n:=2) (l:= [ivn e.1,tv e.2]) (by kernel_rfl) (by kernel_rfl) (by simp-implicitDefEqProofs only[d7,↓reduceIte,Nat.reduceEqDiff]) L8]
 simp-implicitDefEqProofs only[d7,↓reduceIte,and_self]
end
end Go.Proofs.YtooooiidpaecmaaGreatDoor
