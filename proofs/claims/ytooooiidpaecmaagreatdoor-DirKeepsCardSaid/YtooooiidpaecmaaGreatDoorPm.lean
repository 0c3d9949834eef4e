import Derived.Test.YtooooiidpaecmaaGreatDoorJs
/- The bytes of files, without a machine. -/
set_option linter.unusedVariables false
set_option linter.unusedSimpArgs false
namespace Go.Am
def u7(S:PS)(x:Ino)(k:Nat):Bk:=if nd S x (i5 k)=0 then z64 else(S.rd (nd S x (i5 k))).getD []
def fby(S:PS)(x:Ino)(o:Nat):UInt8:=(u7 S x (o/64)).getD (o % 64) 0
def Dat(S:PS)(I:List Nat)(X:Nat→Ino):Prop:=∀i∈I,∀k,k≤1063→nd S (X i) (i5 k)≠0→∃t,S.rd (nd S (X i) (i5 k))=some t∧t.length=64
theorem c38(j:Nat):z64.getD j 0=0:=by
 unfold z64
 rw[List.getD_eq_getElem?_getD,List.getElem?_replicate]
 split<;>rfl
theorem e91:z64.length=64:=List.length_replicate
section
variable {S T U:PS} {I:List Nat} {X Y:Nat→Ino} {i k:Nat}
theorem Dat.blk(h:Dat S I X)(hi:i∈I)(hk:k≤1063):(u7 S (X i) k).length=64:=by
 unfold u7
 by_cases h0:nd S (X i) (i5 k)=0
 ·rw[if_pos h0,e91]
 ·obtain⟨t,h1,h2⟩:=h i hi k hk h0
  rw[if_neg h0,h1];exact h2
theorem Dat.rd(h:Dat S I X)(hi:i∈I)(hk:k≤1063)(h0:nd S (X i) (i5 k)≠0):S.rd (nd S (X i) (i5 k))=some (u7 S (X i) k):=by
 obtain⟨t,h1,h2⟩:=h i hi k hk h0
 unfold u7
 rw[if_neg h0,h1];rfl
theorem Inv.wrd(h:Inv T I Y)(hi:i∈I)(hk:k≤1063){b:Nat}(hb:nd T (Y i) (i5 k)=b)(h0:b≠0)(u:Bk):
  Inv (T.wr b u) I Y∧(∀j∈I,∀p:Pa,p.ok→nd (T.wr b u) (Y j) p=nd T (Y j) p):=by
 obtain⟨o1,o2⟩:=E8 hk
 have hr:=h.rng hi o1 (by omega)
 refine h.same (fun j hj=>PS.wr_ne _ _ ?_) (fun j hj p hp hin hp0=>PS.wr_ne _ _ fun e=> ?_) ?_
 ·have:=(h.ino j hj).1
  omega
 ·have:=(h.inj j hj i hi p (i5 k) hp o1 hp0 (by omega)).2
  exact o2 (this▸hin)
 ·obtain⟨t,g1,g2,g3⟩:=h.bm
  exact⟨t,t,g1,by rw[PS.wr_ne _ _ (by omega)];exact g1,rfl,fun _ _ _ _ _ e=>e⟩
structure Wrd(S:PS)(I:List Nat)(X:Nat→Ino)(T:PS)(Y:Nat→Ino)(i k:Nat)(u:Bk):Prop where
 inv:Inv T I Y
 dat:Dat T I Y
 same:∀j∈I,(Y j).kind=(X j).kind∧(Y j).links=(X j).links∧(Y j).size=(X j).size
 lf:∀j∈I,∀n,n≤1063→¬(j=i∧n=k)→nd T (Y j) (i5 n)=nd S (X j) (i5 n)
 nz:nd T (Y i) (i5 k)≠0
 old:nd S (X i) (i5 k)≠0→nd T (Y i) (i5 k)=nd S (X i) (i5 k)
 bl:∀j∈I,∀n,n≤1063→u7 T (Y j) n=if j=i∧n=k then u else u7 S (X j) n
theorem Wrd.of(hS:Inv S I X)(hD:Dat S I X)(hM:Mk I S X T Y i (i5 k))(hi:i∈I)(hk:k≤1063){b:Nat}(hb:nd T (Y i) (i5 k)=b)(h0:b≠0){u:Bk}(hu:u.length=64):Wrd S I X (T.wr b u) Y i k u:=by
 obtain⟨o1,o2⟩:=E8 hk
 obtain⟨hV,hn⟩:=hM.inv.wrd hi hk hb h0 u
 have lf:∀j∈I,∀n,n≤1063→¬(j=i∧n=k)→nd (T.wr b u) (Y j) (i5 n)=nd S (X j) (i5 n):=fun j hj n hn' hne=>by
  obtain⟨q1,q2⟩:=E8 hn'
  rw[hn j hj _ q1,hM.leaf j hj _ q1 q2 fun⟨e1,e2⟩=>hne ⟨e1,b41 e2⟩]
 have hrd:∀j∈I,∀n,n≤1063→¬(j=i∧n=k)→nd S (X j) (i5 n)≠0→(T.wr b u).rd (nd S (X j) (i5 n))=S.rd (nd S (X j) (i5 n)):=fun j hj n hn' hne hz=>by
  obtain⟨q1,q2⟩:=E8 hn'
  have hold:=hM.old j hj _ q1 hz
  rw[PS.wr_ne _ _ fun e=> ?_]
  ·refine hM.dat _ (hS.rng hj q1 hz).1 fun j' hj' p hp hin e=> ?_
   have h1:nd T (Y j) (i5 n)=nd T (Y j') p:=by rw[hold,e]
   have:=(hM.inv.inj j hj j' hj' _ p q1 hp (by rw[hold];exact hz) h1).2
   exact q2 (this▸hin)
  ·have h1:nd T (Y j) (i5 n)=nd T (Y i) (i5 k):=by rw[hold,e,hb]
   obtain⟨e1,e2⟩:=hM.inv.inj j hj i hi _ _ q1 o1 (by rw[hold];exact hz) h1
   exact hne ⟨e1,b41 e2⟩
 have hnk:nd (T.wr b u) (Y i) (i5 k)=b:=by rw[hn i hi _ o1,hb]
 refine⟨hV,fun j hj n hn' hz=> ?_,hM.same,lf,by rw[hnk];exact h0,fun hz=>by rw[hnk,←hb];exact hM.old i hi _ o1 hz,fun j hj n hn'=> ?_⟩
 ·by_cases hne:j=i∧n=k
  ·obtain⟨rfl,rfl⟩:=hne
   rw[hnk,PS.wr_eq]
   exact⟨u,rfl,hu⟩
  ·rw[lf j hj n hn' hne] at hz⊢
   rw[hrd j hj n hn' hne hz]
   exact hD j hj n hn' hz
 ·by_cases hne:j=i∧n=k
  ·obtain⟨rfl,rfl⟩:=hne
   rw[if_pos ⟨rfl,rfl⟩]
   unfold u7
   rw[hnk,if_neg h0,PS.wr_eq];rfl
  ·rw[if_neg hne]
   unfold u7
   rw[lf j hj n hn' hne]
   by_cases hz:nd S (X j) (i5 n)=0
   ·rw[if_pos hz,if_pos hz]
   ·rw[if_neg hz,if_neg hz,hrd j hj n hn' hne hz]
structure Wrs(S:PS)(I:List Nat)(X:Nat→Ino)(T:PS)(Y:Nat→Ino)(i at':Nat)(d:Bk)(a:Nat):Prop where
 inv:Inv T I Y
 dat:Dat T I Y
 same:∀j∈I,(Y j).kind=(X j).kind∧(Y j).links=(X j).links∧(Y j).size=(X j).size
 oth:∀j∈I,j≠i→∀n,n≤1063→nd T (Y j) (i5 n)=nd S (X j) (i5 n)∧u7 T (Y j) n=u7 S (X j) n
 old:∀n,n≤1063→nd S (X i) (i5 n)≠0→nd T (Y i) (i5 n)=nd S (X i) (i5 n)
 zr:∀n,n≤1063→(nd T (Y i) (i5 n)=0↔nd S (X i) (i5 n)=0∧¬(0<a∧at'<64*n+64∧64*n<at'+a))
 by':∀o,o<68096→fby T (Y i) o=if at'≤o∧o<at'+a then d.getD (o-at') 0 else fby S (X i) o
theorem Wrs.zero(h:Inv S I X)(hD:Dat S I X)(i at':Nat)(d:Bk):Wrs S I X S X i at' d 0:=
 ⟨h,hD,fun _ _=>⟨rfl,rfl,rfl⟩,fun _ _ _ _ _=>⟨rfl,rfl⟩,fun _ _ _=>rfl,fun n _=>⟨fun e=>⟨e,fun e=>by omega⟩,fun e=>e.1⟩,fun o _=>by rw[if_neg (by omega)]⟩
theorem Wrs.next{V:PS}{Z:Nat→Ino}{at' a c:Nat}{d:Bk}(h:Wrs S I X T Y i at' d a)(hi:i∈I)(hk:(at'+a)/64=k)(hk':k≤1063)(hc:0<c)(hc2:(at'+a) % 64+c≤64)(hc3:a+c≤d.length)
  (hw:Wrd T I Y V Z i k (spl (u7 T (Y i) k) ((at'+a) % 64) ((d.drop a).take c))) (hb:(a=0∨(at'+a) % 64=0)):Wrs S I X V Z i at' d (a+c):=by
 have hlen:((d.drop a).take c).length=c:=by rw[List.length_take,List.length_drop];omega
 refine⟨hw.inv,hw.dat,fun j hj=> ?_,fun j hj hji n hn=> ?_,fun n hn h0=> ?_,fun n hn=> ?_,fun o ho=> ?_⟩
 ·obtain⟨a1,a2,a3⟩:=h.same j hj
  obtain⟨b1,b2,b3⟩:=hw.same j hj
  exact⟨b1.trans a1,b2.trans a2,b3.trans a3⟩
 ·obtain⟨a1,a2⟩:=h.oth j hj hji n hn
  rw[hw.lf j hj n hn (fun e=>hji e.1),hw.bl j hj n hn,if_neg (fun e=>hji e.1)]
  exact⟨a1,a2⟩
 ·have h1:=h.old n hn h0
  by_cases hnk:n=k
  ·subst hnk
   rw[hw.old (by rw[h1];exact h0),h1]
  ·rw[hw.lf i hi n hn (fun e=>hnk e.2),h1]
 ·by_cases hnk:n=k
  ·subst hnk
   constructor
   ·intro e;exact absurd e hw.nz
   ·rintro⟨_,e⟩
    exact absurd ⟨by omega,by omega,by omega⟩ e
  ·rw[hw.lf i hi n hn (fun e=>hnk e.2),h.zr n hn]
   constructor
   ·rintro⟨e1,e2⟩
    refine⟨e1,fun⟨e3,e4,e5⟩=> ?_⟩
    rcases hb with hb|hb
    ·subst hb;omega
    ·exact e2 ⟨by omega,by omega,by omega⟩
   ·rintro⟨e1,e2⟩
    exact⟨e1,fun⟨e3,e4,e5⟩=>e2 ⟨by omega,e4,by omega⟩⟩
 ·have hbl:=h.dat.blk hi hk'
  unfold fby
  rw[hw.bl i hi _ (by omega)]
  by_cases hnk:o/64=k
  ·rw[if_pos ⟨rfl,hnk⟩,List.getD_eq_getElem?_getD,a0u (by rw[hlen,hbl];exact hc2),hlen]
   by_cases h1:(at'+a) % 64≤o % 64∧o % 64<(at'+a) % 64+c
   ·rw[if_pos h1,if_pos (by omega),List.getElem?_take,if_pos (by omega),List.getElem?_drop,List.getD_eq_getElem?_getD]
    congr 2
    omega
   ·rw[if_neg h1]
    have:=h.by' o ho
    unfold fby at this
    rw[hnk] at this
    rw[←List.getD_eq_getElem?_getD,this]
    by_cases h2:at'≤o∧o<at'+a
    ·rw[if_pos h2,if_pos (by omega)]
    ·rw[if_neg h2,if_neg (by omega),hnk]
  ·rw[if_neg fun e=>hnk e.2]
   have:=h.by' o ho
   unfold fby at this
   rw[this]
   by_cases h2:at'≤o∧o<at'+a
   ·rw[if_pos h2,if_pos (by omega)]
   ·rw[if_neg h2,if_neg (by omega)]
end
end Go.Am
/- Blocks of a file that are freed, without a machine. -/
namespace Go.Am
section
variable {S T U V:PS} {I:List Nat} {X Y Z:Nat→Ino} {i k:Nat}
structure Pr(I:List Nat)(S:PS)(X:Nat→Ino)(T:PS)(Y:Nat→Ino)(i:Nat)(D:Pa→Prop):Prop where
 inv:Inv T I Y
 same:∀j∈I,(Y j).kind=(X j).kind∧(Y j).links=(X j).links∧(Y j).size=(X j).size
 off:∀q:Pa,q.ok→D q→nd T (Y i) q=0
 on:∀j∈I,∀q:Pa,q.ok→¬(j=i∧D q)→nd T (Y j) q=nd S (X j) q
 dat:∀b,37≤b→(∀q:Pa,q.ok→D q→nd S (X i) q≠b)→(∀j∈I,∀q:Pa,q.ok→q.inn→nd S (X j) q≠b)→T.rd b=S.rd b
 cnt:o9 T≤o9 S
def Pa.first:Pa→Nat
 | .r k=>if k=9 then 40 else k
 | .s k a=>if k=9 then 40+32*a else 8+a
 | .t a b=>40+32*a+b
def Pa.sub(q r:Pa):Prop:=r=q∨r.up=some q∨∃w,r.up=some w∧w.up=some q
theorem sub_zero{q r:Pa}(hq:q.ok)(hr:r.ok)(h:q.sub r){S:PS}{x:Ino}(h0:nd S x q=0):nd S x r=0:=by
 have up0:∀{a b:Pa},a.up=some b→nd S x b=0→nd S x a=0:=fun e h=>by rw[P5 S x e,h,a0b]
 rcases h with rfl|h|⟨w,h1,h2⟩
 ·exact h0
 ·exact up0 h h0
 ·exact up0 h1 (up0 h2 h0)
structure Ctd(S:PS)(I:List Nat)(X:Nat→Ino)(T:PS)(Y:Nat→Ino)(i keep:Nat):Prop where
 inv:Inv T I Y
 dat:Dat T I Y
 same:∀j∈I,(Y j).kind=(X j).kind∧(Y j).links=(X j).links∧(Y j).size=(X j).size
 lf:∀j∈I,∀n,n≤1063→nd T (Y j) (i5 n)=if j=i∧keep≤n then 0 else nd S (X j) (i5 n)
 bl:∀j∈I,∀n,n≤1063→u7 T (Y j) n=if j=i∧keep≤n then z64 else u7 S (X j) n
 cnt:o9 T≤o9 S
 inn:∀q:Pa,q.ok→keep≤q.first→nd T (Y i) q=0
end
end Go.Am
/- An inode that is put, without a machine. -/
namespace Go.Am
section
variable {S T U V:PS} {I:List Nat} {X Y Z:Nat→Ino} {i k:Nat}
theorem f2I(S:PS){x y:Ino}(h:x.ps=y.ps):∀p:Pa,nd S x p=nd S y p
 | .r k=>by show x.ps.getD k 0=y.ps.getD k 0;rw[h]
 | .s k a=>by show ptz S (x.ps.getD k 0) a=ptz S (y.ps.getD k 0) a;rw[h]
 | .t a b=>by show ptz S (ptz S (x.ps.getD 9 0) a) b=ptz S (ptz S (y.ps.getD 9 0) a) b;rw[h]
structure Ptd(S:PS)(I:List Nat)(X:Nat→Ino)(T:PS)(i:Nat)(x':Ino):Prop where
 inv:Inv T I (upx X i x')
 nd':∀j∈I,∀p:Pa,p.ok→nd T (upx X i x' j) p=nd S (X j) p
 rd':∀b,37≤b→T.rd b=S.rd b
 cnt:o9 T≤o9 S
theorem Ptd.of(h:Inv S I X)(hi:i∈I){t:Bk}(ht:S.rd (34+i/2)=some t)(hl:t.length=64){x':Ino}(hxo:x'.Ok)(hps:x'.ps=(X i).ps):Ptd S I X (S.wr (34+i/2) (spl t (32*(i % 2)) (enc x'))) i x':=by
 have hi6:=(h.ino i hi).1
 obtain⟨p1,p2⟩:=InoAt.put hxo.len ht hl (i:=i) (y:=x') (x:=x')
 have hr:∀b,37≤b→(S.wr (34+i/2) (spl t (32*(i % 2)) (enc x'))).rd b=S.rd b:=fun b hb=>PS.wr_ne _ _ (by omega)
 have h33:(S.wr (34+i/2) (spl t (32*(i % 2)) (enc x'))).rd 33=S.rd 33:=PS.wr_ne _ _ (by omega)
 have hc:=a18 (S:=S) (b:=34+i/2) (by omega) (spl t (32*(i % 2)) (enc x'))
 generalize S.wr (34+i/2) (spl t (32*(i % 2)) (enc x'))=V at*
 have hn:∀j∈I,∀p:Pa,p.ok→nd V (upx X i x' j) p=nd S (X j) p:=fun j hj p hp=>by
  have e1:nd V (X j) p=nd S (X j) p:=a8a (fun q hq hin h0=>hr _ (h.rng hj hq h0).1) p hp
  by_cases hji:j=i
  ·subst hji
   rw[X3,f2I V hps,e1]
  ·rw[Y5 _ _ hji,e1]
 refine⟨⟨fun j hj=> ?_,?_,fun j hj j2 hj2 p q hp hq h0 he=> ?_,fun j hj p hp hin h0=> ?_⟩,hn,hr,hc⟩
 ·by_cases hji:j=i
  ·subst hji
   rw[X3]
   exact⟨hi6,p1,hxo⟩
  ·rw[Y5 _ _ hji]
   obtain⟨a1,a2,a3⟩:=h.ino j hj
   exact⟨a1,p2 j _ hji a2,a3⟩
 ·obtain⟨u,g1,g2,g3⟩:=h.bm
  refine⟨u,h33.trans g1,g2,fun j hj p hp h0=> ?_⟩
  rw[hn j hj p hp] at h0⊢
  exact g3 j hj p hp h0
 ·rw[hn j hj p hp] at h0 he
  rw[hn j2 hj2 q hq] at he
  exact h.inj j hj j2 hj2 p q hp hq h0 he
 ·rw[hn j hj p hp] at h0⊢
  rw[hr _ (h.rng hj hp h0).1]
  exact h.blk j hj p hp hin h0
theorem Ptd.bl{x':Ino}(h:Ptd S I X T i x')(hS:Inv S I X){j n:Nat}(hj:j∈I)(hn:n≤1063):u7 T (upx X i x' j) n=u7 S (X j) n:=by
 obtain⟨o1,o2⟩:=E8 hn
 unfold u7
 rw[h.nd' j hj _ o1]
 by_cases h0:nd S (X j) (i5 n)=0
 ·rw[if_pos h0,if_pos h0]
 ·rw[if_neg h0,if_neg h0,h.rd' _ (hS.rng hj o1 h0).1]
theorem Ptd.dat{x':Ino}(h:Ptd S I X T i x')(hS:Inv S I X)(hD:Dat S I X):Dat T I (upx X i x'):=fun j hj n hn h0=>by
 obtain⟨o1,o2⟩:=E8 hn
 rw[h.nd' j hj _ o1] at h0⊢
 rw[h.rd' _ (hS.rng hj o1 h0).1]
 exact hD j hj n hn h0
end
end Go.Am
/- Files as bytes, without a machine. -/
namespace Go.Am
section
variable {S T U V:PS} {I:List Nat} {X Y Z:Nat→Ino} {i k:Nat}
structure FS(S:PS)(I:List Nat)(X:Nat→Ino):Prop where
 inv:Inv S I X
 dat:Dat S I X
 tz:∀i∈I,∀o,o<68096→(X i).size≤o→fby S (X i) o=0
 sz:∀i∈I,(X i).size≤68096
theorem a9O{x y:Ino}{o:Nat}(h:u7 T y (o/64)=u7 S x (o/64)):fby T y o=fby S x o:=by unfold fby;rw[h]
def clr(t:Bk)(a:Nat):Bk:=t.take a++List.replicate (64-a) 0
theorem c0p{t:Bk}{a:Nat}(h:t.length=64)(ha:a≤64):(clr t a).length=64:=by
 unfold clr
 rw[List.length_append,List.length_take,List.length_replicate];omega
theorem e8i{t:Bk}{a:Nat}(h:t.length=64)(ha:a≤64)(j:Nat):(clr t a).getD j 0=if a≤j then 0 else t.getD j 0:=by
 unfold clr
 rw[List.getD_eq_getElem?_getD,List.getD_eq_getElem?_getD]
 by_cases h1:j<a
 ·rw[List.getElem?_append_left (by rw[List.length_take];omega),List.getElem?_take,if_pos h1,if_neg (by omega)]
 ·rw[List.getElem?_append_right (by rw[List.length_take];omega),if_pos (by omega),List.getElem?_replicate]
  split<;>rfl
structure Tld(S:PS)(I:List Nat)(X:Nat→Ino)(T:PS)(i s:Nat):Prop where
 inv:Inv T I X
 dat:Dat T I X
 lf:∀j∈I,∀n,n≤1063→nd T (X j) (i5 n)=nd S (X j) (i5 n)
 bl:∀j∈I,∀n,n≤1063→¬(j=i∧n=s/64)→u7 T (X j) n=u7 S (X j) n
 by':∀o,o<68096→fby T (X i) o=if s≤o∧o/64=s/64∧s % 64≠0 then 0 else fby S (X i) o
 cnt:o9 T≤o9 S
theorem Tld.none(h:Inv S I X)(hD:Dat S I X)(hi:i∈I){s:Nat}(hs:s % 64=0∨nd S (X i) (i5 (s/64))=0):Tld S I X S i s:=
 ⟨h,hD,fun _ _ _ _=>rfl,fun _ _ _ _ _=>rfl,fun o ho=>by
  by_cases hc:s≤o∧o/64=s/64∧s % 64≠0
  ·rw[if_pos hc]
   rcases hs with hs|hs
   ·exact absurd hs hc.2.2
   ·unfold fby u7
    rw[hc.2.1,if_pos hs,c38]
  ·rw[if_neg hc],Nat.le_refl _⟩
theorem Tld.of(h:Inv S I X)(hD:Dat S I X)(hi:i∈I){s:Nat}(hs:s<68096)(hs0:s % 64≠0)(h0:nd S (X i) (i5 (s/64))≠0):Tld S I X (S.wr (nd S (X i) (i5 (s/64))) (clr (u7 S (X i) (s/64)) (s % 64))) i s:=by
 have hk:s/64≤1063:=by omega
 have hbl:=hD.blk hi hk
 have hw:=Wrd.of h hD (Mk.refl h) hi hk rfl h0 (u:=clr (u7 S (X i) (s/64)) (s % 64)) (c0p hbl (by omega))
 have hr:=h.rng hi (E8 hk).1 h0
 refine⟨hw.inv,hw.dat,fun j hj n hn=> ?_,fun j hj n hn hne=> ?_,fun o ho=> ?_,a18 (by omega) _⟩
 ·by_cases hc:j=i∧n=s/64
  ·obtain⟨rfl,rfl⟩:=hc
   exact hw.old h0
  ·exact hw.lf j hj n hn hc
 ·rw[hw.bl j hj n hn,if_neg hne]
 ·unfold fby
  rw[hw.bl i hi _ (by omega)]
  by_cases hc:o/64=s/64
  ·rw[if_pos ⟨rfl,hc⟩,e8i hbl (by omega),hc]
   by_cases h1:s % 64≤o % 64
   ·rw[if_pos h1,if_pos ⟨by omega,rfl,hs0⟩]
   ·rw[if_neg h1,if_neg (by omega)]
  ·rw[if_neg fun e=>hc e.2,if_neg fun e=>hc e.2.1]
theorem Tld.fs(h:Tld S I X T i (X i).size)(hS:FS S I X)(hi:i∈I):FS T I X∧∀j∈I,∀o,o<68096→fby T (X j) o=fby S (X j) o:=by
 have hb:∀j∈I,∀o,o<68096→fby T (X j) o=fby S (X j) o:=fun j hj o ho=>by
  by_cases hji:j=i
  ·subst hji
   rw[h.by' o ho]
   by_cases hc:(X j).size≤o∧o/64=(X j).size/64∧(X j).size % 64≠0
   ·rw[if_pos hc,hS.tz j hj o ho hc.1]
   ·rw[if_neg hc]
  ·exact a9O (h.bl j hj _ (by omega) fun e=>hji e.1)
 exact⟨⟨h.inv,h.dat,fun j hj o ho hs=>by rw[hb j hj o ho];exact hS.tz j hj o ho hs,hS.sz⟩,hb⟩
def npc(at' a:Nat):Nat:=if a=0 then 0 else(at'+a-1)/64-at'/64+1
theorem e7R{at' a c:Nat}(hc:0<c)(hc2:(at'+a) % 64+c≤64)(hb:a=0∨(at'+a) % 64=0):npc at' (a+c)=npc at' a+1:=by
 unfold npc
 rw[if_neg (show ¬a+c=0 by omega)]
 by_cases h0:a=0
 ·subst h0
  rw[if_pos rfl];omega
 ·rw[if_neg h0]
  have:=hb.resolve_left h0
  omega
structure Wrt(S:PS)(I:List Nat)(X:Nat→Ino)(T:PS)(Y:Nat→Ino)(i at':Nat)(d:Bk):Prop where
 fs:FS T I Y
 sz:(Y i).size=max (X i).size (at'+d.length)
 kl:∀j∈I,(Y j).kind=(X j).kind∧(Y j).links=(X j).links
 osz:∀j∈I,j≠i→(Y j).size=(X j).size
 oth:∀j∈I,j≠i→∀n,n≤1063→nd T (Y j) (i5 n)=nd S (X j) (i5 n)∧∀o,o<68096→fby T (Y j) o=fby S (X j) o
 zr:∀n,n≤1063→(nd T (Y i) (i5 n)=0↔nd S (X i) (i5 n)=0∧¬(at'<64*n+64∧64*n<at'+d.length))
 by':∀o,o<68096→fby T (Y i) o=if at'≤o∧o<at'+d.length then d.getD (o-at') 0 else fby S (X i) o
theorem Wrt.of{R:PS}{at':Nat}{d:Bk}(hS:FS S I X)(hi:i∈I)(h1:at'+d.length≤(X i).size∧R=S∨(X i).size<at'+d.length∧Tld S I X R i (X i).size)(h2:Wrs R I X U Z i at' d d.length)(h0:d≠[])(hmx:at'+d.length≤68096)
  (h3:(at'+d.length≤(X i).size∧T=U∧Y=Z)∨((X i).size<at'+d.length∧Ptd U I Z T i {Z i with size:=at'+d.length}∧Y=upx Z i {Z i with size:=at'+d.length})):Wrt S I X T Y i at' d:=by
 have hd:0<d.length:=List.length_pos_iff.2 h0
 have hR:FS R I X∧(∀j∈I,∀o,o<68096→fby R (X j) o=fby S (X j) o)∧∀j∈I,∀n,n≤1063→nd R (X j) (i5 n)=nd S (X j) (i5 n):=by
  rcases h1 with⟨_,rfl⟩|⟨_,h1⟩
  ·exact⟨hS,fun _ _ _ _=>rfl,fun _ _ _ _=>rfl⟩
  ·obtain⟨a,b⟩:=h1.fs hS hi
   exact⟨a,b,h1.lf⟩
 obtain⟨r1,r2,r3⟩:=hR
 have hT:Inv T I Y∧Dat T I Y∧(∀j∈I,∀n,n≤1063→nd T (Y j) (i5 n)=nd U (Z j) (i5 n))∧(∀j∈I,∀o,o<68096→fby T (Y j) o=fby U (Z j) o)∧(∀j∈I,(Y j).kind=(Z j).kind∧(Y j).links=(Z j).links)∧(∀j∈I,j≠i→(Y j).size=(Z j).size)∧(Y i).size=max (X i).size (at'+d.length):=by
  rcases h3 with⟨e,rfl,rfl⟩|⟨e,h3,rfl⟩
  ·exact⟨h2.inv,h2.dat,fun _ _ _ _=>rfl,fun _ _ _ _=>rfl,fun _ _=>⟨rfl,rfl⟩,fun _ _ _=>rfl,by rw[(h2.same i hi).2.2];omega⟩
  ·refine⟨h3.inv,h3.dat h2.inv h2.dat,fun j hj n hn=>h3.nd' j hj _ (E8 hn).1,fun j hj o ho=>a9O (h3.bl h2.inv hj (by omega)),fun j hj=> ?_,fun j hj hji=>by rw[Y5 _ _ hji],by rw[X3];show at'+d.length=_;omega⟩
   by_cases hji:j=i
   ·subst hji;rw[X3];exact⟨rfl,rfl⟩
   ·rw[Y5 _ _ hji];exact⟨rfl,rfl⟩
 obtain⟨t1,t2,t3,t4,t5,t6,t7⟩:=hT
 have hby:∀o,o<68096→fby T (Y i) o=if at'≤o∧o<at'+d.length then d.getD (o-at') 0 else fby S (X i) o:=fun o ho=>by rw[t4 i hi o ho,h2.by' o ho,r2 i hi o ho]
 have hoth:∀j∈I,j≠i→∀o,o<68096→fby T (Y j) o=fby S (X j) o:=fun j hj hji o ho=>by
  rw[t4 j hj o ho,a9O (h2.oth j hj hji (o/64) (by omega)).2,r2 j hj o ho]
 have hosz:∀j∈I,j≠i→(Y j).size=(X j).size:=fun j hj hji=>(t6 j hj hji).trans (h2.same j hj).2.2
 refine⟨⟨t1,t2,fun j hj o ho hs=> ?_,fun j hj=> ?_⟩,t7,fun j hj=> ?_,hosz,fun j hj hji n hn=>⟨?_,hoth j hj hji⟩,fun n hn=> ?_,hby⟩
 ·by_cases hji:j=i
  ·subst hji
   rw[hby o ho,if_neg (by omega)]
   exact hS.tz j hj o ho (by omega)
  ·rw[hoth j hj hji o ho]
   exact hS.tz j hj o ho (by rw[←hosz j hj hji];exact hs)
 ·by_cases hji:j=i
  ·subst hji
   have:=hS.sz j hj
   omega
  ·rw[hosz j hj hji];exact hS.sz j hj
 ·obtain⟨a,b⟩:=t5 j hj
  obtain⟨a2,b2,_⟩:=h2.same j hj
  exact⟨a.trans a2,b.trans b2⟩
 ·rw[t3 j hj n hn,(h2.oth j hj hji n hn).1,r3 j hj n hn]
 ·rw[t3 i hi n hn,h2.zr n hn,r3 i hi n hn]
  constructor
  ·rintro⟨a,b⟩;exact⟨a,fun e=>b ⟨hd,e.1,e.2⟩⟩
  ·rintro⟨a,b⟩;exact⟨a,fun e=>b ⟨e.2.1,e.2.2⟩⟩
structure Trt(S:PS)(I:List Nat)(X:Nat→Ino)(T:PS)(Y:Nat→Ino)(i s:Nat):Prop where
 fs:FS T I Y
 sz:(Y i).size=s
 kl:∀j∈I,(Y j).kind=(X j).kind∧(Y j).links=(X j).links
 osz:∀j∈I,j≠i→(Y j).size=(X j).size
 oth:∀j∈I,j≠i→∀n,n≤1063→nd T (Y j) (i5 n)=nd S (X j) (i5 n)∧∀o,o<68096→fby T (Y j) o=fby S (X j) o
 lf:∀n,n≤1063→nd T (Y i) (i5 n)=if s≤64*n then 0 else nd S (X i) (i5 n)
 by':∀o,o<68096→fby T (Y i) o=if s≤o then 0 else fby S (X i) o
 cnt:o9 T≤o9 S
 inn:∀q:Pa,q.ok→s≤64*q.first→nd T (Y i) q=0
end
end Go.Am
/- What is read of a file, without a machine. -/
namespace Go.Am
def rdF(S:PS)(x:Ino)(at' n:Nat):Bk:=(List.range n).map fun j=>fby S x (at'+j)
theorem O2(S:PS)(x:Ino)(at' n:Nat):(rdF S x at' n).length=n:=by unfold rdF;rw[List.length_map,List.length_range]
theorem a0s(S:PS)(x:Ino)(at' n:Nat){j:Nat}(h:j<n):(rdF S x at' n)[j]? =some (fby S x (at'+j)):=by
 unfold rdF
 rw[List.getElem?_map,List.getElem?_range h];rfl
theorem e60(S:PS)(x:Ino)(at':Nat):rdF S x at' 0= [] :=rfl
theorem e61{S:PS}{x:Ino}{at' a c k f:Nat}(hk:(at'+a)/64=k)(hf:(at'+a) % 64=f)(hc:f+c≤64)(hl:(u7 S x k).length=64):rdF S x at' (a+c)=rdF S x at' a++((u7 S x k).drop f).take c:=by
 apply List.ext_getElem?
 intro j
 by_cases h1:j<a
 ·rw[a0s _ _ _ _ (by omega),List.getElem?_append_left (by rw[O2];exact h1),a0s _ _ _ _ h1]
 ·rw[List.getElem?_append_right (by rw[O2];omega),O2,List.getElem?_take,List.getElem?_drop]
  by_cases h2:j<a+c
  ·rw[a0s _ _ _ _ h2,if_pos (by omega)]
   unfold fby
   rw[show(at'+j)/64=k by omega,List.getD_eq_getElem?_getD,show(at'+j) % 64=f+(j-a) by omega,List.getElem?_eq_getElem (by omega)];rfl
  ·rw[List.getElem?_eq_none (by rw[O2];omega),if_neg (by omega)]
theorem e7G{f c:Nat}(hc:f+c≤64):(z64.drop f).take c=List.replicate c 0:=by
 unfold z64
 rw[List.drop_replicate,List.take_replicate,Nat.min_eq_left (by omega)]
theorem e9Q{S:PS}{x:Ino}{at':Nat}{d:Bk}(h:∀j,j<d.length→fby S x (at'+j)=d.getD j 0):rdF S x at' d.length=d:=by
 apply List.ext_getElem?
 intro j
 by_cases hj:j<d.length
 ·rw[a0s _ _ _ _ hj,h j hj,List.getD_eq_getElem?_getD,List.getElem?_eq_getElem hj];rfl
 ·rw[List.getElem?_eq_none (by rw[O2];omega),List.getElem?_eq_none (by omega)]
end Go.Am
namespace Go.Am
end Go.Am
