import Derived.Test.YtooooiidpaecmaaGreatDoorJs
/- The bytes of files, without a machine. -/
set_option linter.unusedVariables false
set_option linter.unusedSimpArgs false
namespace Go.Am
def z8(S:PS)(x:Ino)(k:Nat):Bk:=if nd S x (i6 k)=0 then z64 else(S.rd (nd S x (i6 k))).getD []
def fby(S:PS)(x:Ino)(o:Nat):UInt8:=(z8 S x (o/64)).getD (o % 64) 0
def Dat(S:PS)(I:List Nat)(X:Nat→Ino):Prop:=∀i∈I,∀k,k≤1063→nd S (X i) (i6 k)≠0→∃t,S.rd (nd S (X i) (i6 k))=some t∧t.length=64
theorem b0j(j:Nat):z64.getD j 0=0:=by
 unfold z64
 rw[List.getD_eq_getElem?_getD,List.getElem?_replicate]
 split<;>rfl
theorem g1K:z64.length=64:=List.length_replicate
section
variable {S T U:PS} {I:List Nat} {X Y:Nat→Ino} {i k:Nat}
theorem Dat.blk(h:Dat S I X)(hi:i∈I)(hk:k≤1063):(z8 S (X i) k).length=64:=by
 unfold z8
 by_cases h0:nd S (X i) (i6 k)=0
 ·rw[if_pos h0,g1K]
 ·obtain⟨t,h1,h2⟩:=h i hi k hk h0
  rw[if_neg h0,h1];exact h2
theorem Dat.rd(h:Dat S I X)(hi:i∈I)(hk:k≤1063)(h0:nd S (X i) (i6 k)≠0):S.rd (nd S (X i) (i6 k))=some (z8 S (X i) k):=by
 obtain⟨t,h1,h2⟩:=h i hi k hk h0
 unfold z8
 rw[if_neg h0,h1];rfl
theorem Inv.wrd(h:Inv T I Y)(hi:i∈I)(hk:k≤1063){b:Nat}(hb:nd T (Y i) (i6 k)=b)(h0:b≠0)(u:Bk):
  Inv (T.wr b u) I Y∧(∀j∈I,∀p:Pa,p.ok→nd (T.wr b u) (Y j) p=nd T (Y j) p):=by
 obtain⟨o1,o2⟩:=F0 hk
 have hr:=h.rng hi o1 (by omega)
 refine h.same (fun j hj=>PS.wr_ne _ _ ?_) (fun j hj p hp hin hp0=>PS.wr_ne _ _ fun e=> ?_) ?_
 ·have:=(h.ino j hj).1
  omega
 ·have:=(h.inj j hj i hi p (i6 k) hp o1 hp0 (by omega)).2
  exact o2 (this▸hin)
 ·obtain⟨t,g1,g2,g3⟩:=h.bm
  exact⟨t,t,g1,by rw[PS.wr_ne _ _ (by omega)];exact g1,rfl,fun _ _ _ _ _ e=>e⟩
structure Wrd(S:PS)(I:List Nat)(X:Nat→Ino)(T:PS)(Y:Nat→Ino)(i k:Nat)(u:Bk):Prop where
 inv:Inv T I Y
 dat:Dat T I Y
 same:∀j∈I,(Y j).kind=(X j).kind∧(Y j).links=(X j).links∧(Y j).size=(X j).size
 lf:∀j∈I,∀n,n≤1063→¬(j=i∧n=k)→nd T (Y j) (i6 n)=nd S (X j) (i6 n)
 nz:nd T (Y i) (i6 k)≠0
 old:nd S (X i) (i6 k)≠0→nd T (Y i) (i6 k)=nd S (X i) (i6 k)
 bl:∀j∈I,∀n,n≤1063→z8 T (Y j) n=if j=i∧n=k then u else z8 S (X j) n
theorem Wrd.of(hS:Inv S I X)(hD:Dat S I X)(hM:Mk I S X T Y i (i6 k))(hi:i∈I)(hk:k≤1063){b:Nat}(hb:nd T (Y i) (i6 k)=b)(h0:b≠0){u:Bk}(hu:u.length=64):Wrd S I X (T.wr b u) Y i k u:=by
 obtain⟨o1,o2⟩:=F0 hk
 obtain⟨hV,hn⟩:=hM.inv.wrd hi hk hb h0 u
 have lf:∀j∈I,∀n,n≤1063→¬(j=i∧n=k)→nd (T.wr b u) (Y j) (i6 n)=nd S (X j) (i6 n):=fun j hj n hn' hne=>by
  obtain⟨q1,q2⟩:=F0 hn'
  rw[hn j hj _ q1,hM.leaf j hj _ q1 q2 fun⟨e1,e2⟩=>hne ⟨e1,b8g e2⟩]
 have hrd:∀j∈I,∀n,n≤1063→¬(j=i∧n=k)→nd S (X j) (i6 n)≠0→(T.wr b u).rd (nd S (X j) (i6 n))=S.rd (nd S (X j) (i6 n)):=fun j hj n hn' hne hz=>by
  obtain⟨q1,q2⟩:=F0 hn'
  have hold:=hM.old j hj _ q1 hz
  rw[PS.wr_ne _ _ fun e=> ?_]
  ·refine hM.dat _ (hS.rng hj q1 hz).1 fun j' hj' p hp hin e=> ?_
   have h1:nd T (Y j) (i6 n)=nd T (Y j') p:=by rw[hold,e]
   have:=(hM.inv.inj j hj j' hj' _ p q1 hp (by rw[hold];exact hz) h1).2
   exact q2 (this▸hin)
  ·have h1:nd T (Y j) (i6 n)=nd T (Y i) (i6 k):=by rw[hold,e,hb]
   obtain⟨e1,e2⟩:=hM.inv.inj j hj i hi _ _ q1 o1 (by rw[hold];exact hz) h1
   exact hne ⟨e1,b8g e2⟩
 have hnk:nd (T.wr b u) (Y i) (i6 k)=b:=by rw[hn i hi _ o1,hb]
 refine⟨hV,fun j hj n hn' hz=> ?_,hM.same,lf,by rw[hnk];exact h0,fun hz=>by rw[hnk,←hb];exact hM.old i hi _ o1 hz,fun j hj n hn'=> ?_⟩
 ·by_cases hne:j=i∧n=k
  ·obtain⟨rfl,rfl⟩:=hne
   rw[hnk,PS.wr_eq]
   exact⟨u,rfl,hu⟩
  ·rw[lf j hj n hn' hne] at hz⊢
   rw[hrd j hj n hn' hne hz]
   exact hD j hj n hn' hz
 ·by_cases hne:j=i∧n=k
  ·obtain⟨rfl,rfl⟩:=hne
   rw[if_pos ⟨rfl,rfl⟩]
   unfold z8
   rw[hnk,if_neg h0,PS.wr_eq];rfl
  ·rw[if_neg hne]
   unfold z8
   rw[lf j hj n hn' hne]
   by_cases hz:nd S (X j) (i6 n)=0
   ·rw[if_pos hz,if_pos hz]
   ·rw[if_neg hz,if_neg hz,hrd j hj n hn' hne hz]
structure Wrs(S:PS)(I:List Nat)(X:Nat→Ino)(T:PS)(Y:Nat→Ino)(i at':Nat)(d:Bk)(a:Nat):Prop where
 inv:Inv T I Y
 dat:Dat T I Y
 same:∀j∈I,(Y j).kind=(X j).kind∧(Y j).links=(X j).links∧(Y j).size=(X j).size
 oth:∀j∈I,j≠i→∀n,n≤1063→nd T (Y j) (i6 n)=nd S (X j) (i6 n)∧z8 T (Y j) n=z8 S (X j) n
 old:∀n,n≤1063→nd S (X i) (i6 n)≠0→nd T (Y i) (i6 n)=nd S (X i) (i6 n)
 zr:∀n,n≤1063→(nd T (Y i) (i6 n)=0↔nd S (X i) (i6 n)=0∧¬(0<a∧at'<64*n+64∧64*n<at'+a))
 by':∀o,o<68096→fby T (Y i) o=if at'≤o∧o<at'+a then d.getD (o-at') 0 else fby S (X i) o
theorem Wrs.zero(h:Inv S I X)(hD:Dat S I X)(i at':Nat)(d:Bk):Wrs S I X S X i at' d 0:=
 ⟨h,hD,fun _ _=>⟨rfl,rfl,rfl⟩,fun _ _ _ _ _=>⟨rfl,rfl⟩,fun _ _ _=>rfl,fun n _=>⟨fun e=>⟨e,fun e=>by omega⟩,fun e=>e.1⟩,fun o _=>by rw[if_neg (by omega)]⟩
theorem Wrs.next{V:PS}{Z:Nat→Ino}{at' a c:Nat}{d:Bk}(h:Wrs S I X T Y i at' d a)(hi:i∈I)(hk:(at'+a)/64=k)(hk':k≤1063)(hc:0<c)(hc2:(at'+a) % 64+c≤64)(hc3:a+c≤d.length)
  (hw:Wrd T I Y V Z i k (spl (z8 T (Y i) k) ((at'+a) % 64) ((d.drop a).take c))) (hb:(a=0∨(at'+a) % 64=0)):Wrs S I X V Z i at' d (a+c):=by
 have hlen:((d.drop a).take c).length=c:=by rw[List.length_take,List.length_drop];omega
 refine⟨hw.inv,hw.dat,fun j hj=> ?_,fun j hj hji n hn=> ?_,fun n hn h0=> ?_,fun n hn=> ?_,fun o ho=> ?_⟩
 ·obtain⟨a1,a2,a3⟩:=h.same j hj
  obtain⟨b1,b2,b3⟩:=hw.same j hj
  exact⟨b1.trans a1,b2.trans a2,b3.trans a3⟩
 ·obtain⟨a1,a2⟩:=h.oth j hj hji n hn
  rw[hw.lf j hj n hn (fun e=>hji e.1),hw.bl j hj n hn,if_neg (fun e=>hji e.1)]
  exact⟨a1,a2⟩
 ·have h1:=h.old n hn h0
  by_cases hnk:n=k
  ·subst hnk
   rw[hw.old (by rw[h1];exact h0),h1]
  ·rw[hw.lf i hi n hn (fun e=>hnk e.2),h1]
 ·by_cases hnk:n=k
  ·subst hnk
   constructor
   ·intro e;exact absurd e hw.nz
   ·rintro⟨_,e⟩
    exact absurd ⟨by omega,by omega,by omega⟩ e
  ·rw[hw.lf i hi n hn (fun e=>hnk e.2),h.zr n hn]
   constructor
   ·rintro⟨e1,e2⟩
    refine⟨e1,fun⟨e3,e4,e5⟩=> ?_⟩
    rcases hb with hb|hb
    ·subst hb;omega
    ·exact e2 ⟨by omega,by omega,by omega⟩
   ·rintro⟨e1,e2⟩
    exact⟨e1,fun⟨e3,e4,e5⟩=>e2 ⟨by omega,e4,by omega⟩⟩
 ·have hbl:=h.dat.blk hi hk'
  unfold fby
  rw[hw.bl i hi _ (by omega)]
  by_cases hnk:o/64=k
  ·rw[if_pos ⟨rfl,hnk⟩,List.getD_eq_getElem?_getD,a1w (by rw[hlen,hbl];exact hc2),hlen]
   by_cases h1:(at'+a) % 64≤o % 64∧o % 64<(at'+a) % 64+c
   ·rw[if_pos h1,if_pos (by omega),List.getElem?_take,if_pos (by omega),List.getElem?_drop,List.getD_eq_getElem?_getD]
    congr 2
    omega
   ·rw[if_neg h1]
    have:=h.by' o ho
    unfold fby at this
    rw[hnk] at this
    rw[←List.getD_eq_getElem?_getD,this]
    by_cases h2:at'≤o∧o<at'+a
    ·rw[if_pos h2,if_pos (by omega)]
    ·rw[if_neg h2,if_neg (by omega),hnk]
  ·rw[if_neg fun e=>hnk e.2]
   have:=h.by' o ho
   unfold fby at this
   rw[this]
   by_cases h2:at'≤o∧o<at'+a
   ·rw[if_pos h2,if_pos (by omega)]
   ·rw[if_neg h2,if_neg (by omega)]
end
end Go.Am
/- Blocks of a file that are freed, without a machine. -/
namespace Go.Am
section
variable {S T U V:PS} {I:List Nat} {X Y Z:Nat→Ino} {i k:Nat}
theorem f8z{T:PS}{t:Bk}(ht:T.rd 33=some t){b c:Nat}{u:Bk}(hb:37≤b)(hb2:b/8<t.length)(hbt:bt t b=true)(hc:c≠33):t8 (((T.wr c u).wr 33 (A5 t b false)).fr b)≤t8 T:=a4P fun j _ h=>by
 by_cases e:37+j=b
 ·unfold tkn
  rw[ht,e,Bool.or_eq_true]
  exact .inl hbt
 ·unfold tkn at h⊢
  rw[PS.fr_ne _ (show(33:Nat)≠b by omega),PS.wr_eq] at h
  rw[ht]
  dsimp only at h⊢
  rw[a3a hb2,if_neg e] at h
  rw[Bool.or_eq_true] at h⊢
  rcases h with h|h
  ·exact .inl h
  ·refine .inr ?_
   have h:(if 37+j=b then true else if 37+j=33 then false else if 37+j=c then false else T.kp (37+j))=true:=h
   rw[if_neg e,if_neg (by omega)] at h
   by_cases e2:37+j=c
   ·rw[if_pos e2] at h;cases h
   ·rwa [if_neg e2] at h
theorem Inv.fr(h:Inv S I X){b:Nat}(hb:37≤b)(hn:∀i∈I,∀p:Pa,p.ok→p.inn→nd S (X i) p≠b):Inv (S.fr b) I X∧∀i∈I,∀p:Pa,p.ok→nd (S.fr b) (X i) p=nd S (X i) p:=by
 obtain⟨u,g1,g2,g3⟩:=h.bm
 exact h.same (fun i hi=>PS.fr_ne S (by have:=(h.ino i hi).1;omega)) (fun i hi p hp hin _=>PS.fr_ne S (hn i hi p hp hin)) ⟨u,u,g1,(PS.fr_ne S (by omega)).trans g1,rfl,fun _ _ _ _ _ h=>h⟩
theorem Inv.freed(h:Inv T I Y)(hi:i∈I){q:Pa}(hq:q.ok){b:Nat}(hb:nd T (Y i) q=b)(h0:b≠0)(hz:∀r:Pa,r.ok→r.up=some q→nd T (Y i) r=0){t:Bk}(ht:T.rd 33=some t)(hl:t.length=64){x':Ino}
  (hx:∀k,x'.ps.getD k 0=if q= .r k then 0 else(Y i).ps.getD k 0) (hxo:x'.Ok) {c:Nat} {u:Bk}
  (hc:(∃k,q= .r k∧c=35∧InoAt (T.wr c u) i x'∧(∀j∈I,j≠i→InoAt (T.wr c u) j (Y j)))∨(∃w tc,q.up=some w∧c=nd T (Y i) w∧c≠0∧T.rd c=some tc∧tc.length=64∧u=F5 tc q.at 0∧x'=Y i)):
  Inv (((T.wr c u).wr 33 (A5 t b false)).fr b) I (upx Y i x')∧(∀j∈I,∀r:Pa,r.ok→nd (((T.wr c u).wr 33 (A5 t b false)).fr b) (upx Y i x' j) r=if j=i∧r=q then 0 else nd T (Y j) r)∧
   (∀x,x≠33→x≠c→x≠b→(((T.wr c u).wr 33 (A5 t b false)).fr b).rd x=T.rd x)∧t8 (((T.wr c u).wr 33 (A5 t b false)).fr b)≤t8 T:=by
 have hr:=h.rng hi hq (by omega)
 rw[hb] at hr
 have hij:∀j∈I,j<6:=fun j hj=>(h.ino j hj).1
 have hc33:c≠33:=by
  rcases hc with⟨k,_,rfl,_⟩|⟨w,tc,hw,rfl,hc0,_⟩
  ·omega
  ·have:=(h.rng hi (A0 hw hq).1 hc0).1
   omega
 have hcw:∀w,q.up=some w→c=nd T (Y i) w∧c≠0∧37≤c:=fun w hw=>by
  rcases hc with⟨k,hk,_⟩|⟨w',tc,hw',rfl,hc0,_⟩
  ·subst hk;cases hw
  ·rw[hw] at hw'
   cases hw'
   exact⟨rfl,hc0,(h.rng hi (A0 hw hq).1 hc0).1⟩
 have hst:=h.store (S':=T.wr c u) hi hq (v:=0) (x':=x') hx hxo
  (by
   rcases hc with⟨k,_,rfl,g1,_⟩|⟨w,tc,hw,rfl,hc0,g1,g2,g3,rfl⟩
   ·exact g1
   ·have hcc:=(h.rng hi (A0 hw hq).1 hc0).1
    have:=hij i hi
    exact(h.ino i hi).2.1.ne (PS.wr_ne _ _ (by omega)))
  (fun j hj hji=>by
   rcases hc with⟨k,_,rfl,_,g1⟩|⟨w,tc,hw,rfl,hc0,g1,g2,g3,rfl⟩
   ·exact g1 j hj hji
   ·have hcc:=(h.rng hi (A0 hw hq).1 hc0).1
    have:=hij j hj
    exact(h.ino j hj).2.1.ne (PS.wr_ne _ _ (by omega)))
  (PS.wr_ne _ _ (Ne.symm hc33))
  (fun w hw=>by
   rcases hc with⟨k,hk,_⟩|⟨w',tc,hw',rfl,hc0,g1,g2,g3,rfl⟩
   ·subst hk;cases hw
   ·rw[hw] at hw'
    cases hw'
    exact⟨hc0,by omega,tc,g1,g2,by rw[PS.wr_eq,g3]⟩)
  (fun x hx1 hx2=>PS.wr_ne _ _ (by
   rcases hc with⟨k,hk,rfl,_⟩|⟨w',tc,hw',rfl,hc0,_⟩
   ·omega
   ·exact hx2 w' hw'))
  hz (.inl rfl)
 obtain⟨s1,s2⟩:=hst
 have hnb:∀j∈I,∀p:Pa,p.ok→nd (T.wr c u) (upx Y i x' j) p≠b:=fun j hj p hp e=>by
  rw[s2 j hj p hp] at e
  by_cases e1:j=i∧p=q
  ·rw[if_pos e1] at e;omega
  ·rw[if_neg e1] at e
   obtain⟨a1,a2⟩:=h.inj j hj i hi p q hp hq (by omega) (by omega)
   exact e1 ⟨a1,a2⟩
 have ht':(T.wr c u).rd 33=some t:=(PS.wr_ne _ _ (Ne.symm hc33)).trans ht
 have hbt:bt t b=true:=by
  obtain⟨t2,g1,g2,g3⟩:=h.bm
  rw[ht] at g1
  cases g1
  have:=(g3 i hi q hq (by omega)).2.2
  rwa [hb] at this
 obtain⟨b1,b2⟩:=s1.bits ht' (t':=A5 t b false) (by rw[a1m];exact hl) (fun j hj p hp _ h2=>by
  rw[a3a (by omega),if_neg (hnb j hj p hp)];exact h2)
 obtain⟨f1,f2⟩:=b1.fr (b:=b) hr.1 (fun j hj p hp _=>by rw[b2 j hj p hp];exact hnb j hj p hp)
 refine⟨f1,fun j hj r hr'=>by rw[f2 j hj r hr',b2 j hj r hr',s2 j hj r hr'],fun x h1 h2 h3=> ?_,f8z ht hr.1 (by omega) hbt hc33⟩
 rw[PS.fr_ne _ h3,PS.wr_ne _ _ h1,PS.wr_ne _ _ h2]
structure Pr(I:List Nat)(S:PS)(X:Nat→Ino)(T:PS)(Y:Nat→Ino)(i:Nat)(D:Pa→Prop):Prop where
 inv:Inv T I Y
 same:∀j∈I,(Y j).kind=(X j).kind∧(Y j).links=(X j).links∧(Y j).size=(X j).size
 off:∀q:Pa,q.ok→D q→nd T (Y i) q=0
 on:∀j∈I,∀q:Pa,q.ok→¬(j=i∧D q)→nd T (Y j) q=nd S (X j) q
 dat:∀b,37≤b→(∀q:Pa,q.ok→D q→nd S (X i) q≠b)→(∀j∈I,∀q:Pa,q.ok→q.inn→nd S (X j) q≠b)→T.rd b=S.rd b
 cnt:t8 T≤t8 S
theorem Pr.refl(h:Inv S I X):Pr I S X S X i fun _=>False:=⟨h,fun _ _=>⟨rfl,rfl,rfl⟩,fun _ _ e=>e.elim,fun _ _ _ _ _=>rfl,fun _ _ _ _=>rfl,Nat.le_refl _⟩
theorem Pr.trans{D E:Pa→Prop}(hi:i∈I)(h:Pr I S X T Y i D)(k:Pr I T Y V Z i E):Pr I S X V Z i fun q=>D q∨E q:=by
 refine⟨k.inv,fun j hj=> ?_,fun q hq hd=> ?_,fun j hj q hq hn=> ?_,fun b hb h1 h2=> ?_,Nat.le_trans k.cnt h.cnt⟩
 ·obtain⟨a1,a2,a3⟩:=h.same j hj
  obtain⟨b1,b2,b3⟩:=k.same j hj
  exact⟨b1.trans a1,b2.trans a2,b3.trans a3⟩
 ·by_cases he:E q
  ·exact k.off q hq he
  ·rw[k.on i hi q hq fun e=>he e.2]
   exact h.off q hq (hd.resolve_right he)
 ·rw[k.on j hj q hq fun e=>hn ⟨e.1,.inr e.2⟩,h.on j hj q hq fun e=>hn ⟨e.1,.inl e.2⟩]
 ·have hT:∀j∈I,∀q:Pa,q.ok→nd T (Y j) q=b→nd S (X j) q=b:=fun j hj q hq e=>by
   by_cases hd:j=i∧D q
   ·obtain⟨rfl,hd⟩:=hd
    rw[h.off q hq hd] at e;omega
   ·rw[←h.on j hj q hq hd];exact e
  rw[k.dat b hb (fun q hq he e=>h1 q hq (.inr he) (hT i hi q hq e)) (fun j hj q hq hin e=>h2 j hj q hq hin (hT j hj q hq e)),h.dat b hb (fun q hq hd=>h1 q hq (.inl hd)) h2]
theorem Pr.mono{D E:Pa→Prop}(hi:i∈I)(h:Pr I S X T Y i D)(h1:∀q:Pa,q.ok→D q→E q)(h2:∀q:Pa,q.ok→E q→¬D q→nd S (X i) q=0):Pr I S X T Y i E:=by
 refine⟨h.inv,h.same,fun q hq he=> ?_,fun j hj q hq hn=> ?_,fun b hb g1 g2=> ?_,h.cnt⟩
 ·by_cases hd:D q
  ·exact h.off q hq hd
  ·rw[h.on i hi q hq fun e=>hd e.2];exact h2 q hq he hd
 ·exact h.on j hj q hq fun e=>hn ⟨e.1,h1 q hq e.2⟩
 ·exact h.dat b hb (fun q hq hd=>g1 q hq (h1 q hq hd)) g2
theorem Pr.one(h:Inv T I Y)(hi:i∈I){q:Pa}(hq:q.ok){b:Nat}(hb:nd T (Y i) q=b)(h0:b≠0)(hz:∀r:Pa,r.ok→r.up=some q→nd T (Y i) r=0){t:Bk}(ht:T.rd 33=some t)(hl:t.length=64){x':Ino}
  (hx:∀k,x'.ps.getD k 0=if q= .r k then 0 else(Y i).ps.getD k 0) (hxo:x'.Ok) (hxs:x'.kind=(Y i).kind∧x'.links=(Y i).links∧x'.size=(Y i).size) {c:Nat} {u:Bk}
  (hc:(∃k,q= .r k∧c=35∧InoAt (T.wr c u) i x'∧(∀j∈I,j≠i→InoAt (T.wr c u) j (Y j)))∨(∃w tc,q.up=some w∧c=nd T (Y i) w∧c≠0∧T.rd c=some tc∧tc.length=64∧u=F5 tc q.at 0∧x'=Y i)):
  Pr I T Y (((T.wr c u).wr 33 (A5 t b false)).fr b) (upx Y i x') i fun r=>r=q:=by
 obtain⟨f1,f2,f3,f4⟩:=h.freed hi hq hb h0 hz ht hl hx hxo hc
 refine⟨f1,fun j hj=> ?_,fun r hr e=> ?_,fun j hj r hr hn=> ?_,fun x h1 h2 h3=> ?_,f4⟩
 ·by_cases hji:j=i
  ·subst hji;rw[K7];exact hxs
  ·rw[P9 _ _ hji];exact⟨rfl,rfl,rfl⟩
 ·rw[f2 i hi r hr,if_pos ⟨rfl,e⟩]
 ·rw[f2 j hj r hr,if_neg hn]
 ·refine f3 x (by omega) ?_ fun e=>h2 q hq rfl (hb.trans e.symm)
  rcases hc with⟨k,_,rfl,_⟩|⟨w,tc,hw,rfl,hc0,_⟩
  ·omega
  ·intro e
   have:=A0 hw hq
   exact h3 i hi w this.1 this.2.1 e.symm
def Pa.first:Pa→Nat
 | .r k=>if k=9 then 40 else k
 | .s k a=>if k=9 then 40+32*a else 8+a
 | .t a b=>40+32*a+b
def Pa.dep:Pa→Nat
 | .r k=>if k=9 then 2 else if k=8 then 1 else 0
 | .s k _=>if k=9 then 1 else 0
 | .t _ _=>0
def Pa.chd:Pa→Nat→Pa
 | .r k,a=> .s k a
 | .s _ a,b=> .t a b
 | .t a b,_=> .t a b
theorem Z5{q:Pa}(hq:q.ok)(hin:q.inn){a:Nat}(ha:a<32):(q.chd a).ok∧(q.chd a).up=some q∧(q.chd a).at=a∧(q.chd a).dep+1=q.dep∧(q.chd a).first=q.first+a*32^q.dep/32:=by
 cases q with
 |r k=>
  rcases hin with rfl|rfl
  ·exact⟨⟨.inl rfl,ha⟩,rfl,rfl,rfl,by show 8+a=8+a*32^1/32;omega⟩
  ·exact⟨⟨.inr rfl,ha⟩,rfl,rfl,rfl,by show 40+32*a=40+a*32^2/32;omega⟩
 |s k c=>
  have hin:k=9:=hin
  subst hin
  exact⟨⟨hq.2,ha⟩,rfl,rfl,rfl,by show 40+32*c+a=40+32*c+a*32^1/32;omega⟩
 |t c d=>exact hin.elim
theorem a1N{q r:Pa}(hr:r.ok)(h:r.up=some q):∃a,a<32∧r=q.chd a:=by
 cases r<;>cases h
 ·exact⟨_,hr.2,rfl⟩
 ·exact⟨_,hr.2,rfl⟩
theorem d0m{q:Pa}(hq:q.ok):q.inn↔q.dep≠0:=by
 cases q with
 |r k=>
  show(k=8∨k=9)↔(if k=9 then 2 else if k=8 then 1 else 0)≠0
  by_cases h9:k=9
  ·rw[if_pos h9];omega
  ·rw[if_neg h9]
   by_cases h8:k=8
   ·rw[if_pos h8];omega
   ·rw[if_neg h8];omega
 |s k a=>
  show k=9↔(if k=9 then 1 else 0)≠0
  split<;>omega
 |t a b=>exact⟨fun e=>e.elim,fun e=>e rfl⟩
def Pa.sub(q r:Pa):Prop:=r=q∨r.up=some q∨∃w,r.up=some w∧w.up=some q
theorem a2W{q r:Pa}(hq:q.ok)(hr:r.ok):q.sub r↔r=q∨∃a,a<32∧q.inn∧(q.chd a).sub r:=by
 constructor
 ·rintro(h|h|⟨w,h1,h2⟩)
  ·exact .inl h
  ·obtain⟨a,ha,e⟩:=a1N hr h
   exact .inr ⟨a,ha,(A0 h hr).2.1,.inl e⟩
  ·have hw:=(A0 h1 hr).1
   obtain⟨a,ha,e⟩:=a1N hw h2
   exact .inr ⟨a,ha,(A0 h2 hw).2.1,.inr (.inl (by rw[h1,e]))⟩
 ·rintro(h|⟨a,ha,hin,h⟩)
  ·exact .inl h
  ·obtain⟨c1,c2,_⟩:=Z5 hq hin ha
   rcases h with h|h|⟨w,h1,h2⟩
   ·exact .inr (.inl (by rw[h,c2]))
   ·exact .inr (.inr ⟨_,h,c2⟩)
   ·exfalso
    cases r<;>cases h1
    ·cases h2
    ·injection h2 with h2
     cases q with
     |r k=>cases h2
     |s k c=>cases h2
     |t c d=>exact hin.elim
theorem sub_zero{q r:Pa}(hq:q.ok)(hr:r.ok)(h:q.sub r){S:PS}{x:Ino}(h0:nd S x q=0):nd S x r=0:=by
 have up0:∀{a b:Pa},a.up=some b→nd S x b=0→nd S x a=0:=fun e h=>by rw[U9 S x e,h,a0W]
 rcases h with rfl|h|⟨w,h1,h2⟩
 ·exact h0
 ·exact up0 h h0
 ·exact up0 h1 (up0 h2 h0)
theorem f8e{q r:Pa}(hr:r.ok)(h:q.sub r):q.first≤r.first∧r.first+32^r.dep≤q.first+32^q.dep:=by
 have up1:∀{a b:Pa},a.ok→a.up=some b→b.first≤a.first∧a.first+32^a.dep≤b.first+32^b.dep:=fun ha e=>by
  obtain⟨o1,o2,o3⟩:=A0 e ha
  obtain⟨c,hc,rfl⟩:=a1N ha e
  obtain⟨_,_,_,d1,d2⟩:=Z5 o1 o2 hc
  rw[d2,←d1,Nat.pow_succ]
  generalize 32^_=n
  have:c*(n*32)/32=c*n:=by rw[←Nat.mul_assoc,Nat.mul_div_cancel _ (by omega)]
  rw[this]
  refine⟨Nat.le_add_right _ _,?_⟩
  have:c*n+n≤n*32:=by
   calc c*n+n=(c+1)*n:=by rw[Nat.add_mul,Nat.one_mul]
    _≤32*n:=Nat.mul_le_mul_right _ (by omega)
    _=n*32:=Nat.mul_comm _ _
  omega
 rcases h with rfl|h|⟨w,h1,h2⟩
 ·exact⟨Nat.le_refl _,Nat.le_refl _⟩
 ·exact up1 hr h
 ·have a:=up1 hr h1
  have b:=up1 (A0 h1 hr).1 h2
  exact⟨by omega,by omega⟩
theorem c5J{q r:Pa}(hr:r.ok)(h:q.sub r):r.dep≤q.dep:=by
 have up1:∀{a b:Pa},a.ok→a.up=some b→a.dep+1=b.dep:=fun ha e=>by
  obtain⟨o1,o2,o3⟩:=A0 e ha
  obtain⟨c,hc,rfl⟩:=a1N ha e
  exact(Z5 o1 o2 hc).2.2.2.1
 rcases h with rfl|h|⟨w,h1,h2⟩
 ·exact Nat.le_refl _
 ·have:=up1 hr h;omega
 ·have a:=up1 hr h1
  have b:=up1 (A0 h1 hr).1 h2
  omega
def PrD(q:Pa)(keep:Nat)(r:Pa):Prop:=q.sub r∧keep≤r.first
def PrC(q:Pa)(keep n:Nat)(r:Pa):Prop:=∃a,a<n∧(q.chd a).sub r∧keep≤r.first
theorem b8k(h:Inv S I X)(hi:i∈I){q:Pa}(hq:q.ok){keep:Nat}(h0:nd S (X i) q=0∨q.first+32^q.dep≤keep):Pr I S X S X i (PrD q keep):=
 (Pr.refl h).mono hi (fun _ _ e=>e.elim) fun r hr ⟨h1,h2⟩ _=>by
  rcases h0 with h0|h0
  ·exact sub_zero hq hr h1 h0
  ·have:=f8e hr h1
   have hp:0<32^r.dep:=Nat.pow_pos (by omega)
   omega
theorem f6Q(h:Inv S I X)(hi:i∈I)(q:Pa)(keep:Nat):Pr I S X S X i (PrC q keep 0):=(Pr.refl h).mono hi (fun _ _ e=>e.elim) fun _ _ ⟨a,ha,_⟩ _=>by omega
theorem f7d{q:Pa}{keep n:Nat}(hi:i∈I)(h:Pr I S X T Y i (PrC q keep n))(k:Pr I T Y V Z i (PrD (q.chd n) keep)):Pr I S X V Z i (PrC q keep (n+1)):=
 (h.trans hi k).mono hi (fun r hr e=>by
  rcases e with⟨a,ha,e⟩|e
  ·exact⟨a,by omega,e⟩
  ·exact⟨n,by omega,e⟩) fun r hr ⟨a,ha,e⟩ hn=>by
  exfalso
  by_cases han:a=n
  ·subst han;exact hn (.inr e)
  ·exact hn (.inl ⟨a,by omega,e⟩)
theorem f6x{q:Pa}{keep n:Nat}(hi:i∈I)(hq:q.ok)(hin:q.inn)(hn:n≤32)(h:Pr I S X T Y i (PrC q keep n)):nd T (Y i) q=nd S (X i) q:=h.on i hi q hq fun⟨_,a,ha,e,_⟩=>by
 obtain⟨_,_,_,d,_⟩:=Z5 hq hin (show a<32 by omega)
 have:=c5J hq e
 omega
theorem f6G{q:Pa}{keep:Nat}(hi:i∈I)(hq:q.ok)(hin:q.inn)(hk:q.first<keep)(h:Pr I S X T Y i (PrC q keep 32)):Pr I S X T Y i (PrD q keep):=
 h.mono hi (fun r hr ⟨a,ha,e1,e2⟩=>⟨(a2W hq hr).2 (.inr ⟨a,ha,hin,e1⟩),e2⟩) fun r hr ⟨e1,e2⟩ hn=>by
  rcases(a2W hq hr).1 e1 with rfl|⟨a,ha,_,e⟩
  ·omega
  ·exact absurd ⟨a,ha,e,e2⟩ hn
theorem f6i{q:Pa}{keep:Nat}(hi:i∈I)(hq:q.ok)(hk:keep≤q.first)(h:Pr I S X T Y i (PrC q keep 32)){r:Pa}(hr:r.ok)(hu:r.up=some q):nd T (Y i) r=0:=by
 obtain⟨o1,o2,o3⟩:=A0 hu hr
 obtain⟨a,ha,rfl⟩:=a1N hr hu
 obtain⟨_,_,_,_,d⟩:=Z5 o1 o2 ha
 exact h.off _ hr ⟨a,ha,.inl rfl,by omega⟩
theorem f7L{q:Pa}{keep:Nat}(hi:i∈I)(hq:q.ok)(hin:q.inn)(hk:keep≤q.first)(h:Pr I S X T Y i (PrC q keep 32))(k:Pr I T Y V Z i fun r=>r=q):Pr I S X V Z i (PrD q keep):=
 (h.trans hi k).mono hi (fun r hr e=>by
  rcases e with⟨a,ha,e1,e2⟩|rfl
  ·exact⟨(a2W hq hr).2 (.inr ⟨a,ha,hin,e1⟩),e2⟩
  ·exact⟨.inl rfl,hk⟩) fun r hr ⟨e1,e2⟩ hn=>by
  exfalso
  rcases(a2W hq hr).1 e1 with rfl|⟨a,ha,_,e⟩
  ·exact hn (.inr rfl)
  ·exact hn (.inl ⟨a,ha,e,e2⟩)
theorem f7a{q:Pa}{keep:Nat}(hi:i∈I)(hq:q.ok)(hin:¬q.inn)(hk:keep≤q.first)(k:Pr I S X V Z i fun r=>r=q):Pr I S X V Z i (PrD q keep):=
 k.mono hi (fun r hr e=>by subst e;exact⟨.inl rfl,hk⟩) fun r hr ⟨e1,e2⟩ hn=>by
  exfalso
  rcases(a2W hq hr).1 e1 with rfl|⟨a,ha,hin',_⟩
  ·exact hn rfl
  ·exact hin hin'
def PrR(keep n:Nat)(r:Pa):Prop:=∃a,a<n∧(Pa.r a).sub r∧keep≤r.first
theorem f9K(h:Inv S I X)(hi:i∈I)(keep:Nat):Pr I S X S X i (PrR keep 0):=(Pr.refl h).mono hi (fun _ _ e=>e.elim) fun _ _ ⟨a,ha,_⟩ _=>by omega
theorem a9F{keep n:Nat}(hi:i∈I)(h:Pr I S X T Y i (PrR keep n))(k:Pr I T Y V Z i (PrD (.r n) keep)):Pr I S X V Z i (PrR keep (n+1)):=
 (h.trans hi k).mono hi (fun r hr e=>by
  rcases e with⟨a,ha,e⟩|e
  ·exact⟨a,by omega,e⟩
  ·exact⟨n,by omega,e⟩) fun r hr ⟨a,ha,e⟩ hn=>by
  exfalso
  by_cases han:a=n
  ·subst han;exact hn (.inr e)
  ·exact hn (.inl ⟨a,by omega,e⟩)
theorem b70{n:Nat}(h:n≤1063):(i6 n).first=n∧∃a,a<10∧(Pa.r a).sub (i6 n):=by
 unfold i6
 by_cases h1:n<8
 ·rw[if_pos h1]
  exact⟨by show(if n=9 then 40 else n)=n;rw[if_neg (by omega)],n,by omega,.inl rfl⟩
 ·rw[if_neg h1]
  by_cases h2:n<40
  ·rw[if_pos h2]
   exact⟨by show(if(8:Nat)=9 then 40+32*(n-8) else 8+(n-8))=n;rw[if_neg (by omega)];omega,8,by omega,.inr (.inl rfl)⟩
  ·rw[if_neg h2]
   exact⟨by show 40+32*((n-40)/32)+(n-40) % 32=n;omega,9,by omega,.inr (.inr ⟨_,rfl,rfl⟩)⟩
structure Ctd(S:PS)(I:List Nat)(X:Nat→Ino)(T:PS)(Y:Nat→Ino)(i keep:Nat):Prop where
 inv:Inv T I Y
 dat:Dat T I Y
 same:∀j∈I,(Y j).kind=(X j).kind∧(Y j).links=(X j).links∧(Y j).size=(X j).size
 lf:∀j∈I,∀n,n≤1063→nd T (Y j) (i6 n)=if j=i∧keep≤n then 0 else nd S (X j) (i6 n)
 bl:∀j∈I,∀n,n≤1063→z8 T (Y j) n=if j=i∧keep≤n then z64 else z8 S (X j) n
 cnt:t8 T≤t8 S
 inn:∀q:Pa,q.ok→keep≤q.first→nd T (Y i) q=0
theorem Ctd.of{keep:Nat}(hi:i∈I)(hS:Inv S I X)(hD:Dat S I X)(h:Pr I S X T Y i (PrR keep 10)):Ctd S I X T Y i keep:=by
 have lf:∀j∈I,∀n,n≤1063→nd T (Y j) (i6 n)=if j=i∧keep≤n then 0 else nd S (X j) (i6 n):=fun j hj n hn=>by
  obtain⟨o1,o2⟩:=F0 hn
  obtain⟨f1,a,ha,f2⟩:=b70 hn
  by_cases hc:j=i∧keep≤n
  ·rw[if_pos hc,hc.1]
   exact h.off _ o1 ⟨a,ha,f2,by omega⟩
  ·rw[if_neg hc]
   exact h.on j hj _ o1 fun⟨e1,a,_,_,e2⟩=>hc ⟨e1,by omega⟩
 have hrd:∀j∈I,∀n,n≤1063→¬(j=i∧keep≤n)→nd S (X j) (i6 n)≠0→T.rd (nd S (X j) (i6 n))=S.rd (nd S (X j) (i6 n)):=fun j hj n hn hc h0=>by
  obtain⟨o1,o2⟩:=F0 hn
  obtain⟨f1,_⟩:=b70 hn
  refine h.dat _ (hS.rng hj o1 h0).1 (fun q hq ⟨a,_,_,e2⟩ e=> ?_) (fun j' hj' q hq hin e=> ?_)
  ·obtain⟨g1,g2⟩:=hS.inj j hj i hi _ q o1 hq h0 e.symm
   rw[←g2] at e2
   exact hc ⟨g1,by omega⟩
  ·have:=(hS.inj j hj j' hj' _ q o1 hq h0 e.symm).2
   exact o2 (this▸hin)
 refine⟨h.inv,fun j hj n hn h0=> ?_,h.same,lf,fun j hj n hn=> ?_,h.cnt,fun q hq hk=> ?_⟩
 ·rw[lf j hj n hn] at h0⊢
  by_cases hc:j=i∧keep≤n
  ·rw[if_pos hc] at h0;exact absurd rfl h0
  ·rw[if_neg hc] at h0⊢
   rw[hrd j hj n hn hc h0]
   exact hD j hj n hn h0
 ·unfold z8
  rw[lf j hj n hn]
  by_cases hc:j=i∧keep≤n
  ·rw[if_pos hc,if_pos hc,if_pos rfl]
  ·rw[if_neg hc,if_neg hc]
   by_cases h0:nd S (X j) (i6 n)=0
   ·rw[if_pos h0,if_pos h0]
   ·rw[if_neg h0,if_neg h0,hrd j hj n hn hc h0]
 ·refine h.off q hq ?_
  cases q with
  |r k=>exact⟨k,hq,.inl rfl,hk⟩
  |s k a=>exact⟨k,by have:=hq.1;omega,.inr (.inl rfl),hk⟩
  |t a b=>exact⟨9,by omega,.inr (.inr ⟨_,rfl,rfl⟩),hk⟩
end
end Go.Am
/- An inode that is put, without a machine. -/
namespace Go.Am
section
variable {S T U V:PS} {I:List Nat} {X Y Z:Nat→Ino} {i k:Nat}
theorem g6y(S:PS){x y:Ino}(h:x.ps=y.ps):∀p:Pa,nd S x p=nd S y p
 | .r k=>by show x.ps.getD k 0=y.ps.getD k 0;rw[h]
 | .s k a=>by show ptz S (x.ps.getD k 0) a=ptz S (y.ps.getD k 0) a;rw[h]
 | .t a b=>by show ptz S (ptz S (x.ps.getD 9 0) a) b=ptz S (ptz S (y.ps.getD 9 0) a) b;rw[h]
structure Ptd(S:PS)(I:List Nat)(X:Nat→Ino)(T:PS)(i:Nat)(x':Ino):Prop where
 inv:Inv T I (upx X i x')
 nd':∀j∈I,∀p:Pa,p.ok→nd T (upx X i x' j) p=nd S (X j) p
 rd':∀b,37≤b→T.rd b=S.rd b
 cnt:t8 T≤t8 S
theorem Ptd.of(h:Inv S I X)(hi:i∈I){t:Bk}(ht:S.rd (34+i/2)=some t)(hl:t.length=64){x':Ino}(hxo:x'.Ok)(hps:x'.ps=(X i).ps):Ptd S I X (S.wr (34+i/2) (spl t (32*(i % 2)) (enc x'))) i x':=by
 have hi6:=(h.ino i hi).1
 obtain⟨p1,p2⟩:=InoAt.put hxo.len ht hl (i:=i) (y:=x') (x:=x')
 have hr:∀b,37≤b→(S.wr (34+i/2) (spl t (32*(i % 2)) (enc x'))).rd b=S.rd b:=fun b hb=>PS.wr_ne _ _ (by omega)
 have h33:(S.wr (34+i/2) (spl t (32*(i % 2)) (enc x'))).rd 33=S.rd 33:=PS.wr_ne _ _ (by omega)
 have hc:=a3l (S:=S) (b:=34+i/2) (by omega) (spl t (32*(i % 2)) (enc x'))
 generalize S.wr (34+i/2) (spl t (32*(i % 2)) (enc x'))=V at*
 have hn:∀j∈I,∀p:Pa,p.ok→nd V (upx X i x' j) p=nd S (X j) p:=fun j hj p hp=>by
  have e1:nd V (X j) p=nd S (X j) p:=b0n (fun q hq hin h0=>hr _ (h.rng hj hq h0).1) p hp
  by_cases hji:j=i
  ·subst hji
   rw[K7,g6y V hps,e1]
  ·rw[P9 _ _ hji,e1]
 refine⟨⟨fun j hj=> ?_,?_,fun j hj j2 hj2 p q hp hq h0 he=> ?_,fun j hj p hp hin h0=> ?_⟩,hn,hr,hc⟩
 ·by_cases hji:j=i
  ·subst hji
   rw[K7]
   exact⟨hi6,p1,hxo⟩
  ·rw[P9 _ _ hji]
   obtain⟨a1,a2,a3⟩:=h.ino j hj
   exact⟨a1,p2 j _ hji a2,a3⟩
 ·obtain⟨u,g1,g2,g3⟩:=h.bm
  refine⟨u,h33.trans g1,g2,fun j hj p hp h0=> ?_⟩
  rw[hn j hj p hp] at h0⊢
  exact g3 j hj p hp h0
 ·rw[hn j hj p hp] at h0 he
  rw[hn j2 hj2 q hq] at he
  exact h.inj j hj j2 hj2 p q hp hq h0 he
 ·rw[hn j hj p hp] at h0⊢
  rw[hr _ (h.rng hj hp h0).1]
  exact h.blk j hj p hp hin h0
theorem Ptd.bl{x':Ino}(h:Ptd S I X T i x')(hS:Inv S I X){j n:Nat}(hj:j∈I)(hn:n≤1063):z8 T (upx X i x' j) n=z8 S (X j) n:=by
 obtain⟨o1,o2⟩:=F0 hn
 unfold z8
 rw[h.nd' j hj _ o1]
 by_cases h0:nd S (X j) (i6 n)=0
 ·rw[if_pos h0,if_pos h0]
 ·rw[if_neg h0,if_neg h0,h.rd' _ (hS.rng hj o1 h0).1]
theorem Ptd.dat{x':Ino}(h:Ptd S I X T i x')(hS:Inv S I X)(hD:Dat S I X):Dat T I (upx X i x'):=fun j hj n hn h0=>by
 obtain⟨o1,o2⟩:=F0 hn
 rw[h.nd' j hj _ o1] at h0⊢
 rw[h.rd' _ (hS.rng hj o1 h0).1]
 exact hD j hj n hn h0
end
end Go.Am
/- Files as bytes, without a machine. -/
namespace Go.Am
section
variable {S T U V:PS} {I:List Nat} {X Y Z:Nat→Ino} {i k:Nat}
structure FS(S:PS)(I:List Nat)(X:Nat→Ino):Prop where
 inv:Inv S I X
 dat:Dat S I X
 tz:∀i∈I,∀o,o<68096→(X i).size≤o→fby S (X i) o=0
 sz:∀i∈I,(X i).size≤68096
theorem a51{x y:Ino}{o:Nat}(h:z8 T y (o/64)=z8 S x (o/64)):fby T y o=fby S x o:=by unfold fby;rw[h]
def clr(t:Bk)(a:Nat):Bk:=t.take a++List.replicate (64-a) 0
theorem c3n{t:Bk}{a:Nat}(h:t.length=64)(ha:a≤64):(clr t a).length=64:=by
 unfold clr
 rw[List.length_append,List.length_take,List.length_replicate];omega
theorem g1A{t:Bk}{a:Nat}(h:t.length=64)(ha:a≤64)(j:Nat):(clr t a).getD j 0=if a≤j then 0 else t.getD j 0:=by
 unfold clr
 rw[List.getD_eq_getElem?_getD,List.getD_eq_getElem?_getD]
 by_cases h1:j<a
 ·rw[List.getElem?_append_left (by rw[List.length_take];omega),List.getElem?_take,if_pos h1,if_neg (by omega)]
 ·rw[List.getElem?_append_right (by rw[List.length_take];omega),if_pos (by omega),List.getElem?_replicate]
  split<;>rfl
structure Tld(S:PS)(I:List Nat)(X:Nat→Ino)(T:PS)(i s:Nat):Prop where
 inv:Inv T I X
 dat:Dat T I X
 lf:∀j∈I,∀n,n≤1063→nd T (X j) (i6 n)=nd S (X j) (i6 n)
 bl:∀j∈I,∀n,n≤1063→¬(j=i∧n=s/64)→z8 T (X j) n=z8 S (X j) n
 by':∀o,o<68096→fby T (X i) o=if s≤o∧o/64=s/64∧s % 64≠0 then 0 else fby S (X i) o
 cnt:t8 T≤t8 S
theorem Tld.none(h:Inv S I X)(hD:Dat S I X)(hi:i∈I){s:Nat}(hs:s % 64=0∨nd S (X i) (i6 (s/64))=0):Tld S I X S i s:=
 ⟨h,hD,fun _ _ _ _=>rfl,fun _ _ _ _ _=>rfl,fun o ho=>by
  by_cases hc:s≤o∧o/64=s/64∧s % 64≠0
  ·rw[if_pos hc]
   rcases hs with hs|hs
   ·exact absurd hs hc.2.2
   ·unfold fby z8
    rw[hc.2.1,if_pos hs,b0j]
  ·rw[if_neg hc],Nat.le_refl _⟩
theorem Tld.of(h:Inv S I X)(hD:Dat S I X)(hi:i∈I){s:Nat}(hs:s<68096)(hs0:s % 64≠0)(h0:nd S (X i) (i6 (s/64))≠0):Tld S I X (S.wr (nd S (X i) (i6 (s/64))) (clr (z8 S (X i) (s/64)) (s % 64))) i s:=by
 have hk:s/64≤1063:=by omega
 have hbl:=hD.blk hi hk
 have hw:=Wrd.of h hD (Mk.refl h) hi hk rfl h0 (u:=clr (z8 S (X i) (s/64)) (s % 64)) (c3n hbl (by omega))
 have hr:=h.rng hi (F0 hk).1 h0
 refine⟨hw.inv,hw.dat,fun j hj n hn=> ?_,fun j hj n hn hne=> ?_,fun o ho=> ?_,a3l (by omega) _⟩
 ·by_cases hc:j=i∧n=s/64
  ·obtain⟨rfl,rfl⟩:=hc
   exact hw.old h0
  ·exact hw.lf j hj n hn hc
 ·rw[hw.bl j hj n hn,if_neg hne]
 ·unfold fby
  rw[hw.bl i hi _ (by omega)]
  by_cases hc:o/64=s/64
  ·rw[if_pos ⟨rfl,hc⟩,g1A hbl (by omega),hc]
   by_cases h1:s % 64≤o % 64
   ·rw[if_pos h1,if_pos ⟨by omega,rfl,hs0⟩]
   ·rw[if_neg h1,if_neg (by omega)]
  ·rw[if_neg fun e=>hc e.2,if_neg fun e=>hc e.2.1]
theorem Tld.fs(h:Tld S I X T i (X i).size)(hS:FS S I X)(hi:i∈I):FS T I X∧∀j∈I,∀o,o<68096→fby T (X j) o=fby S (X j) o:=by
 have hb:∀j∈I,∀o,o<68096→fby T (X j) o=fby S (X j) o:=fun j hj o ho=>by
  by_cases hji:j=i
  ·subst hji
   rw[h.by' o ho]
   by_cases hc:(X j).size≤o∧o/64=(X j).size/64∧(X j).size % 64≠0
   ·rw[if_pos hc,hS.tz j hj o ho hc.1]
   ·rw[if_neg hc]
  ·exact a51 (h.bl j hj _ (by omega) fun e=>hji e.1)
 exact⟨⟨h.inv,h.dat,fun j hj o ho hs=>by rw[hb j hj o ho];exact hS.tz j hj o ho hs,hS.sz⟩,hb⟩
def npc(at' a:Nat):Nat:=if a=0 then 0 else(at'+a-1)/64-at'/64+1
theorem f8M{at' a c:Nat}(hc:0<c)(hc2:(at'+a) % 64+c≤64)(hb:a=0∨(at'+a) % 64=0):npc at' (a+c)=npc at' a+1:=by
 unfold npc
 rw[if_neg (show ¬a+c=0 by omega)]
 by_cases h0:a=0
 ·subst h0
  rw[if_pos rfl];omega
 ·rw[if_neg h0]
  have:=hb.resolve_left h0
  omega
structure Wrt(S:PS)(I:List Nat)(X:Nat→Ino)(T:PS)(Y:Nat→Ino)(i at':Nat)(d:Bk):Prop where
 fs:FS T I Y
 sz:(Y i).size=max (X i).size (at'+d.length)
 kl:∀j∈I,(Y j).kind=(X j).kind∧(Y j).links=(X j).links
 osz:∀j∈I,j≠i→(Y j).size=(X j).size
 oth:∀j∈I,j≠i→∀n,n≤1063→nd T (Y j) (i6 n)=nd S (X j) (i6 n)∧∀o,o<68096→fby T (Y j) o=fby S (X j) o
 zr:∀n,n≤1063→(nd T (Y i) (i6 n)=0↔nd S (X i) (i6 n)=0∧¬(at'<64*n+64∧64*n<at'+d.length))
 by':∀o,o<68096→fby T (Y i) o=if at'≤o∧o<at'+d.length then d.getD (o-at') 0 else fby S (X i) o
theorem Wrt.of{R:PS}{at':Nat}{d:Bk}(hS:FS S I X)(hi:i∈I)(h1:at'+d.length≤(X i).size∧R=S∨(X i).size<at'+d.length∧Tld S I X R i (X i).size)(h2:Wrs R I X U Z i at' d d.length)(h0:d≠[])(hmx:at'+d.length≤68096)
  (h3:(at'+d.length≤(X i).size∧T=U∧Y=Z)∨((X i).size<at'+d.length∧Ptd U I Z T i {Z i with size:=at'+d.length}∧Y=upx Z i {Z i with size:=at'+d.length})):Wrt S I X T Y i at' d:=by
 have hd:0<d.length:=List.length_pos_iff.2 h0
 have hR:FS R I X∧(∀j∈I,∀o,o<68096→fby R (X j) o=fby S (X j) o)∧∀j∈I,∀n,n≤1063→nd R (X j) (i6 n)=nd S (X j) (i6 n):=by
  rcases h1 with⟨_,rfl⟩|⟨_,h1⟩
  ·exact⟨hS,fun _ _ _ _=>rfl,fun _ _ _ _=>rfl⟩
  ·obtain⟨a,b⟩:=h1.fs hS hi
   exact⟨a,b,h1.lf⟩
 obtain⟨r1,r2,r3⟩:=hR
 have hT:Inv T I Y∧Dat T I Y∧(∀j∈I,∀n,n≤1063→nd T (Y j) (i6 n)=nd U (Z j) (i6 n))∧(∀j∈I,∀o,o<68096→fby T (Y j) o=fby U (Z j) o)∧(∀j∈I,(Y j).kind=(Z j).kind∧(Y j).links=(Z j).links)∧(∀j∈I,j≠i→(Y j).size=(Z j).size)∧(Y i).size=max (X i).size (at'+d.length):=by
  rcases h3 with⟨e,rfl,rfl⟩|⟨e,h3,rfl⟩
  ·exact⟨h2.inv,h2.dat,fun _ _ _ _=>rfl,fun _ _ _ _=>rfl,fun _ _=>⟨rfl,rfl⟩,fun _ _ _=>rfl,by rw[(h2.same i hi).2.2];omega⟩
  ·refine⟨h3.inv,h3.dat h2.inv h2.dat,fun j hj n hn=>h3.nd' j hj _ (F0 hn).1,fun j hj o ho=>a51 (h3.bl h2.inv hj (by omega)),fun j hj=> ?_,fun j hj hji=>by rw[P9 _ _ hji],by rw[K7];show at'+d.length=_;omega⟩
   by_cases hji:j=i
   ·subst hji;rw[K7];exact⟨rfl,rfl⟩
   ·rw[P9 _ _ hji];exact⟨rfl,rfl⟩
 obtain⟨t1,t2,t3,t4,t5,t6,t7⟩:=hT
 have hby:∀o,o<68096→fby T (Y i) o=if at'≤o∧o<at'+d.length then d.getD (o-at') 0 else fby S (X i) o:=fun o ho=>by rw[t4 i hi o ho,h2.by' o ho,r2 i hi o ho]
 have hoth:∀j∈I,j≠i→∀o,o<68096→fby T (Y j) o=fby S (X j) o:=fun j hj hji o ho=>by
  rw[t4 j hj o ho,a51 (h2.oth j hj hji (o/64) (by omega)).2,r2 j hj o ho]
 have hosz:∀j∈I,j≠i→(Y j).size=(X j).size:=fun j hj hji=>(t6 j hj hji).trans (h2.same j hj).2.2
 refine⟨⟨t1,t2,fun j hj o ho hs=> ?_,fun j hj=> ?_⟩,t7,fun j hj=> ?_,hosz,fun j hj hji n hn=>⟨?_,hoth j hj hji⟩,fun n hn=> ?_,hby⟩
 ·by_cases hji:j=i
  ·subst hji
   rw[hby o ho,if_neg (by omega)]
   exact hS.tz j hj o ho (by omega)
  ·rw[hoth j hj hji o ho]
   exact hS.tz j hj o ho (by rw[←hosz j hj hji];exact hs)
 ·by_cases hji:j=i
  ·subst hji
   have:=hS.sz j hj
   omega
  ·rw[hosz j hj hji];exact hS.sz j hj
 ·obtain⟨a,b⟩:=t5 j hj
  obtain⟨a2,b2,_⟩:=h2.same j hj
  exact⟨a.trans a2,b.trans b2⟩
 ·rw[t3 j hj n hn,(h2.oth j hj hji n hn).1,r3 j hj n hn]
 ·rw[t3 i hi n hn,h2.zr n hn,r3 i hi n hn]
  constructor
  ·rintro⟨a,b⟩;exact⟨a,fun e=>b ⟨hd,e.1,e.2⟩⟩
  ·rintro⟨a,b⟩;exact⟨a,fun e=>b ⟨e.2.1,e.2.2⟩⟩
structure Trt(S:PS)(I:List Nat)(X:Nat→Ino)(T:PS)(Y:Nat→Ino)(i s:Nat):Prop where
 fs:FS T I Y
 sz:(Y i).size=s
 kl:∀j∈I,(Y j).kind=(X j).kind∧(Y j).links=(X j).links
 osz:∀j∈I,j≠i→(Y j).size=(X j).size
 oth:∀j∈I,j≠i→∀n,n≤1063→nd T (Y j) (i6 n)=nd S (X j) (i6 n)∧∀o,o<68096→fby T (Y j) o=fby S (X j) o
 lf:∀n,n≤1063→nd T (Y i) (i6 n)=if s≤64*n then 0 else nd S (X i) (i6 n)
 by':∀o,o<68096→fby T (Y i) o=if s≤o then 0 else fby S (X i) o
 cnt:t8 T≤t8 S
 inn:∀q:Pa,q.ok→s≤64*q.first→nd T (Y i) q=0
theorem Trt.of{R:PS}{s:Nat}(hS:FS S I X)(hi:i∈I)(hs:s≤68096)(h1:Ctd S I X U Z i ((s+63)/64))(h2:Ptd U I Z R i {Z i with size:=s})(h3:Tld R I (upx Z i {Z i with size:=s}) T i (min s (X i).size))(h4:∀q:Pa,q.ok→nd T (upx Z i {Z i with size:=s} i) q=nd R (upx Z i {Z i with size:=s} i) q):Trt S I X T (upx Z i {Z i with size:=s}) i s:=by
 have hk:∀n:Nat,(s+63)/64≤n↔s≤64*n:=fun n=>by omega
 have hlf:∀j∈I,∀n,n≤1063→nd T (upx Z i {Z i with size:=s} j) (i6 n)=if j=i∧s≤64*n then 0 else nd S (X j) (i6 n):=fun j hj n hn=>by
  rw[h3.lf j hj n hn,h2.nd' j hj _ (F0 hn).1,h1.lf j hj n hn]
  by_cases hc:j=i∧s≤64*n
  ·rw[if_pos hc,if_pos ⟨hc.1,(hk n).2 hc.2⟩]
  ·rw[if_neg hc,if_neg fun e=>hc ⟨e.1,(hk n).1 e.2⟩]
 have hbR:∀j∈I,∀o,o<68096→fby R (upx Z i {Z i with size:=s} j) o=if j=i∧s≤64*(o/64) then 0 else fby S (X j) o:=fun j hj o ho=>by
  unfold fby
  rw[h2.bl h1.inv hj (by omega),h1.bl j hj _ (by omega)]
  by_cases hc:j=i∧s≤64*(o/64)
  ·rw[if_pos hc,if_pos ⟨hc.1,(hk _).2 hc.2⟩,b0j]
  ·rw[if_neg hc,if_neg fun e=>hc ⟨e.1,(hk _).1 e.2⟩]
 have hby:∀o,o<68096→fby T (upx Z i {Z i with size:=s} i) o=if s≤o then 0 else fby S (X i) o:=fun o ho=>by
  rw[h3.by' o ho,hbR i hi o ho]
  have htz:=hS.tz i hi o ho
  by_cases hA:min s (X i).size≤o∧o/64=min s (X i).size/64∧min s (X i).size % 64≠0
  ·rw[if_pos hA]
   by_cases h1:s≤o
   ·rw[if_pos h1]
   ·rw[if_neg h1,htz (by omega)]
  ·rw[if_neg hA]
   by_cases hB:s≤64*(o/64)
   ·rw[if_pos ⟨rfl,hB⟩,if_pos (by omega)]
   ·rw[if_neg fun e=>hB e.2]
    by_cases h1:s≤o
    ·rw[if_pos h1]
     exact htz (by omega)
    ·rw[if_neg h1]
 have hoth:∀j∈I,j≠i→∀o,o<68096→fby T (upx Z i {Z i with size:=s} j) o=fby S (X j) o:=fun j hj hji o ho=>by
  rw[a51 (h3.bl j hj _ (by omega) fun e=>hji e.1),hbR j hj o ho,if_neg fun e=>hji e.1]
 have hosz:∀j∈I,j≠i→(upx Z i {Z i with size:=s} j).size=(X j).size:=fun j hj hji=>by rw[P9 _ _ hji];exact(h1.same j hj).2.2
 refine⟨⟨h3.inv,h3.dat,fun j hj o ho hs'=> ?_,fun j hj=> ?_⟩,by rw[K7],fun j hj=> ?_,hosz,fun j hj hji n hn=>⟨by rw[hlf j hj n hn,if_neg fun e=>hji e.1],hoth j hj hji⟩,fun n hn=> ?_,hby,Nat.le_trans h3.cnt (Nat.le_trans h2.cnt h1.cnt),fun q hq hf=> ?_⟩
 ·by_cases hji:j=i
  ·subst hji
   rw[K7] at hs'
   rw[hby o ho,if_pos hs']
  ·rw[hoth j hj hji o ho]
   exact hS.tz j hj o ho (by rw[←hosz j hj hji];exact hs')
 ·by_cases hji:j=i
  ·subst hji;rw[K7];exact hs
  ·rw[hosz j hj hji];exact hS.sz j hj
 ·by_cases hji:j=i
  ·subst hji;rw[K7];exact⟨(h1.same j hj).1,(h1.same j hj).2.1⟩
  ·rw[P9 _ _ hji];exact⟨(h1.same j hj).1,(h1.same j hj).2.1⟩
 ·rw[hlf i hi n hn]
  by_cases hc:s≤64*n
  ·rw[if_pos ⟨rfl,hc⟩,if_pos hc]
  ·rw[if_neg fun e=>hc e.2,if_neg hc]
 ·rw[h4 q hq,h2.nd' i hi q hq]
  exact h1.inn q hq ((hk _).2 hf)
end
end Go.Am
/- What is read of a file, without a machine. -/
namespace Go.Am
def rdF(S:PS)(x:Ino)(at' n:Nat):Bk:=(List.range n).map fun j=>fby S x (at'+j)
theorem U0(S:PS)(x:Ino)(at' n:Nat):(rdF S x at' n).length=n:=by unfold rdF;rw[List.length_map,List.length_range]
theorem a1t(S:PS)(x:Ino)(at' n:Nat){j:Nat}(h:j<n):(rdF S x at' n)[j]? =some (fby S x (at'+j)):=by
 unfold rdF
 rw[List.getElem?_map,List.getElem?_range h];rfl
theorem f8Z(S:PS)(x:Ino)(at':Nat):rdF S x at' 0= [] :=rfl
theorem f8p{S:PS}{x:Ino}{at' a c k f:Nat}(hk:(at'+a)/64=k)(hf:(at'+a) % 64=f)(hc:f+c≤64)(hl:(z8 S x k).length=64):rdF S x at' (a+c)=rdF S x at' a++((z8 S x k).drop f).take c:=by
 apply List.ext_getElem?
 intro j
 by_cases h1:j<a
 ·rw[a1t _ _ _ _ (by omega),List.getElem?_append_left (by rw[U0];exact h1),a1t _ _ _ _ h1]
 ·rw[List.getElem?_append_right (by rw[U0];omega),U0,List.getElem?_take,List.getElem?_drop]
  by_cases h2:j<a+c
  ·rw[a1t _ _ _ _ h2,if_pos (by omega)]
   unfold fby
   rw[show(at'+j)/64=k by omega,List.getD_eq_getElem?_getD,show(at'+j) % 64=f+(j-a) by omega,List.getElem?_eq_getElem (by omega)];rfl
  ·rw[List.getElem?_eq_none (by rw[U0];omega),if_neg (by omega)]
theorem f9G{f c:Nat}(hc:f+c≤64):(z64.drop f).take c=List.replicate c 0:=by
 unfold z64
 rw[List.drop_replicate,List.take_replicate,Nat.min_eq_left (by omega)]
theorem g1d{S:PS}{x:Ino}{at':Nat}{d:Bk}(h:∀j,j<d.length→fby S x (at'+j)=d.getD j 0):rdF S x at' d.length=d:=by
 apply List.ext_getElem?
 intro j
 by_cases hj:j<d.length
 ·rw[a1t _ _ _ _ hj,h j hj,List.getD_eq_getElem?_getD,List.getElem?_eq_getElem hj];rfl
 ·rw[List.getElem?_eq_none (by rw[U0];omega),List.getElem?_eq_none (by omega)]
end Go.Am
namespace Go.Am
theorem f8V{α:Type}{D:List α}{j:Nat}{e:α}(hj:j<D.length)(he:D[D.length-1]? =some e):((D.set j e).take (D.length-1)).Perm (D.eraseIdx j):=by
 have h0:D≠[] :=fun h=>by subst h;cases hj
 obtain⟨L,rfl⟩:∃L,D=L++ [e] :=⟨D.dropLast,by
  have h1:=List.dropLast_concat_getLast h0
  have h2:D.getLast h0=e:=by
   rw[List.getLast_eq_getElem]
   exact(List.getElem?_eq_some_iff.1 he).2
  rw[h2] at h1
  exact h1.symm⟩
 have hl:(L++ [e]).length=L.length+1:=by simp
 rw[hl] at hj⊢
 rw[Nat.add_sub_cancel]
 by_cases hjl:j=L.length
 ·subst hjl
  rw[List.set_append_right _ _ (Nat.le_refl _),List.take_left,List.eraseIdx_append_of_length_le (Nat.le_refl _),Nat.sub_self]
  simp
 ·have hlt:j<L.length:=by omega
  rw[List.set_append_left _ _ hlt,List.take_append_of_le_length (by simp),List.take_of_length_le (by simp),List.eraseIdx_append_of_lt_length hlt]
  rw[List.set_eq_take_append_cons_drop,if_pos hlt,List.eraseIdx_eq_take_drop_succ]
  refine List.perm_middle.trans ?_
  exact(List.perm_append_singleton e _).symm
theorem a82{α:Type}{D:List α}{j:Nat}{d:α}(hd:D[j]? =some d):D.Perm (d::D.eraseIdx j):=by
 have hj:=(List.getElem?_eq_some_iff.1 hd).1
 have e:=(List.getElem?_eq_some_iff.1 hd).2
 rw[List.eraseIdx_eq_take_drop_succ]
 have h1:D=D.take j++d::D.drop (j+1):=by
  rw[←e]
  have:=List.take_append_drop j D
  rw[List.drop_eq_getElem_cons hj] at this
  exact this.symm
 have h2:(D.take j++d::D.drop (j+1)).Perm (d::(D.take j++D.drop (j+1))):=List.perm_middle
 rw[←h1] at h2
 exact h2
end Go.Am
