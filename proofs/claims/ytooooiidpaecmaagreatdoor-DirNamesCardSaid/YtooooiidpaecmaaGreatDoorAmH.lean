import Derived.Test.YtooooiidpaecmaaGreatDoorAmG
/- The abstract machine: append, where the room is not known. -/
namespace Go.Am
open Go Go.RowKit
section
variable {P:Program} {w0:World} {ρ:Ren} {m:M} {w:World}
theorem Sim.move(h:Sim P w0 ρ m w){b n':Nat}{c d:Cel}{r q:RB}{arr arr':Array Value}{fz fq:Nat×Nat}{w':World}(hb:m.cel b=some c)(hr:ρ.loc b=some r)(k:CelOk P w0 ρ m w r c arr fz)
  (hmv:c.mv=none) (_hex:c.exact=false) (hn':n'≤c.n) (hbase:Below w0.heap.size w0 w')
  (hother:∀x,x≠q.blk→x<w.heap.size→w'.heap[x]? =w.heap[x]?)
  (hq:w'.heap[q.blk]? =some (.cells arr' d.elem fq)) (hqz:a68 fq arr'.size) (hq0:w0.heap.size≤q.blk)
  (hplace:(q.blk=r.blk∧d.elem=c.elem∧r.sh+c.n≤q.sh+d.n∧(∀i,i<r.sh+n'→arr'[i]? =arr[i]?))∨q.blk=w.heap.size)
  (hd:d.mv=none) (hde:d.exact=false) (_hdr:d.ro=false)
  (hfit:q.sh+d.n≤arr'.size) (hspare:∃size,tsize P d.elem=some size∧q.sh+d.n+q.ext*size≤arr'.size)
  (hcells:∀i,i<d.n→∃v,d6 ρ (d.rd i)=some v∧v.oneCell'=true∧arr'[q.sh+i]? =some v):
  Sim P w0 (ρ.put m.next q) ((m.put b (.cells ⟨c.elem,n',c.cs,c.zero,some m.next,c.dirty|| !Nat.beq n' c.n,c.exact,c.ro⟩)).new (.cells d)) w'∧ρ.le (ρ.put m.next q):=by
 have hle:ρ.le (ρ.put m.next q):=Ren.put_le (h.next _ (Nat.le_refl _)).1
 have hblt:b<m.next:=h.lt (M.cel_some.1 hb)
 have hrlt:r.blk<w.heap.size:=Below.lt_of_heap k.heap
 generalize hc1:(⟨c.elem,n',c.cs,c.zero,some m.next,c.dirty|| !Nat.beq n' c.n,c.exact,c.ro⟩:Cel)=c1
 have hc1mv:c1.mv=some m.next:=by rw[←hc1]
 have hc1n:c1.n=n':=by rw[←hc1]
 have hc1e:c1.elem=c.elem:=by rw[←hc1]
 have hc1d:c1.dirty=false→c.dirty=false∧n'=c.n:=by
  rw[←hc1];simp only[Bool.or_eq_false_iff,Bool.not_eq_false']
  exact fun⟨x,y⟩=>⟨x,Nat.eq_of_beq_eq_true y⟩
 have hc1rd:∀i,c1.rd i=c.rd i:=by rw[←hc1];intro i;rfl
 --the new memory
 have hcel:∀x,((m.put b (.cells c1)).new (.cells d)).cel x=if x=m.next then some d else if x=b then some c1 else m.cel x:=by
  intro x;rw[M.cel_new,M.next_put,M.cel_put]
 have hget:∀x,((m.put b (.cells c1)).new (.cells d)).get x=if x=m.next then some (.cells d) else if x=b then some (.cells c1) else m.get x:=by
  intro x;rw[M.get_new,M.next_put,M.get_put]
 generalize hm2:(m.put b (.cells c1)).new (.cells d)=m2 at hcel hget
 have hm2n:m2.next=m.next+1:=by rw[←hm2,M.next_new,M.next_put]
 --what is old there
 have hold:∀x cx,m2.cel x=some cx→x≠m.next→∃cx',m.cel x=some cx'∧cx.elem=cx'.elem∧cx.n≤cx'.n∧(cx.mv=none→cx'.mv=none∧x≠b∧cx=cx'):=by
  intro x cx hx hne
  rw[hcel,if_neg hne] at hx
  by_cases hxb:x=b
  ·rw[if_pos hxb] at hx;cases hx
   exact⟨c,by rw[hxb];exact hb,hc1e,by omega,fun e=>by rw[hc1mv] at e;cases e⟩
  ·rw[if_neg hxb] at hx
   exact⟨cx,hx,rfl,Nat.le_refl _,fun e=>⟨e,hxb,rfl⟩⟩
 have hreach:∀x y,Reach m x y→Reach m2 x y:=by
  intro x y r2
  induction r2 with
  |refl x=>exact .refl x
  | @step x' cx' h' y' hcx hmx _ ih=>
   have hxb:x'≠b:=fun e=>by subst e;rw[hb] at hcx;cases hcx;rw[hmv] at hmx;cases hmx
   have hxn:x'≠m.next:=Nat.ne_of_lt (h.lt (M.cel_some.1 hcx))
   exact .step (c:=cx') (by rw[hcel,if_neg hxn,if_neg hxb];exact hcx) hmx ih
 have hreachN:∀x,Reach m x b→Reach m2 x m.next:=by
  intro x r2
  have key:∀x y,Reach m x y→y=b→Reach m2 x m.next:=by
   intro x y r3
   induction r3 with
   |refl x=>intro e;subst e;exact .step (c:=c1) (by rw[hcel,if_neg (by omega),if_pos rfl]) hc1mv (.refl _)
   | @step x' cx' h' y' hcx hmx _ ih=>
    intro e
    have hxb:x'≠b:=fun e=>by subst e;rw[hb] at hcx;cases hcx;rw[hmv] at hmx;cases hmx
    have hxn:x'≠m.next:=Nat.ne_of_lt (h.lt (M.cel_some.1 hcx))
    exact .step (c:=cx') (by rw[hcel,if_neg hxn,if_neg hxb];exact hcx) hmx (ih e)
  exact key x b r2 rfl
 have hclean:∀n y,((∃b' c',m.cel b'=some c'∧c'.mv=some y)∨(∃c',m.cel y=some c'))→m2.clean n y=true→m.clean n y=true:=by
  intro n y hor e
  refine a4C (m':=m2) ?_ n y hor e
  intro z cz hz hor
  have hex2:∃c2,m.cel z=some c2:=by
   rcases hor with⟨b',c2,h1,h2⟩|h1
   ·exact h.mvok _ _ _ h1 h2
   ·exact h1
  obtain⟨c2,hc2⟩:=hex2
  have hne:z≠m.next:=Nat.ne_of_lt (h.lt (M.cel_some.1 hc2))
  rw[hcel,if_neg hne] at hz
  by_cases hzb:z=b
  ·rw[if_pos hzb] at hz;cases hz
   exact⟨c,by rw[hzb];exact hb,.inr hmv,fun e=>(hc1d e).1⟩
  ·rw[if_neg hzb] at hz
   exact⟨cz,hz,.inl rfl,id⟩
 have hread:∀x cx,m.cel x=some cx→m2.readable cx=true→m.readable cx=true:=by
  intro x cx hx e
  unfold M.readable at e⊢
  cases hmx:cx.mv with
  |none=>rfl
  |some y=>rw[hmx] at e;exact hclean _ _ (.inl ⟨x,cx,hx,hmx⟩) e
 refine⟨⟨hbase,?_,?_,?_,?_,?_,?_⟩,hle⟩
 ·intro x hx
  rw[hm2n] at hx
  rw[Ren.put_ne (by omega),hget,if_neg (by omega),if_neg (by omega)]
  exact h.next x (by omega)
 ·intro x B hx
  rw[hget] at hx
  by_cases hxn:x=m.next
  ·rw[if_pos hxn] at hx;cases hx;subst hxn
   refine⟨q,Ren.put_same _ _ _,arr',fq,hq,fun _ _=>⟨hq0,hqz⟩,fun _=>hfit,fun _ e=>by(rw[hde] at e;cases e),fun _ _ _=>hspare,fun _ e=>by(rw[hde] at e;cases e),fun _ i hi=> ?_⟩
   obtain⟨v,p1,p2,p3⟩:=hcells i hi
   exact⟨v,K5 hle _ _ p1,p2,p3⟩
  ·rw[if_neg hxn] at hx
   by_cases hxb:x=b
   ·rw[if_pos hxb] at hx;cases hx;subst hxb
    refine⟨r,by rw[Ren.put_ne hxn];exact hr,?_⟩
    have hmn:∀{α:Prop},c1.mv=none→α:=fun e=>by rw[hc1mv] at e;cases e
    have hcont:∀i,i<n'→∃v,d6 (ρ.put m.next q) (c1.rd i)=some v∧v.oneCell'=true∧arr[r.sh+i]? =some v:=by
     intro i hi
     obtain⟨v,p1,p2,p3⟩:=k.cells (by unfold M.readable;rw[hmv]) i (by omega)
     exact⟨v,by rw[hc1rd];exact K5 hle _ _ p1,p2,p3⟩
    rcases hplace with⟨hpl,hel,_,hsame⟩|hpl
    ·refine⟨arr',fq,?_,fun e=>hmn e,fun e=>hmn e,fun e=>hmn e,fun e=>hmn e,fun e=>hmn e,fun _ i hi=> ?_⟩
     ·rw[←hpl,hq,hc1e,hel]
     ·rw[hc1n] at hi
      obtain⟨v,p1,p2,p3⟩:=hcont i hi
      exact⟨v,p1,p2,by rw[hsame _ (by omega)];exact p3⟩
    ·refine⟨arr,fz,?_,fun e=>hmn e,fun e=>hmn e,fun e=>hmn e,fun e=>hmn e,fun e=>hmn e,fun _ i hi=>by rw[hc1n] at hi;exact hcont i hi⟩
     rw[hother r.blk (by omega) hrlt,hc1e];exact k.heap
   ·rw[if_neg hxb] at hx
    obtain⟨p,hp,kp⟩:=h.blk x B hx
    refine⟨p,by rw[Ren.put_ne hxn];exact hp,?_⟩
    cases B with
    |obj o=>
     obtain⟨O,k1,k2,k3⟩:=kp
     have hplt:=Below.lt_of_heap k1
     have hne:p.blk≠q.blk:=by
      rcases hplace with⟨hpl,_⟩|hpl
      ·intro e';rw[e',hpl,k.heap] at k1;cases k1;exact k3.notCells
      ·omega
     exact⟨O,(hother _ hne hplt).trans k1,k2,k3.mono hle⟩
    |cells e=>
     obtain⟨ar2,fz2,kp⟩:=kp
     have hplt:=Below.lt_of_heap kp.heap
     by_cases hpq:p.blk=q.blk
     ·--a block that was left before,in the same row
      rcases hplace with⟨hpl,hel,_,hsame⟩|hpl
      ·have hprr:p.blk=r.blk:=hpq.trans hpl
       have hxr:=h.own x e b c p r (M.cel_some.2 hx) hb hmv hp hr hprr (by rw[hprr,←hpl];exact hq0)
       have hxe:=h.ext x e b c p r (M.cel_some.2 hx) hb hmv hp hr hprr (by rw[hprr,←hpl];exact hq0)
       have hst:∃y,e.mv=some y∧Reach m y b:=by
        cases hxr with
        |refl=>exact absurd rfl hxb
        |step hc hm' r2=>rw[M.cel_some.2 hx] at hc;cases hc;exact⟨_,hm',r2⟩
       obtain⟨y,hy,hyb⟩:=hst
       have hmn:∀{α:Prop},e.mv=none→α:=fun e1=>by rw[hy] at e1;cases e1
       have hkq:=kp.heap
       rw[hprr,k.heap] at hkq
       injection hkq with hkq
       injection hkq with hk1 hk2 hk3
       refine⟨arr',fq,?_,fun e=>hmn e,fun e=>hmn e,fun e=>hmn e,fun e=>hmn e,fun e=>hmn e,fun e1 i hi=> ?_⟩
       ·rw[hpq,hq,hel,hk2]
       ·have hcl:=e1
        unfold M.readable at hcl
        rw[hy] at hcl
        have hd1:=b7L (hreach y b hyb) _ hcl c1 (by rw[hcel,if_neg (by omega),if_pos rfl])
        have hnn:=(hc1d hd1).2
        obtain⟨v,p1,p2,p3⟩:=kp.cells (hread x e (M.cel_some.2 hx) e1) i hi
        exact⟨v,K5 hle _ _ p1,p2,by rw[hsame _ (by omega),hk1];exact p3⟩
      ·omega
     ·exact⟨ar2,fz2,kp.keep hle (hother _ hpq hplt) (hread x e (M.cel_some.2 hx))⟩
 ·intro x cx y hx hy
  rw[hcel] at hx
  by_cases hxn:x=m.next
  ·rw[if_pos hxn] at hx;cases hx;rw[hd] at hy;cases hy
  ·rw[if_neg hxn] at hx
   by_cases hxb:x=b
   ·rw[if_pos hxb] at hx;cases hx
    rw[hc1mv] at hy;cases hy
    exact⟨d,by rw[hcel,if_pos rfl]⟩
   ·rw[if_neg hxb] at hx
    obtain⟨c',hc'⟩:=h.mvok x cx y hx hy
    have hyn:y≠m.next:=Nat.ne_of_lt (h.lt (M.cel_some.1 hc'))
    by_cases hyb:y=b
    ·exact⟨c1,by rw[hcel,if_neg hyn,if_pos hyb]⟩
    ·exact⟨c',by rw[hcel,if_neg hyn,if_neg hyb];exact hc'⟩
 ·intro x cx y cy p p' hx hy hm' hp hp' he hg
  by_cases hxn:x=m.next
  ·by_cases hyn:y=m.next
   ·rw[hxn,hyn];exact .refl _
   ·obtain⟨cy',hy',_,_,hz⟩:=hold y cy hy hyn
    obtain⟨z1,z2,_⟩:=hz hm'
    rw[hxn,Ren.put_same] at hp;cases hp
    rw[Ren.put_ne hyn] at hp'
    obtain⟨p2,ar3,fz3,hp2,kp⟩:=h.cel hy'
    rw[hp'] at hp2;cases hp2
    have:=Below.lt_of_heap kp.heap
    rcases hplace with⟨hpl,_⟩|hpl
    ·have hby:=h.own b c y cy' r p' hb hy' z1 hr hp' (hpl.symm.trans he) (by rw[←hpl];exact hq0)
     cases hby with
     |refl=>exact absurd rfl z2
     |step hc hm2' _=>rw[hb] at hc;cases hc;rw[hmv] at hm2';cases hm2'
    ·omega
  ·obtain⟨cx',hx',_,_,_⟩:=hold x cx hx hxn
   rw[Ren.put_ne hxn] at hp
   by_cases hyn:y=m.next
   ·rw[hyn,Ren.put_same] at hp';cases hp'
    obtain⟨p2,ar3,fz3,hp2,kp⟩:=h.cel hx'
    rw[hp] at hp2;cases hp2
    have:=Below.lt_of_heap kp.heap
    rcases hplace with⟨hpl,_⟩|hpl
    ·rw[hyn];exact hreachN x (h.own x cx' b c p r hx' hb hmv hp hr (he.trans hpl) (by rw[he.trans hpl,←hpl];exact hq0))
    ·omega
   ·obtain⟨cy',hy',_,_,hz⟩:=hold y cy hy hyn
    rw[Ren.put_ne hyn] at hp'
    exact hreach x y (h.own x cx' y cy' p p' hx' hy' (hz hm').1 hp hp' he hg)
 ·intro x cx y cy p p' hx hy hm' hp hp' he hg
  by_cases hxn:x=m.next
  ·by_cases hyn:y=m.next
   ·rw[hxn] at hx hp;rw[hyn] at hy hp'
    rw[hx] at hy;cases hy;rw[hp] at hp';cases hp'
    exact Nat.le_refl _
   ·obtain⟨cy',hy',_,_,hz⟩:=hold y cy hy hyn
    obtain⟨z1,z2,_⟩:=hz hm'
    rw[hxn,Ren.put_same] at hp;cases hp
    rw[Ren.put_ne hyn] at hp'
    obtain⟨p2,ar3,fz3,hp2,kp⟩:=h.cel hy'
    rw[hp'] at hp2;cases hp2
    have:=Below.lt_of_heap kp.heap
    rcases hplace with⟨hpl,_⟩|hpl
    ·have hby:=h.own b c y cy' r p' hb hy' z1 hr hp' (hpl.symm.trans he) (by rw[←hpl];exact hq0)
     cases hby with
     |refl=>exact absurd rfl z2
     |step hc hm2' _=>rw[hb] at hc;cases hc;rw[hmv] at hm2';cases hm2'
    ·omega
  ·obtain⟨cx',hx',_,hnx,_⟩:=hold x cx hx hxn
   rw[Ren.put_ne hxn] at hp
   by_cases hyn:y=m.next
   ·rw[hyn,Ren.put_same] at hp';cases hp'
    rw[hyn,hcel,if_pos rfl] at hy;cases hy
    obtain⟨p2,ar3,fz3,hp2,kp⟩:=h.cel hx'
    rw[hp] at hp2;cases hp2
    have:=Below.lt_of_heap kp.heap
    rcases hplace with⟨hpl,_,hext,_⟩|hpl
    ·have:=h.ext x cx' b c p r hx' hb hmv hp hr (he.trans hpl) (by rw[he.trans hpl,←hpl];exact hq0)
     omega
    ·omega
   ·obtain⟨cy',hy',_,_,hz⟩:=hold y cy hy hyn
    rw[Ren.put_ne hyn] at hp'
    have h1:=h.ext x cx' y cy' p p' hx' hy' (hz hm').1 hp hp' he hg
    have h2:=(hz hm').2.2
    rw[h2];omega
 ·intro x es y es' p p' hx hy hp hp' he
  rw[hget] at hx hy
  by_cases hxn:x=m.next
  ·rw[if_pos hxn] at hx;cases hx
  ·by_cases hyn:y=m.next
   ·rw[if_pos hyn] at hy;cases hy
   ·rw[if_neg hxn] at hx;rw[if_neg hyn] at hy
    by_cases hxb:x=b
    ·rw[if_pos hxb] at hx;cases hx
    ·by_cases hyb:y=b
     ·rw[if_pos hyb] at hy;cases hy
     ·rw[if_neg hxb] at hx;rw[if_neg hyb] at hy
      rw[Ren.put_ne hxn] at hp;rw[Ren.put_ne hyn] at hp'
      exact h.mown x es y es' p p' hx hy hp hp' he
theorem b8o{need bytes:Nat}(h:F9 need bytes=true):need*bytes≤140737488355328∧need≤140737488355328∧bytes≤68719476736:=by
 unfold F9 at h
 simp only[Bool.and_eq_true] at h
 exact⟨Nat.le_of_ble_eq_true h.1,Nat.le_of_ble_eq_true h.2.1,Nat.le_of_ble_eq_true h.2.2⟩
theorem a8X(need old:Nat)(e:TypeId):need≤grownCap w need old e:=by
 unfold grownCap Question.cut
 exact Nat.le_add_right _ _
theorem b8Z(h:Sim P w0 ρ m w){st xt e ty size k sLen sCap:Nat}{zl:List AV}{base:Option Addr}{x:Value}{cs:List AV}{olds news:List Value}{bytes:Nat}
  (ht:F6 P st=some e) (hsrc:Src P w xt e size k x news) (hs:tsize P e=some size) (hb:N9 P e=some bytes) (hz:E8 P e=some zl) (hroom:F9 (sLen+k) bytes=true) (hgrow:sCap<sLen+k)
  (hold:(Builtin.firstCells size sLen (.slice base sLen sCap)).run P w.drew= .ok olds.toArray w.drew)
  (hcs:i8 ρ cs=some (olds++news)) (hall:(olds++news).all Value.oneCell'=true) (hl:(olds++news).length=(sLen+k)*size):
  Val P w0 (Builtin.append_ #[st,xt] ty #[.slice base sLen sCap,x]) ρ w (J0 e size zl m (sLen+k) cs):=by
 intro y m' hr
 unfold J0 at hr
 rw[z7] at hr
 cases hr
 obtain⟨i,z,hi,hz',hall',hsz,rfl⟩:=R9 hz
 obtain⟨i',hi',rfl⟩:=G5 hs
 rw[hi] at hi';cases hi'
 obtain⟨i',hi',rfl⟩:=a4A hb
 rw[hi] at hi';cases hi'
 obtain⟨r1,r2,r3⟩:=b8o hroom
 have hrun:=b7C (ty:=ty) (M8 ht) hi hz' hsrc hgrow r1 r3 (by omega) hold
 have hge:=a8X (w:=w) (sLen+k) sCap e
 generalize hg:grownCap w (sLen+k) sCap e=gc at hrun hge
 have hzc:(Builtin.zeroCells z.cells (gc-(sLen+k))).size=(gc-(sLen+k))*i.size:=by simp[Builtin.zeroCells,hsz]
 have hn:=h.drew.newList e cs (olds++news) (olds.toArray++news.toArray++Builtin.zeroCells z.cells (gc-(sLen+k))) (z.cells.toList.map cv1) false (gc-(sLen+k)) hcs hall
  (fun j hj=>by
   rw[Array.getElem?_append_left (by simpa using hj)]
   simp) (by simp[hzc]) (fun e=>by cases e) (fun _=>⟨i.size,hs,by simp[hzc]⟩) (Nat.mul (sLen+k) i.size) (by rw[←I0 hcs,hl];rfl)
 refine⟨_,_,_,hrun,?_,hn.2,hn.1⟩
 rw[b3A]
 rw[show sLen+k+(gc-(sLen+k))=gc by omega]
 rfl
theorem a8Y(l us:List Value)(a:Nat)(h:a+us.length≤l.length):(l.take a++us++l.drop (a+us.length)).length=l.length:=by simp;omega
theorem b8m(h:Sim P w0 ρ m w){st xt e ty size k len cap off b:Nat}{zl:List AV}{x:Value}{c:Cel}{r:RB}{old new:List AV}{olds news:List Value}{bytes:Nat}{A:Addr}
  (ht:F6 P st=some e) (hsrc:Src P w xt e size k x news) (hs:tsize P e=some size) (hb:N9 P e=some bytes) (hz:E8 P e=some zl) (hroom:F9 (len+k) bytes=true) (hgrow:cap<len+k)
  (hc:m.cel b=some c) (hr:ρ.loc b=some r) (hmv:c.mv=none) (hro:c.ro=false) (hex:c.exact=false) (hel:c.elem=e) (hcap:off+cap*size=c.n) (hlc:len≤cap)
  (hA:A=⟨r.blk,r.sh+off,none⟩∨(r.ext=0∧cap=0))
  (hold:(Builtin.firstCells size len (.slice (some A) len (cap+r.ext))).run P w.drew= .ok olds.toArray w.drew)
  (ho:i8 ρ old=some olds) (hn:i8 ρ new=some news) (hoa:olds.all Value.oneCell'=true) (hna:news.all Value.oneCell'=true) (hol:olds.length=len*size) (hnl:news.length=k*size)
  (hrd:∀i,i<len*size→old[i]? =some (c.rd (off+i))):
  Val P w0 (Builtin.append_ #[st,xt] ty #[.slice (some A) len (cap+r.ext),x]) ρ w (N7 e size zl m b off (off+len*size) (len+k) c old new):=by
 intro y m' hr'
 unfold N7 at hr'
 rw[z7] at hr'
 cases hr'
 obtain⟨i,z,hi,hz',hall',hsz,rfl⟩:=R9 hz
 obtain⟨i',hi',rfl⟩:=G5 hs
 rw[hi] at hi';cases hi'
 obtain⟨i',hi',rfl⟩:=a4A hb
 rw[hi] at hi';cases hi'
 obtain⟨r1,r2,r3⟩:=b8o hroom
 obtain⟨r',arr,fz,hr2,kc⟩:=h.cel hc
 rw[hr] at hr2;cases hr2
 obtain⟨hown,hfz⟩:=kc.own hmv hro
 obtain⟨sz,hsz2,hsp⟩:=kc.spare hmv hex hro
 rw[hel,hs] at hsz2;cases hsz2
 have hlo:=I0 ho
 have hln:=I0 hn
 have hmulc:len*i.size≤cap*i.size:=Nat.mul_le_mul_right _ hlc
 have hmulk:(len+k)*i.size=len*i.size+k*i.size:=Nat.add_mul _ _ _
 have hmulg:cap*i.size≤(len+k)*i.size:=Nat.mul_le_mul_right _ (by omega)
 --the new block's F7 cells
 generalize hd:(⟨e,Nat.mul (len+k) i.size,bc (Nat.beq off 0) (v8 new (off+len*i.size) c.cs) (v8 (old++new) 0 .leaf),bc (Nat.beq off 0) c.zero (z.cells.toList.map cv1),none,false,false,false⟩:Cel)=d
 have hdn:d.n=(len+k)*i.size:=by rw[←hd];rfl
 have hde:d.elem=e:=by rw[←hd]
 have hdrd:∀j,j<(len+k)*i.size→d.rd j=((old++new)[j]?).getD .undef:=by
  intro j hj
  have hjl:j<(old++new).length:=by simp;omega
  by_cases h0:off=0
  ·subst h0
   have:=a2L c new (len*i.size) j d (by rw[←hd];simp[bc]) (by rw[←hd];simp[bc])
   rw[this]
   by_cases hj2:j<len*i.size
   ·rw[if_neg (by omega),List.getElem?_append_left (by omega),hrd j hj2];simp
   ·rw[if_pos (by omega),List.getElem?_append_right (by omega)];congr 2;omega
  ·have hb0:Nat.beq off 0=false:=by rw[A4];simpa using h0
   rw[b2j d (old++new) (by rw[←hd,hb0];rfl) j,List.getElem?_eq_getElem hjl]
   rfl
 have hcs:=M7 ho hn
 have hcell:∀j,j<(len+k)*i.size→∃v,d6 ρ (d.rd j)=some v∧v.oneCell'=true∧(olds++news)[j]? =some v:=by
  intro j hj
  have hjl:j<(old++new).length:=by simp;omega
  obtain⟨v,p1,p2⟩:=S9 hcs j (old++new)[j] (by simp)
  refine⟨v,by rw[hdrd j hj,List.getElem?_eq_getElem hjl];exact p2,?_,p1⟩
  have hm:=List.mem_of_getElem? p1
  rw[List.mem_append] at hm
  rcases hm with hm|hm
  ·exact(List.all_eq_true.1 hoa) v hm
  ·exact(List.all_eq_true.1 hna) v hm
 by_cases hfit:len+k≤cap+r.ext
 ·--there is F9
  have hAe:A=⟨r.blk,r.sh+off,none⟩:=by rcases hA with hA|⟨h1,h2⟩;exact hA;omega
  subst hAe
  have hmf:(len+k)*i.size≤(cap+r.ext)*i.size:=Nat.mul_le_mul_right _ hfit
  have hmf2:(cap+r.ext)*i.size=cap*i.size+r.ext*i.size:=Nat.add_mul _ _ _
  have hst:=a4f P r.blk (r.sh+(off+len*i.size)) c.elem fz news 0 arr w kc.heap hfz (by omega) (by simpa using hna)
  have hrun:=b7v (ty:=ty) (M8 ht) hi hsrc hfit (by rw[Addr.add_mk,Nat.add_assoc];exact hst)
  have hmove:=h.move (n':=off+len*i.size) (d:=d) (q:=⟨r.blk,r.sh+off,cap+r.ext-(len+k)⟩) (arr':=(arr.toList.take (r.sh+(off+len*i.size)+0)++news++arr.toList.drop (r.sh+(off+len*i.size)+0+news.length)).toArray)
   (w':=w.setRow r.blk (arr.toList.take (r.sh+(off+len*i.size)+0)++news++arr.toList.drop (r.sh+(off+len*i.size)+0+news.length)).toArray)
   hc hr kc hmv hex (by omega)
   (⟨h.base.os,h.base.tape,h.base.output,by simpa using h.base.size,fun q hq=>by rw[setRow_other w r.blk q _ (by omega)];exact h.base.block q hq⟩)
   (fun x hx _=>setRow_other w r.blk x _ hx) (by rw[setRow_heap w r.blk arr _ c.elem _ kc.heap,hde,hel]) (by simp only[List.size_toArray,Nat.add_zero];rw[a8Y _ _ _ (by simp;omega)];simpa using hfz) hown
   (.inl ⟨rfl,by rw[hde,hel],by rw[hdn];show _≤r.sh+off+_;omega,fun j hj=>by
    simp only[List.getElem?_toArray,Nat.add_zero]
    rw[a1v _ _ _ _ (by simp;omega),if_neg (by omega)];simp⟩)
   (by rw[←hd]) (by rw[←hd]) (by rw[←hd])
   (by rw[hdn];simp only[List.size_toArray,Nat.add_zero];rw[a8Y _ _ _ (by simp;omega)];simp;omega)
   (⟨i.size,by rw[hde];exact hs,by
    rw[hdn];simp only[List.size_toArray,Nat.add_zero];rw[a8Y _ _ _ (by simp;omega)]
    have e1:(cap+r.ext-(len+k))*i.size=(cap+r.ext)*i.size-(len+k)*i.size:=Nat.sub_mul _ _ _
    simp only[Array.length_toList]
    omega⟩)
   (fun j hj=>by
    rw[hdn] at hj
    obtain⟨v,p1,p2,p3⟩:=hcell j hj
    refine⟨v,p1,p2,?_⟩
    simp only[List.getElem?_toArray,Nat.add_zero]
    rw[a1v _ _ _ _ (by simp;omega)]
    by_cases hj2:j<len*i.size
    ·rw[if_neg (by omega)]
     rw[List.getElem?_append_left (by omega)] at p3
     obtain⟨v2,s1,s2,s3⟩:=kc.cells (by unfold M.readable;rw[hmv]) (off+j) (by omega)
     have:d6 ρ (c.rd (off+j))=some v:=by
      rw[hdrd j hj,List.getElem?_append_left (by omega),hrd j hj2] at p1
      exact p1
     rw[this] at s1;cases s1
     simpa[Nat.add_assoc] using s3
    ·rw[if_pos (by omega),List.getElem?_append_right (by omega)] at*
     rw[show r.sh+off+j-(r.sh+(off+len*i.size))=j-olds.length by omega]
     exact p3)
  refine⟨_,_,_,hrun,?_,hmove.2,hmove.1⟩
  rw[O5 (Ren.put_same _ _ _)]
  simp only[Bool.false_eq_true,if_false,Nat.add_zero]
  rw[show len+k+(cap+r.ext-(len+k))=cap+r.ext by omega]
 ·--a new row
  have hrun:=b7C (ty:=ty) (M8 ht) hi hz' hsrc (by omega) r1 r3 (by omega) hold
  have hge:=a8X (w:=w) (len+k) (cap+r.ext) e
  generalize hg:grownCap w (len+k) (cap+r.ext) e=gc at hrun hge
  have hzc:(Builtin.zeroCells z.cells (gc-(len+k))).size=(gc-(len+k))*i.size:=by simp[Builtin.zeroCells,hsz]
  have hmove:=h.move (n':=off+len*i.size) (d:=d) (q:=⟨w.heap.size,0,gc-(len+k)⟩) (arr':=olds.toArray++news.toArray++Builtin.zeroCells z.cells (gc-(len+k)))
   (w':=w.drew.alloc (.cells (olds.toArray++news.toArray++Builtin.zeroCells z.cells (gc-(len+k))) e)) hc hr kc hmv hex (by omega)
   (h.base.drew.alloc h.base.size _) (fun x _ hx=>Below.heap_alloc w.drew _ _ hx)
   (by show(w.heap.push _)[w.heap.size]? =_;simp[hde]) (.inl rfl) h.base.size (.inr rfl)
   (by rw[←hd]) (by rw[←hd]) (by rw[←hd])
   (by rw[hdn];simp[hzc];omega)
   (⟨i.size,by rw[hde];exact hs,by rw[hdn];simp[hzc];omega⟩)
   (fun j hj=>by
    rw[hdn] at hj
    obtain⟨v,p1,p2,p3⟩:=hcell j hj
    refine⟨v,p1,p2,?_⟩
    simp only[Nat.zero_add]
    rw[Array.getElem?_append_left (by simp;omega)]
    simpa using p3)
  refine⟨_,_,_,hrun,?_,hmove.2,hmove.1⟩
  rw[O5 (Ren.put_same _ _ _)]
  simp only[Bool.false_eq_true,if_false,Nat.add_zero]
  rw[show len+k+(gc-(len+k))=gc by omega]
end
end Go.Am
