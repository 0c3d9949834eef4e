import Derived.Test.YtooooiidpaecmaaGreatDoorAmB
import Derived.MapKept
/- The abstract machine: its memory and the model's. -/
namespace Go.Am
open Go Go.RowKit
theorem M.get_put(m:M)(b b':Nat)(x:Blk):(m.put b x).get b'=if b'=b then some x else m.get b':=a0E _ _ _ _
theorem M.next_put(m:M)(b:Nat)(x:Blk):(m.put b x).next=m.next:=rfl
theorem M.new_eq(m:M)(x:Blk):m.new x=⟨E1 x (pth m.next) m.tab,m.next+1⟩:=by unfold M.new;rw[z7]
theorem M.get_new(m:M)(x:Blk)(b:Nat):(m.new x).get b=if b=m.next then some x else m.get b:=by rw[M.new_eq];exact a0E _ _ _ _
theorem M.next_new(m:M)(x:Blk):(m.new x).next=m.next+1:=by rw[M.new_eq]
theorem M.cel_some{m:M}{b:Nat}{c:Cel}:m.cel b=some c↔m.get b=some (.cells c):=by
 unfold M.cel
 rw[g5w]
 cases h:m.get b with
 |none=>simp
 |some B=>cases B<;>simp
theorem M.cel_put(m:M)(b b':Nat)(c:Cel):(m.put b (.cells c)).cel b'=if b'=b then some c else m.cel b':=by
 unfold M.cel
 rw[M.get_put]
 by_cases h:b'=b
 ·simp[h,ob]
 ·simp[h]
theorem M.cel_new(m:M)(c:Cel)(b:Nat):(m.new (.cells c)).cel b=if b=m.next then some c else m.cel b:=by
 unfold M.cel
 rw[M.get_new]
 by_cases h:b=m.next
 ·simp[h,ob]
 ·simp[h]
inductive Reach(m:M):Nat→Nat→Prop where
 |refl (b:Nat):Reach m b b
 |step {b:Nat} {c:Cel} {h x:Nat} (hc:m.cel b=some c) (hm:c.mv=some h) (r:Reach m h x):Reach m b x
theorem b7L{m:M}{b x:Nat}(r:Reach m b x):∀(n:Nat),m.clean n b=true→∀c,m.cel x=some c→c.dirty=false:=by
 induction r with
 |refl b=>
  intro n h c hc
  cases n with
  |zero=>simp[M.clean] at h
  |succ n=>simp only[M.clean,hc,Bool.and_eq_true,Bool.not_eq_true'] at h;exact h.1
 |step hc hm _ ih=>
  intro n h c' hc'
  cases n with
  |zero=>simp[M.clean] at h
  |succ n=>simp only[M.clean,hc,hm,Bool.and_eq_true] at h;exact ih n h.2 c' hc'
theorem a4C{m m':M}(h:∀b c',m'.cel b=some c'→(∃b' c,m.cel b'=some c∧c.mv=some b)∨(∃c,m.cel b=some c)→∃c,m.cel b=some c∧(c'.mv=c.mv∨c.mv=none)∧(c'.dirty=false→c.dirty=false)):
  ∀(n b:Nat),((∃b' c,m.cel b'=some c∧c.mv=some b)∨(∃c,m.cel b=some c))→m'.clean n b=true→m.clean n b=true
 |0,b,_,k=>by simp[M.clean] at k
 |n+1,b,hb,k=>by
  simp only[M.clean] at k⊢
  cases hc':m'.cel b with
  |none=>simp[hc'] at k
  |some c'=>
   obtain⟨c,hc,hmv,hd⟩:=h b c' hc' hb
   simp only[hc',Bool.and_eq_true,Bool.not_eq_true'] at k
   simp only[hc,Bool.and_eq_true,Bool.not_eq_true']
   refine⟨hd k.1,?_⟩
   have k2:=k.2
   cases hm:c.mv with
   |none=>rfl
   |some h'=>
    rw[hm] at hmv
    have hmv:c'.mv=some h':=by rcases hmv with e|e;exact e;cases e
    rw[hmv] at k2
    exact a4C h n h' (.inl ⟨b,c,hc,hm⟩) k2
structure MapOk(ρ:Ren)(es:List (AV×AV))(st:St2)(ents:Array MapEntry)(clock:Nat)(kvs:List (Value×Value)):Prop where
 perm:kvs.Perm (ents.toList.map fun e=>(e.key,e.val))
 exact:st.isSome=true→kvs=ents.toList.map fun e=>(e.key,e.val)
 keys:i8 ρ (es.map (·.1))=some (kvs.map (·.1))
 vals:i8 ρ (es.map (·.2))=some (kvs.map (·.2))
 stamped:MapKept.Stamped ents clock
 stamps:∀l c,st=some (l,c)→ents.toList.map (·.born)=l∧clock=c
def a3p:Nat→LoopState
 |0=> .ready
 |1=> .busy
 |2=> .done
 |_=> .exhausted
structure LoopOk(ρ:Ren)(L:ALoop)(lp:Loop):Prop where
 state:lp.state=a3p L.st
 pend:lp.pending=L.pend
 params:lp.params.toList=L.params
 assign:lp.assign=L.assign
 body:lp.body=L.body
 fr:∀t,d6 ρ (E9 (pth t) L.fr)=some (lp.tmps.getD t undef)
 slots:(y9 lp.tmps.size L.assign&&y9 lp.tmps.size L.body)=true
 inb:∀p∈L.params,p<lp.tmps.size
 dfr:∃r,ρ.loc L.dfr=some r∧lp.defers=r.blk
def ObOk(ρ:Ren):OB→Obj→Prop
 | .map es st,O=>∃ents clock kvs,O= .map ents clock∧MapOk ρ es st ents clock kvs
 | .loop L,O=>∃lp,O= .loop lp∧LoopOk ρ L lp
 | .dfr op,O=>O= .deferred (if op then some [] else none)
 | .sit i s pos,O=>(∃q,ρ.loc i=some q∧q.sh=0)∧O= .stringIter s pos
 | .iter i none _ _ _,O=>(∃q,ρ.loc i=some q∧q.sh=0)∧∃s l n,O= .mapIter none s l n
 | .iter i (some b) since seen last,O=>(∃q,ρ.loc i=some q∧q.sh=0)∧∃r,ρ.loc b=some r∧O= .mapIter (some r.blk) since seen.toArray last
def a68(fz:Nat×Nat)(n:Nat):Prop:=fz=(0,0)∨n≤fz.1
structure CelOk(P:Program)(w0:World)(ρ:Ren)(m:M)(w:World)(r:RB)(c:Cel)(arr:Array Value)(fz:Nat×Nat):Prop where
 heap:w.heap[r.blk]? =some (.cells arr c.elem fz)
 own:c.mv=none→c.ro=false→w0.heap.size≤r.blk∧a68 fz arr.size
 fit:c.mv=none→r.sh+c.n≤arr.size
 exact:c.mv=none→c.exact=true→r.ext=0∧r.sh=0
 spare:c.mv=none→c.exact=false→c.ro=false→∃size,tsize P c.elem=some size∧r.sh+c.n+r.ext*size≤arr.size
 whole:c.mv=none→c.exact=true→c.ro=false→fz=(0,0)
 cells:m.readable c=true→∀i,i<c.n→∃v,d6 ρ (c.rd i)=some v∧v.oneCell'=true∧arr[r.sh+i]? =some v
def a3A(P:Program)(w0:World)(ρ:Ren)(m:M)(w:World)(r:RB):Blk→Prop
 | .cells c=>∃arr fz,CelOk P w0 ρ m w r c arr fz
 | .obj o=>∃O,w.heap[r.blk]? =some O∧w0.heap.size≤r.blk∧ObOk ρ o O
structure Sim(P:Program)(w0:World)(ρ:Ren)(m:M)(w:World):Prop where
 base:Below w0.heap.size w0 w
 next:∀b,m.next≤b→ρ.loc b=none∧m.get b=none
 blk:∀b B,m.get b=some B→∃r,ρ.loc b=some r∧a3A P w0 ρ m w r B
 mvok:∀b c h,m.cel b=some c→c.mv=some h→∃c',m.cel h=some c'
 own:∀b c b' c' r r',m.cel b=some c→m.cel b'=some c'→c'.mv=none→ρ.loc b=some r→ρ.loc b'=some r'→r.blk=r'.blk→w0.heap.size≤r.blk→Reach m b b'
 ext:∀b c b' c' r r',m.cel b=some c→m.cel b'=some c'→c'.mv=none→ρ.loc b=some r→ρ.loc b'=some r'→r.blk=r'.blk→w0.heap.size≤r.blk→r.sh+c.n≤r'.sh+c'.n
 mown:∀b es b' es' r r',m.get b=some (.obj es)→m.get b'=some (.obj es')→ρ.loc b=some r→ρ.loc b'=some r'→r.blk=r'.blk→b=b'
section
variable {P:Program} {w0:World} {ρ:Ren} {m:M} {w:World}
theorem Sim.cel(h:Sim P w0 ρ m w){b:Nat}{c:Cel}(hc:m.cel b=some c):∃r arr fz,ρ.loc b=some r∧CelOk P w0 ρ m w r c arr fz:=by
 obtain⟨r,hr,arr,fz,k⟩:=h.blk b _ (M.cel_some.1 hc)
 exact⟨r,arr,fz,hr,k⟩
theorem Sim.lt(h:Sim P w0 ρ m w){b:Nat}{B:Blk}(hb:m.get b=some B):b<m.next:=by
 rcases Nat.lt_or_ge b m.next with h1|h1
 ·exact h1
 ·rw[(h.next b h1).2] at hb;cases hb
theorem Sim.heap(h:Sim P w0 ρ m w){w':World}(he:w'.heap=w.heap)(ho:w'.os=w.os)(ht:w'.tape=w.tape)(hu:w'.output=w.output):Sim P w0 ρ m w':={
 base:=⟨ho.trans h.base.os,ht.trans h.base.tape,hu.trans h.base.output,by rw[he];exact h.base.size,fun k hk=>by rw[he];exact h.base.block k hk⟩
 next:=h.next
 blk:=fun b B hb=>by
  obtain⟨r,hr,k⟩:=h.blk b B hb
  refine⟨r,hr,?_⟩
  cases B with
  |cells c=>obtain⟨arr,fz,k⟩:=k;exact⟨arr,fz,by rw[he];exact k.heap,k.own,k.fit,k.exact,k.spare,k.whole,k.cells⟩
  |obj o=>obtain⟨O,k1,k2,k3⟩:=k;exact⟨O,by rw[he];exact k1,k2,k3⟩
 mvok:=h.mvok
 own:=h.own
 ext:=h.ext
 mown:=h.mown
 }
theorem Sim.drew(h:Sim P w0 ρ m w):Sim P w0 ρ m w.drew:=h.heap rfl rfl rfl rfl
theorem CelOk.keep{ρ':Ren}{m':M}{w':World}{r:RB}{c:Cel}{arr:Array Value}{fz:Nat×Nat}(h:CelOk P w0 ρ m w r c arr fz)(hρ:ρ.le ρ')
  (hh:w'.heap[r.blk]? =w.heap[r.blk]?) (hr:m'.readable c=true→m.readable c=true):CelOk P w0 ρ' m' w' r c arr fz:={
 heap:=hh.trans h.heap
 own:=h.own
 fit:=h.fit
 exact:=h.exact
 spare:=h.spare
 whole:=h.whole
 cells:=fun k i hi=>by obtain⟨v,h1,h2,h3⟩:=h.cells (hr k) i hi;exact⟨v,K5 hρ _ _ h1,h2,h3⟩
 }
theorem MapOk.mono{ρ':Ren}{es:List (AV×AV)}{st:St2}{ents:Array MapEntry}{clock:Nat}{kvs:List (Value×Value)}(h:MapOk ρ es st ents clock kvs)(hρ:ρ.le ρ'):MapOk ρ' es st ents clock kvs:=
 ⟨h.perm,h.exact,P2 hρ _ _ h.keys,P2 hρ _ _ h.vals,h.stamped,h.stamps⟩
theorem ObOk.mono{ρ':Ren}{o:OB}{O:Obj}(h:ObOk ρ o O)(hρ:ρ.le ρ'):ObOk ρ' o O:=by
 cases o with
 |map es st=>obtain⟨e,cl,kv,k1,k2⟩:=h;exact⟨e,cl,kv,k1,k2.mono hρ⟩
 |sit i s p=>obtain⟨⟨q,q1,q2⟩,h⟩:=h;exact⟨⟨q,hρ.1 _ _ q1,q2⟩,h⟩
 |iter i b s l n=>
  cases b with
  |none=>obtain⟨⟨q,q1,q2⟩,h⟩:=h;exact⟨⟨q,hρ.1 _ _ q1,q2⟩,h⟩
  |some b=>obtain⟨⟨q,q1,q2⟩,r,k1,k2⟩:=h;exact⟨⟨q,hρ.1 _ _ q1,q2⟩,r,hρ.1 _ _ k1,k2⟩
 |loop L=>
  obtain⟨lp,k1,k2⟩:=h
  obtain⟨r,hr,hd⟩:=k2.dfr
  exact⟨lp,k1,k2.state,k2.pend,k2.params,k2.assign,k2.body,fun t=>K5 hρ _ _ (k2.fr t),k2.slots,k2.inb,r,hρ.1 _ _ hr,hd⟩
 |dfr op=>exact h
theorem ObOk.notCells{o:OB}{c:Array Value}{e:TypeId}{f:Nat×Nat}(h:ObOk ρ o (.cells c e f)):False:=by
 cases o with
 |map es st=>obtain⟨_,_,_,k1,_⟩:=h;cases k1
 |sit i s p=>obtain⟨_,k1⟩:=h;cases k1
 |iter i b s l n=>
  cases b with
  |none=>obtain⟨_,_,_,_,k1⟩:=h;cases k1
  |some b=>obtain⟨_,_,_,k1⟩:=h;cases k1
 |loop L=>obtain⟨_,k1,_⟩:=h;cases k1
 |dfr op=>cases h
theorem a4V(c:Cel)(n i:Nat):rdL c (n+1) i=c.rd i::rdL c n (i+1):=by
 show c.rd i::fc (Nat.succ i) _=_
 rw[z7];rfl
theorem b8l(c:Cel):∀(n i:Nat),(rdL c n i).length=n
 |0,_=>rfl
 |n+1,i=>by rw[a4V,List.length_cons,b8l c n]
theorem b0K(c:Cel):∀(n i j:Nat),j<n→(rdL c n i)[j]? =some (c.rd (i+j))
 |0,_,j,h=>by omega
 |n+1,i,0,_=>by rw[a4V];rfl
 |n+1,i,j+1,h=>by
  rw[a4V,List.getElem?_cons_succ,b0K c n (i+1) j (by omega)]
  congr 2;omega
theorem Sim.rdN(h:Sim P w0 ρ m w){b i n:Nat}{l:List AV}(e:m.rdN b i n=some l):
  ∃r us,ρ.loc b=some r∧i8 ρ l=some us∧us.length=n∧us.all Value.oneCell'=true∧∀j u,us[j]? =some u→w.cell? ⟨r.blk,r.sh+i+j,none⟩=some u:=by
 unfold M.rdN at e
 obtain⟨c,hc,e⟩:=d9 e
 obtain⟨hb,e⟩:=l4 e
 simp only[Bool.and_eq_true] at hb
 obtain⟨h1,h2⟩:=hb
 have h1:i+n≤c.n:=Nat.le_of_ble_eq_true h1
 cases e
 obtain⟨r,arr,fz,hr,k⟩:=h.cel hc
 have key:∀(n i:Nat),i+n≤c.n→∃us,i8 ρ (rdL c n i)=some us∧us.length=n∧us.all Value.oneCell'=true∧∀j u,us[j]? =some u→arr[r.sh+i+j]? =some u:=by
  intro n
  induction n with
  |zero=>intro i _;exact⟨[],o0 ρ,rfl,rfl,by simp⟩
  |succ n ih=>
   intro i hi
   obtain⟨us,q1,q2,q3,q4⟩:=ih (i+1) (by omega)
   obtain⟨v,p1,p2,p3⟩:=k.cells h2 i (by omega)
   refine⟨v::us,by rw[a4V];exact o9.2 ⟨v,us,p1,q1,rfl⟩,by simp[q2],by simp[p2];simpa using q3,?_⟩
   intro j u hu
   cases j with
   |zero=>simp at hu;subst hu;exact p3
   |succ j=>simp at hu;have:=q4 j u hu;rwa [show r.sh+(i+1)+j=r.sh+i+(j+1) by omega] at this
 obtain⟨us,q1,q2,q3,q4⟩:=key n i h1
 exact⟨r,us,hr,q1,q2,q3,fun j u hu=>by simp[World.cell?,k.heap,q4 j u hu]⟩
theorem Sim.rd(h:Sim P w0 ρ m w){b i:Nat}{x:AV}(e:m.rd b i=some x):
  ∃r v,ρ.loc b=some r∧d6 ρ x=some v∧v.oneCell'=true∧w.cell? ⟨r.blk,r.sh+i,none⟩=some v:=by
 unfold M.rd at e
 obtain⟨c,hc,e⟩:=d9 e
 obtain⟨hb,e⟩:=l4 e
 simp only[Bool.and_eq_true] at hb
 obtain⟨h1,h2⟩:=hb
 have h1:i+1≤c.n:=Nat.le_of_ble_eq_true h1
 cases e
 obtain⟨r,arr,fz,hr,k⟩:=h.cel hc
 obtain⟨v,p1,p2,p3⟩:=k.cells h2 i (by omega)
 exact⟨r,v,hr,p1,p2,by simp[World.cell?,k.heap,p3]⟩
def Ren.put(ρ:Ren)(b:Nat)(r:RB):Ren:=⟨fun x=>if x=b then some r else ρ.loc x,ρ.sym⟩
theorem Ren.put_le{ρ:Ren}{b:Nat}{r:RB}(h:ρ.loc b=none):ρ.le (ρ.put b r):=
 ⟨fun x q e=>by show(if x=b then _ else _)=_;rw[if_neg (fun hx=>by rw[hx,h] at e;cases e)];exact e,rfl⟩
theorem Ren.put_same(ρ:Ren)(b:Nat)(r:RB):(ρ.put b r).loc b=some r:=by simp[Ren.put]
theorem Ren.put_ne{ρ:Ren}{b x:Nat}{r:RB}(h:x≠b):(ρ.put b r).loc x=ρ.loc x:=by simp[Ren.put,h]
theorem Below.lt_of_heap{w:World}{k:Nat}{o:Obj}(h:w.heap[k]? =some o):k<w.heap.size:=(Array.getElem?_eq_some_iff.1 h).1
theorem b7u(h:Sim P w0 ρ m w){B:Blk}{b:Nat}{c:Cel}(hc:m.cel b=some c)(e:(m.new B).readable c=true):m.readable c=true:=by
 unfold M.readable at e⊢
 cases hm:c.mv with
 |none=>rfl
 |some x=>
  rw[hm] at e
  refine a4C (m':=m.new B) ?_ _ _ (.inl ⟨b,c,hc,hm⟩) e
  intro y c' hy hor
  have hlt:∃c2,m.cel y=some c2:=by
   rcases hor with⟨b',c2,h1,h2⟩|h1
   ·exact h.mvok _ _ _ h1 h2
   ·exact h1
  obtain⟨c2,hc2⟩:=hlt
  have hne:y≠m.next:=by have:=h.lt (M.cel_some.1 hc2);omega
  have:(m.new B).cel y=m.cel y:=by unfold M.cel;rw[M.get_new,if_neg hne]
  have hcc:c2=c':=by rw[this,hc2] at hy;exact Option.some.inj hy
  subst hcc
  exact⟨c2,hc2,.inl rfl,id⟩
theorem b8r(h:Sim P w0 ρ m w){B:Blk}{b x:Nat}(r:Reach m b x):Reach (m.new B) b x:=by
 induction r with
 |refl b=>exact .refl b
 |step hc hm _ ih=>
  refine .step ?_ hm ih
  have:_≠m.next:=Nat.ne_of_lt (h.lt (M.cel_some.1 hc))
  unfold M.cel;rw[M.get_new,if_neg this];exact hc
theorem Sim.new(h:Sim P w0 ρ m w)(o:Obj)(B:Blk)(r:RB)(hr:r.blk=w.heap.size)
  (hB:a3A P w0 (ρ.put m.next r) (m.new B) (w.alloc o) r B) (hmv:∀c,B= .cells c→c.mv=none):
  Sim P w0 (ρ.put m.next r) (m.new B) (w.alloc o)∧ρ.le (ρ.put m.next r):=by
 have hle:ρ.le (ρ.put m.next r):=Ren.put_le (h.next _ (Nat.le_refl _)).1
 have hold:∀{b:Nat} {q:RB},ρ.loc b=some q→∀{X:Obj},w.heap[q.blk]? =some X→q.blk≠w.heap.size:=fun _ _ hX=>Nat.ne_of_lt (Below.lt_of_heap hX)
 refine⟨⟨h.base.alloc h.base.size o,?_,?_,?_,?_,?_,?_⟩,hle⟩
 ·intro b hb
  rw[M.next_new] at hb
  rw[Ren.put_ne (by omega),M.get_new,if_neg (by omega)]
  exact h.next b (by omega)
 ·intro b X hX
  rw[M.get_new] at hX
  by_cases hb:b=m.next
  ·rw[if_pos hb] at hX;cases hX;subst hb
   exact⟨r,Ren.put_same _ _ _,hB⟩
  ·rw[if_neg hb] at hX
   obtain⟨q,hq,k⟩:=h.blk b X hX
   refine⟨q,by rw[Ren.put_ne hb];exact hq,?_⟩
   cases X with
   |cells c=>
    obtain⟨arr,fz,k⟩:=k
    exact⟨arr,fz,k.keep hle (Below.heap_alloc _ _ _ (Below.lt_of_heap k.heap)) (b7u h (M.cel_some.2 hX))⟩
   |obj o=>
    obtain⟨O,k1,k2,k3⟩:=k
    exact⟨O,(Below.heap_alloc _ _ _ (Below.lt_of_heap k1)).trans k1,k2,k3.mono hle⟩
 ·intro b c x hc hm
  rw[M.cel_some,M.get_new] at hc
  by_cases hb:b=m.next
  ·rw[if_pos hb] at hc;cases hc
   rw[hmv c rfl] at hm;cases hm
  ·rw[if_neg hb] at hc
   obtain⟨c',hc'⟩:=h.mvok b c x (M.cel_some.2 hc) hm
   have:=h.lt (M.cel_some.1 hc')
   exact⟨c',by rw[M.cel_some,M.get_new,if_neg (by omega)];exact M.cel_some.1 hc'⟩
 ·intro b c b' c' q q' hc hc' hm' hq hq' e hg
  rw[M.cel_some,M.get_new] at hc hc'
  by_cases hb:b=m.next
  ·by_cases hb':b'=m.next
   ·rw[hb,hb'];exact .refl _
   ·rw[if_neg hb'] at hc'
    rw[hb,Ren.put_same] at hq;cases hq
    rw[Ren.put_ne hb'] at hq'
    obtain⟨q2,arr,fz,hq2,k⟩:=h.cel (M.cel_some.2 hc')
    rw[hq'] at hq2;cases hq2
    exact absurd (e.symm.trans hr) (hold hq' k.heap)
  ·rw[if_neg hb] at hc
   rw[Ren.put_ne hb] at hq
   by_cases hb':b'=m.next
   ·rw[hb',Ren.put_same] at hq';cases hq'
    obtain⟨q2,arr,fz,hq2,k⟩:=h.cel (M.cel_some.2 hc)
    rw[hq] at hq2;cases hq2
    exact absurd (e.trans hr) (hold hq k.heap)
   ·rw[if_neg hb'] at hc'
    rw[Ren.put_ne hb'] at hq'
    exact b8r h (h.own b c b' c' q q' (M.cel_some.2 hc) (M.cel_some.2 hc') hm' hq hq' e hg)
 ·intro b c b' c' q q' hc hc' hm' hq hq' e hg
  rw[M.cel_some,M.get_new] at hc hc'
  by_cases hb:b=m.next
  ·by_cases hb':b'=m.next
   ·rw[if_pos hb] at hc;rw[if_pos hb'] at hc'
    rw[hc] at hc';cases hc'
    rw[hb] at hq;rw[hb',hq] at hq';cases hq'
    exact Nat.le_refl _
   ·rw[if_neg hb'] at hc'
    rw[hb,Ren.put_same] at hq;cases hq
    rw[Ren.put_ne hb'] at hq'
    obtain⟨q2,arr,fz,hq2,k⟩:=h.cel (M.cel_some.2 hc')
    rw[hq'] at hq2;cases hq2
    exact absurd (e.symm.trans hr) (hold hq' k.heap)
  ·rw[if_neg hb] at hc
   rw[Ren.put_ne hb] at hq
   by_cases hb':b'=m.next
   ·rw[hb',Ren.put_same] at hq';cases hq'
    obtain⟨q2,arr,fz,hq2,k⟩:=h.cel (M.cel_some.2 hc)
    rw[hq] at hq2;cases hq2
    exact absurd (e.trans hr) (hold hq k.heap)
   ·rw[if_neg hb'] at hc'
    rw[Ren.put_ne hb'] at hq'
    exact h.ext b c b' c' q q' (M.cel_some.2 hc) (M.cel_some.2 hc') hm' hq hq' e hg
 ·intro b es b' es' q q' hc hc' hq hq' e
  rw[M.get_new] at hc hc'
  by_cases hb:b=m.next
  ·by_cases hb':b'=m.next
   ·rw[hb,hb']
   ·rw[if_neg hb'] at hc'
    rw[hb,Ren.put_same] at hq;cases hq
    rw[Ren.put_ne hb'] at hq'
    obtain⟨q2,hq2,O,k1,_⟩:=h.blk b' _ hc'
    rw[hq'] at hq2;cases hq2
    exact absurd (e.symm.trans hr) (hold hq' k1)
  ·rw[if_neg hb] at hc
   rw[Ren.put_ne hb] at hq
   by_cases hb':b'=m.next
   ·rw[hb',Ren.put_same] at hq';cases hq'
    obtain⟨q2,hq2,O,k1,_⟩:=h.blk b _ hc
    rw[hq] at hq2;cases hq2
    exact absurd (e.trans hr) (hold hq k1)
   ·rw[if_neg hb'] at hc'
    rw[Ren.put_ne hb'] at hq'
    exact h.mown b es b' es' q q' hc hc' hq hq' e
theorem Sim.newRow(h:Sim P w0 ρ m w)(c:Cel)(arr:Array Value)(x:Nat)(hmv:c.mv=none)(hfit:c.n≤arr.size)(hex:c.exact=true→x=0)
  (hsp:c.exact=false→∃size,tsize P c.elem=some size∧c.n+x*size≤arr.size)
  (hcells:∀i,i<c.n→∃v,d6 ρ (c.rd i)=some v∧v.oneCell'=true∧arr[i]? =some v):
  Sim P w0 (ρ.put m.next ⟨w.heap.size,0,x⟩) (m.new (.cells c)) (w.alloc (.cells arr c.elem))∧ρ.le (ρ.put m.next ⟨w.heap.size,0,x⟩):=by
 have hle:ρ.le (ρ.put m.next ⟨w.heap.size,0,x⟩):=Ren.put_le (h.next _ (Nat.le_refl _)).1
 refine h.new (.cells arr c.elem) (.cells c) ⟨w.heap.size,0,x⟩ rfl ⟨arr,(0,0),?_,?_,?_,?_,?_,fun _ _ _=>rfl,?_⟩ (fun c' e=>by cases e;exact hmv)
 ·show(w.heap.push _)[w.heap.size]? =_
  simp
 ·intro _ _;exact⟨h.base.size,.inl rfl⟩
 ·intro _;simpa using hfit
 ·intro _ e;exact⟨hex e,rfl⟩
 ·intro _ e _
  obtain⟨size,h1,h2⟩:=hsp e
  exact⟨size,h1,by simpa using h2⟩
 ·intro _ i hi
  obtain⟨v,h1,h2,h3⟩:=hcells i hi
  exact⟨v,K5 hle _ _ h1,h2,by simpa using h3⟩
theorem V3(c:Cel)(i:Nat):c.rd i=(A7 (pth i) c.cs).getD (U3 c.zero i):=by
 unfold Cel.rd
 cases A7 (pth i) c.cs<;>rfl
theorem a2L(c:Cel)(vs:List AV)(i j:Nat)(d:Cel)(hd:d.cs=v8 vs i c.cs)(hz:d.zero=c.zero):
  d.rd j=if i≤j∧j<i+vs.length then(vs[j-i]?).getD .undef else c.rd j:=by
 rw[V3,V3,hd,hz,T4]
 by_cases h:i≤j∧j<i+vs.length
 ·rw[if_pos h,if_pos h]
  have:j-i<vs.length:=by omega
  simp[this]
 ·rw[if_neg h,if_neg h]
theorem a1v(l us:List Value)(k j:Nat)(hk:k+us.length≤l.length):
  (l.take k++us++l.drop (k+us.length))[j]? =if k≤j∧j<k+us.length then us[j-k]? else l[j]? :=by
 have h1:(l.take k).length=k:=by simp;omega
 by_cases h:j<k
 ·rw[if_neg (by omega),List.append_assoc,List.getElem?_append_left (by omega),List.getElem?_take_of_lt h]
 ·by_cases h2:j<k+us.length
  ·rw[if_pos ⟨by omega,h2⟩,List.getElem?_append_left (by simp;omega),List.getElem?_append_right (by omega),h1]
  ·rw[if_neg (by omega),List.getElem?_append_right (by simp;omega),List.getElem?_drop]
   congr 1
   simp;omega
theorem b7z(_h:Sim P w0 ρ m w){b:Nat}{c d:Cel}(hb:m.cel b=some c)(hd:d.mv=c.mv)(hdd:d.dirty=false→c.dirty=false)
  {x:Nat} {e:Cel} (hx:m.cel x=some e) (k:(m.put b (.cells d)).readable e=true):m.readable e=true:=by
 unfold M.readable at k⊢
 cases hm:e.mv with
 |none=>rfl
 |some y=>
  rw[hm] at k
  refine a4C (m':=m.put b (.cells d)) ?_ _ _ (.inl ⟨x,e,hx,hm⟩) k
  intro y' c' hy _
  rw[M.cel_put] at hy
  by_cases hyb:y'=b
  ·rw[if_pos hyb] at hy;cases hy
   exact⟨c,by rw[hyb];exact hb,.inl hd,hdd⟩
  ·rw[if_neg hyb] at hy
   exact⟨c',hy,.inl rfl,id⟩
theorem a9l{b:Nat}{c d:Cel}(hb:m.cel b=some c)(hd:d.mv=c.mv){x y:Nat}(r:Reach m x y):Reach (m.put b (.cells d)) x y:=by
 induction r with
 |refl b=>exact .refl b
 | @step x' c' h' y' hc hm _ ih=>
  by_cases hx:x'=b
  ·subst hx
   rw[hb] at hc;cases hc
   exact .step (c:=d) (by rw[M.cel_put,if_pos rfl]) (hd.trans hm) ih
  ·exact .step (c:=c') (by rw[M.cel_put,if_neg hx];exact hc) hm ih
theorem Sim.put(h:Sim P w0 ρ m w){b:Nat}{c d:Cel}{r:RB}{arr arr':Array Value}{fz:Nat×Nat}(hb:m.cel b=some c)(hr:ρ.loc b=some r)(k:CelOk P w0 ρ m w r c arr fz)
  (hmv:c.mv=none) (hro:c.ro=false) (hd:d.mv=none) (hdd:d.dirty=true) (hel:d.elem=c.elem) (hn:d.n=c.n) (hex:d.exact=c.exact) (hsz:arr'.size=arr.size)
  (hcells:∀i,i<d.n→∃v,d6 ρ (d.rd i)=some v∧v.oneCell'=true∧arr'[r.sh+i]? =some v):
  Sim P w0 ρ (m.put b (.cells d)) (w.setRow r.blk arr'):=by
 have hown:=k.own hmv hro
 have hlt:r.blk<w.heap.size:=Below.lt_of_heap k.heap
 refine⟨⟨h.base.os,h.base.tape,h.base.output,by simpa using h.base.size,fun q hq=>by rw[setRow_other w r.blk q arr' (by omega)];exact h.base.block q hq⟩,?_,?_,?_,?_,?_,?_⟩
 ·intro x hx
  have:=h.lt (M.cel_some.1 hb)
  rw[M.next_put] at hx
  exact⟨(h.next x hx).1,by rw[M.get_put,if_neg (by omega)];exact(h.next x hx).2⟩
 ·intro x B hx
  rw[M.get_put] at hx
  by_cases hxb:x=b
  ·rw[if_pos hxb] at hx;cases hx;subst hxb
   refine⟨r,hr,arr',fz,?_,?_,?_,?_,?_,fun _ e _=>k.whole hmv (hex▸e) hro,?_⟩
   ·rw[setRow_heap w r.blk arr arr' c.elem fz k.heap,hel]
   ·intro _ _;exact⟨hown.1,by rw[hsz];exact hown.2⟩
   ·intro _;rw[hn,hsz];exact k.fit hmv
   ·intro _ e;exact k.exact hmv (hex▸e)
   ·intro _ e _
    obtain⟨size,h1,h2⟩:=k.spare hmv (hex▸e) hro
    exact⟨size,by rw[hel];exact h1,by rw[hn,hsz];exact h2⟩
   ·intro _;exact hcells
  ·rw[if_neg hxb] at hx
   obtain⟨q,hq,kq⟩:=h.blk x B hx
   refine⟨q,hq,?_⟩
   cases B with
   |obj o=>
    obtain⟨O,k1,k2,k3⟩:=kq
    have hne:q.blk≠r.blk:=fun e'=>by rw[e',k.heap] at k1;cases k1;exact k3.notCells
    exact⟨O,(setRow_other w r.blk q.blk arr' hne).trans k1,k2,k3⟩
   |cells e=>
    obtain⟨ar2,fz2,kq⟩:=kq
    have hread:(m.put b (.cells d)).readable e=true→m.readable e=true:=b7z h hb (hd.trans hmv.symm) (fun e'=>by rw[hdd] at e';cases e') (M.cel_some.2 hx)
    by_cases hbk:q.blk=r.blk
    ·have hreach:=h.own x e b c q r (M.cel_some.2 hx) hb hmv hq hr hbk (by rw[hbk];exact hown.1)
     have hst:∃y,e.mv=some y∧Reach m y b:=by
      cases hreach with
      |refl=>exact absurd rfl hxb
      |step hc hm r2=>rw[M.cel_some.2 hx] at hc;cases hc;exact⟨_,hm,r2⟩
     obtain⟨y,hy,hyb⟩:=hst
     have hk:=k.heap
     have hkq:=kq.heap
     rw[hbk,hk] at hkq
     injection hkq with hkq
     injection hkq with hk1 hk2 hk3
     refine⟨arr',fz,?_,?_,?_,?_,?_,fun e1=>(by rw[hy] at e1;cases e1),?_⟩
     ·rw[hbk,setRow_heap w r.blk arr arr' c.elem fz k.heap,hk2]
     ·intro e1;rw[hy] at e1;cases e1
     ·intro e1;rw[hy] at e1;cases e1
     ·intro e1;rw[hy] at e1;cases e1
     ·intro e1;rw[hy] at e1;cases e1
     ·intro e1
      exfalso
      unfold M.readable at e1
      rw[hy] at e1
      have:=b7L (a9l hb (hd.trans hmv.symm) hyb) _ e1 d (by rw[M.cel_put,if_pos rfl])
      rw[hdd] at this;cases this
    ·exact⟨ar2,fz2,kq.keep (Ren.le_refl ρ) (setRow_other w r.blk q.blk arr' hbk) hread⟩
 ·intro x e y hx hy
  rw[M.cel_put] at hx
  by_cases hxb:x=b
  ·rw[if_pos hxb] at hx;cases hx;rw[hd] at hy;cases hy
  ·rw[if_neg hxb] at hx
   obtain⟨c',hc'⟩:=h.mvok x e y hx hy
   by_cases hyb:y=b
   ·exact⟨d,by rw[M.cel_put,if_pos hyb]⟩
   ·exact⟨c',by rw[M.cel_put,if_neg hyb];exact hc'⟩
 ·intro x e y e' q q' hx hy hm hq hq' he hg
  have old:∀z ez,(m.put b (.cells d)).cel z=some ez→∃ez',m.cel z=some ez'∧(ez.mv=none→ez'.mv=none):=by
   intro z ez hz
   rw[M.cel_put] at hz
   by_cases hzb:z=b
   ·rw[if_pos hzb] at hz;exact⟨c,by rw[hzb];exact hb,fun _=>hmv⟩
   ·rw[if_neg hzb] at hz;exact⟨ez,hz,id⟩
  obtain⟨e1,h1,_⟩:=old x e hx
  obtain⟨e2,h2,h3⟩:=old y e' hy
  exact a9l hb (hd.trans hmv.symm) (h.own x e1 y e2 q q' h1 h2 (h3 hm) hq hq' he hg)
 ·intro x e y e' q q' hx hy hm hq hq' he hg
  have old:∀z ez,(m.put b (.cells d)).cel z=some ez→∃ez',m.cel z=some ez'∧(ez.mv=none→ez'.mv=none)∧ez.n=ez'.n:=by
   intro z ez hz
   rw[M.cel_put] at hz
   by_cases hzb:z=b
   ·rw[if_pos hzb] at hz;cases hz;exact⟨c,by rw[hzb];exact hb,fun _=>hmv,hn⟩
   ·rw[if_neg hzb] at hz;exact⟨ez,hz,id,rfl⟩
  obtain⟨e1,h1,_,n1⟩:=old x e hx
  obtain⟨e2,h2,h3,n2⟩:=old y e' hy
  rw[n1,n2]
  exact h.ext x e1 y e2 q q' h1 h2 (h3 hm) hq hq' he hg
 ·intro x es y es' q q' hx hy hq hq' he
  rw[M.get_put] at hx hy
  by_cases hxb:x=b
  ·rw[if_pos hxb] at hx;cases hx
  ·by_cases hyb:y=b
   ·rw[if_pos hyb] at hy;cases hy
   ·rw[if_neg hxb] at hx;rw[if_neg hyb] at hy
    exact h.mown x es y es' q q' hx hy hq hq' he
theorem a4f(P:Program)(g o:Nat)(t:TypeId)(fz:Nat×Nat):∀(vs:List Value) (i:Nat) (cur:Array Value) (w:World),w.heap[g]? =some (.cells cur t fz)→a68 fz cur.size→o+i+vs.length≤cur.size→(∀v∈vs,v.oneCell'=true)→
  (storeCells ⟨g,o,none⟩ vs i).run P w= .ok () (w.setRow g (cur.toList.take (o+i)++vs++cur.toList.drop (o+i+vs.length)).toArray)
 | [],i,cur,w,hg,_,_,_=>by
  simp only[storeCells,List.append_nil,List.length_nil,Nat.add_zero,List.take_append_drop,Array.toArray_toList]
  rw[setRow_self w g cur t fz hg]
  rfl
 |v::rest,i,cur,w,hg,hfz,hl,h1=>by
  have hi:o+i<cur.size:=by simp at hl;omega
  have hadd:(⟨g,o,none⟩:Addr).add i=⟨g,o+i,none⟩:=by unfold Addr.add;split<;>simp_all
  have hcell:w.cell? ⟨g,o+i,none⟩=some cur[o+i] :=by simp[World.cell?,hg,hi]
  have hfro:w.frozen? ⟨g,o+i,none⟩=false:=by
   obtain⟨lo,hi'⟩:=fz
   simp only[World.frozen?,hg,Bool.and_eq_false_iff,decide_eq_false_iff_not]
   rcases hfz with e|e
   ·cases e;right;omega
   ·left;simp only at e;omega
  have hst:(store ((⟨g,o,none⟩:Addr).add i) v).run P w= .ok () (w.setRow g (cur.setIfInBounds (o+i) v)):=by
   rw[hadd,run_store P w _ v _ (h1 v (by simp)),hcell]
   simp[hfro,setCell_eq_setRow w g (o+i) cur t fz v hg]
  have ih:=a4f P g o t fz rest (i+1) (cur.setIfInBounds (o+i) v) (w.setRow g (cur.setIfInBounds (o+i) v)) (setRow_heap w g cur _ t _ hg) (by simpa using hfz) (by simp at hl⊢;omega) (fun x hx=>h1 x (by simp[hx]))
  simp only[storeCells,Sem.run_bind,hst,Result.andThen_ok,ih,setRow_setRow]
  congr 3
  have e:=list_seg_step cur.toList (o+i) v rest (by simp at hl⊢;omega)
  simpa[Array.toList_setIfInBounds,Nat.add_assoc] using e
theorem Sim.wr(h:Sim P w0 ρ m w){b i:Nat}{vs:List AV}{us:List Value}{m':M}(e:m.wr b i vs=some m')(hu:i8 ρ vs=some us)(h1:us.all Value.oneCell'=true):
  ∃r w',ρ.loc b=some r∧(storeCells ⟨r.blk,r.sh+i,none⟩ us).run P w= .ok () w'∧Sim P w0 ρ m' w':=by
 unfold M.wr at e
 obtain⟨c,hc,e⟩:=d9 e
 obtain⟨hb,e⟩:=l4 e
 simp only[Bool.and_eq_true,Bool.not_eq_true',Option.isNone_iff_eq_none] at hb
 obtain⟨hle,hmv,hro⟩:=hb
 have hle:i+vs.length≤c.n:=Nat.le_of_ble_eq_true hle
 cases e
 obtain⟨r,arr,fz,hr,k⟩:=h.cel hc
 obtain⟨hown,hfz⟩:=k.own hmv hro
 have hlen:=I0 hu
 have hread:m.readable c=true:=by unfold M.readable;rw[hmv]
 have hsize:r.sh+i+us.length≤arr.size:=by have:=k.fit hmv;omega
 refine⟨r,_,hr,a4f P r.blk (r.sh+i) c.elem fz us 0 arr w k.heap hfz (by simpa using hsize) (by simpa using h1),?_⟩
 refine h.put hc hr k hmv hro rfl rfl rfl rfl rfl (by first|(simp;done)|(simp;omega)) ?_
 intro j hj
 rw[a2L c vs i j ⟨c.elem,c.n,v8 vs i c.cs,c.zero,none,true,c.exact,c.ro⟩ rfl rfl]
 simp only[List.getElem?_toArray,Nat.add_zero]
 rw[a1v _ _ _ _ (by simpa using hsize)]
 by_cases hij:i≤j∧j<i+vs.length
 ·rw[if_pos hij,if_pos (by omega)]
  obtain⟨v,q1,q2⟩:=S9 hu (j-i) (vs[j-i]'(by omega)) (by simp)
  refine⟨v,?_,?_,by rw[show r.sh+j-(r.sh+i)=j-i by omega];exact q1⟩
  ·rw[List.getElem?_eq_getElem (by omega)];exact q2
  ·exact(List.all_eq_true.1 h1) v (List.mem_of_getElem? q1)
 ·rw[if_neg hij,if_neg (by omega)]
  obtain⟨v,q1,q2,q3⟩:=k.cells hread j hj
  exact⟨v,q1,q2,by simpa using q3⟩
end
end Go.Am
