import Derived.Test.YtooooiidpaecmaaGreatDoorAmM
/- The abstract machine: orders. -/
namespace Go.Am
open Go Go.RowKit
theorem a9a{acc:List Nat}{j:Nat}:∀{l:List Edge},Nat.testBit (R4 acc l) j=true→∃e∈l,Region.binds .any e=true∧(j=e.on∨Nat.testBit (acc.getD e.on 0) j=true)
 | [],h=>by simp[R4] at h
 |e::l,h=>by
  unfold R4 at h
  rw[A6] at h
  split at h
  ·rename_i hb
   have h:Nat.testBit ((1<<<e.on|||acc.getD e.on 0)|||R4 acc l) j=true:=h
   rw[Nat.testBit_or,Nat.testBit_or,Bool.or_eq_true,Bool.or_eq_true] at h
   rcases h with(h|h)|h
   ·refine⟨e,by simp,hb,.inl ?_⟩
    rw[Nat.one_shiftLeft,Nat.testBit_two_pow] at h
    simpa using(of_decide_eq_true h).symm
   ·exact⟨e,by simp,hb,.inr h⟩
   ·obtain⟨e',he',hb',h'⟩:=a9a h
    exact⟨e',by simp[he'],hb',h'⟩
  ·obtain⟨e',he',hb',h'⟩:=a9a h
   exact⟨e',by simp[he'],hb',h'⟩
theorem a8Z:∀(l:List Oper) (acc:List Nat),(K1 l acc).length=acc.length+l.length
 | [],acc=>rfl
 |o::l,acc=>by unfold K1;rw[a8Z];simp;omega
theorem a9Q:∀(l:List Oper) (acc:List Nat) (j:Nat),j<acc.length→(K1 l acc)[j]? =acc[j]?
 | [],acc,j,_=>rfl
 |o::l,acc,j,h=>by
  unfold K1
  rw[a9Q l _ j (by simp;omega),List.getElem?_append_left h]
theorem b9f:∀(l:List Oper) (acc:List Nat) (i:Nat) (o:Oper),l[i]? =some o→
  ∃pre:List Nat,pre.length=acc.length+i∧(∀j,j<pre.length→pre[j]? =(K1 l acc)[j]?)∧(K1 l acc)[acc.length+i]? =some (R4 pre o.after.toList)
 | [],acc,i,o,h=>by cases h
 |o'::l,acc,0,o,h=>by
  cases h
  refine⟨acc,rfl,fun j hj=> ?_,?_⟩
  ·unfold K1
   rw[a9Q l _ j (by simp;omega),List.getElem?_append_left hj]
  ·unfold K1
   rw[a9Q l _ _ (by simp)]
   simp
 |o'::l,acc,i+1,o,h=>by
  obtain⟨pre,h1,h2,h3⟩:=b9f l (acc++ [R4 acc o'.after.toList]) i o (by simpa using h)
  refine⟨pre,by rw[h1];simp;omega,h2,?_⟩
  unfold K1
  rw[show acc.length+(i+1)=(acc++ [R4 acc o'.after.toList]).length+i by simp;omega]
  exact h3
section
variable {P:Program} {ops:Array Oper}
noncomputable def anc(ops:Array Oper)(i:Nat):Nat:=(K1 ops.toList []).getD i 0
def d6P(ops:Array Oper)(L:Nat→Bool):Prop:=∀i o,ops[i]? =some o→L i=true→∀e∈o.after,Region.binds .any e=true→L e.on=true
theorem a83{L:Nat→Bool}(hc:d6P ops L):∀(i:Nat) (o:Oper),ops[i]? =some o→(∀e∈o.after,Region.binds .any e=true→L e.on=true)→∀j,Nat.testBit (anc ops i) j=true→L j=true:=by
 intro i
 induction i using Nat.strongRecOn with
 |ind i ih=>
  intro o ho hr j hj
  obtain⟨pre,h1,h2,h3⟩:=b9f ops.toList [] i o (by simpa using ho)
  simp only[List.length_nil,Nat.zero_add] at h1 h3
  rw[anc,List.getD_eq_getElem?_getD,h3,Option.getD_some] at hj
  obtain⟨e,he,hb,h⟩:=a9a hj
  have he':e∈o.after:=by simpa using he
  rcases h with rfl|h
  ·exact hr e he' hb
  ·have hlt:e.on<pre.length:=by
    rcases Nat.lt_or_ge e.on pre.length with h'|h'
    ·exact h'
    ·rw[List.getD_eq_getElem?_getD,List.getElem?_eq_none h'] at h;simp at h
   have hon:=hr e he' hb
   have hlt':e.on<ops.size:=by
    have:i<ops.size:=(Array.getElem?_eq_some_iff.1 ho).1
    omega
   have hoo:ops[e.on]? =some ops[e.on] :=Array.getElem?_eq_getElem hlt'
   refine ih e.on (by omega) _ hoo (hc _ _ hoo hon) j ?_
   rw[anc,List.getD_eq_getElem?_getD,←h2 _ hlt,←List.getD_eq_getElem?_getD]
   exact h
theorem b8M:∀(l:List Oper) (as:List Nat) (i:Nat) (o:Oper) (a:Nat),l[i]? =some o→as[i]? =some a→(a37 P ops l as)[i]? =some ⟨a,(C3 P ops.toList o).cls,o.dst,o.looksAt ops⟩
 | [],_,i,o,a,h,_=>by cases h
 |_::_,[],i,o,a,_,h=>by cases h
 |o'::l,a'::as,0,o,a,h,h'=>by cases h;cases h';rfl
 |o'::l,a'::as,i+1,o,a,h,h'=>b8M l as i o a h h'
theorem b7H:∀(l:List Oper) (as:List Nat),l.length=as.length→(a37 P ops l as).length=l.length
 | [],_,_=>rfl
 |_::_,[],h=>by cases h
 |o'::l,a'::as,h=>by
  show(a37 P ops l as).length+1=_
  rw[b7H l as (by simpa using h)];rfl
theorem a1o{i:Nat}{o:Oper}(ho:ops[i]? =some o):(Q9 P ops)[i]? =some ⟨anc ops i,(C3 P ops.toList o).cls,o.dst,o.looksAt ops⟩:=by
 have hlt:i<(K1 ops.toList []).length:=by
  rw[a8Z]
  have:=(Array.getElem?_eq_some_iff.1 ho).1
  simpa using this
 refine b8M _ _ i o (anc ops i) (by simpa using ho) ?_
 rw[anc,List.getD_eq_getElem?_getD,List.getElem?_eq_getElem hlt,Option.getD_some]
theorem f52:(Q9 P ops).length=ops.size:=by
 unfold Q9
 rw[b7H _ _ (by rw[a8Z];simp)]
 simp
theorem b7X{y:SI}:∀(l:List SI) (k j:Nat) (x:SI),a3O y k l=true→l[j]? =some x→a7Q (k+j) x y=true
 | [],_,_,_,_,h=>by cases h
 |x'::l,k,0,x,h,h'=>by
  cases h'
  simp only[a3O,Bool.and_eq_true] at h
  exact h.1
 |x'::l,k,j+1,x,h,h'=>by
  simp only[a3O,Bool.and_eq_true] at h
  have:=b7X l (k+1) j x h.2 h'
  rw[show k+(j+1)=k+1+j by omega]
  exact this
theorem b7D:∀(l done:List SI) (i j:Nat) (x y:SI),a4Y done l=true→j<i→done.length≤i→(done++l)[i]? =some y→(done++l)[j]? =some x→a7Q j x y=true
 | [],done,i,j,x,y,_,_,hd,hy,_=>by simp[List.getElem?_eq_none hd] at hy
 |z::l,done,i,j,x,y,h,hji,hd,hy,hx=>by
  simp only[a4Y,Bool.and_eq_true] at h
  by_cases hi:i=done.length
  ·subst hi
   have hz:y=z:=by simpa using hy.symm
   subst hz
   rw[List.getElem?_append_left hji] at hx
   have:=b7X done 0 j x h.1 hx
   rwa [Nat.zero_add] at this
  ·refine b7D l (done++ [z]) i j x y h.2 hji (by simp;omega) ?_ ?_
   ·rw[←hy];simp
   ·rw[←hx];simp
theorem b79:∀(l:List Oper) (k i:Nat) (o:Oper),a3N k l=true→l[i]? =some o→∀e∈o.after,Region.binds .any e=true→e.on<k+i
 | [],_,_,_,_,h=>by cases h
 |o'::l,k,0,o,h,h'=>by
  cases h'
  intro e he hb
  simp only[a3N,Bool.and_eq_true,List.all_eq_true,Bool.or_eq_true,Bool.not_eq_true',Nat.ble_eq] at h
  rcases h.1 e (by simpa using he) with h1|h1
  ·rw[hb] at h1;cases h1
  ·omega
 |o'::l,k,i+1,o,h,h'=>by
  intro e he hb
  simp only[a3N,Bool.and_eq_true] at h
  have:=b79 l (k+1) i o h.2 h' e he hb
  omega
def W1(ops:Array Oper)(i:Nat):Option Nat:=(ops[i]?).bind (·.dst)
noncomputable def C9(P:Program)(ops:Array Oper)(i:Nat):Bool:=match ops[i]? with
 |some o=>Nat.beq (C3 P ops.toList o).cls 2
 |none=>false
theorem b73{d t:Nat}{x:Option Nat}{l:List Nat}(h:a7B x l=false)(hx:x=some d)(ht:t∈l):d≠t:=by
 subst hx
 simp only[a7B,List.any_eq_false] at h
 intro e
 exact h t ht (by rw[e];exact Nat.beq_refl t)
theorem f55{x y:Option Nat}{d:Nat}(h:b3w x y=false)(hx:x=some d):y≠some d:=by
 subst hx
 intro e
 subst e
 simp[b3w] at h
theorem b8W(h:J6 P ops=true){i j:Nat}{oi oj:Oper}(hi:ops[i]? =some oi)(hj:ops[j]? =some oj)(hji:j<i)(hn:Nat.testBit (anc ops i) j=false):
  (C9 P ops i&&C9 P ops j)=false∧(∀d,oj.dst=some d→∀t∈oi.looksAt ops,d≠t)∧(∀d,oj.dst=some d→oi.dst≠some d)∧(∀d,oi.dst=some d→∀t∈oj.looksAt ops,d≠t):=by
 simp only[J6,Bool.and_eq_true] at h
 have:=b7D (Q9 P ops) [] i j _ _ h.2 hji (Nat.zero_le _) (a1o (P:=P) hi) (a1o (P:=P) hj)
 simp only[a7Q,hn,Bool.false_or,Bool.and_eq_true,Bool.not_eq_true'] at this
 obtain⟨h1,h2,h3,h4⟩:=this
 refine⟨?_,fun d hd t ht=>b73 h2 hd ht,fun d hd=>f55 h3 hd,fun d hd t ht=>b73 h4 hd ht⟩
 simp only[C9,hi,hj]
 rw[Bool.and_comm]
 exact h1
end
def V(D:Nat→Option Nat)(X:Nat→AV)(a:AV)(S:Nat→Bool)(t:Nat):Nat→AV
 |0=>a
 |n+1=>if S n=true∧D n=some t then X n else V D X a S t n
def Mp(E:Nat→Bool)(S:Nat→Bool):Nat→Nat
 |0=>0
 |n+1=>if S n=true∧E n=true then n+1 else Mp E S n
section
variable {D:Nat→Option Nat} {X:Nat→AV} {a:AV} {S S':Nat→Bool} {t:Nat} {E:Nat→Bool}
theorem f1e{i:Nat}(h1:∀j,j<i→D j=some t→S j=true):∀n,i≤n→(∀j,i≤j→j<n→S j=true→D j≠some t)→V D X a S t n=V D X a (fun _=>true) t i:=by
 intro n
 induction n with
 |zero=>
  intro hi _
  have:i=0:=by omega
  subst this
  rfl
 |succ n ih=>
  intro hi h2
  by_cases hin:i=n+1
  ·subst hin
   clear ih h2 hi
   have:∀k,k≤n+1→V D X a S t k=V D X a (fun _=>true) t k:=by
    intro k
    induction k with
    |zero=>intro _;rfl
    |succ k ihk=>
     intro hk
     unfold V
     rw[ihk (by omega)]
     by_cases hd:D k=some t
     ·simp[hd,h1 k (by omega) hd]
     ·simp[hd]
   exact this _ (Nat.le_refl _)
  ·show(if S n=true∧D n=some t then X n else V D X a S t n)=_
   rw[if_neg (fun c=>h2 n (by omega) (by omega) c.1 c.2)]
   exact ih (by omega) fun j hj hjn=>h2 j hj (by omega)
theorem e2N{i:Nat}(h1:∀j,j<i→E j=true→S j=true):∀n,i≤n→(∀j,i≤j→j<n→S j=true→E j=false)→Mp E S n=Mp E (fun _=>true) i:=by
 intro n
 induction n with
 |zero=>
  intro hi _
  have:i=0:=by omega
  subst this
  rfl
 |succ n ih=>
  intro hi h2
  by_cases hin:i=n+1
  ·subst hin
   clear ih h2 hi
   have:∀k,k≤n+1→Mp E S k=Mp E (fun _=>true) k:=by
    intro k
    induction k with
    |zero=>intro _;rfl
    |succ k ihk=>
     intro hk
     unfold Mp
     rw[ihk (by omega)]
     by_cases hd:E k=true
     ·simp[hd,h1 k (by omega) hd]
     ·simp[hd]
   exact this _ (Nat.le_refl _)
  ·show(if S n=true∧E n=true then n+1 else Mp E S n)=_
   rw[if_neg (fun c=>by have:=h2 n (by omega) (by omega) c.1;rw[c.2] at this;cases this)]
   exact ih (by omega) fun j hj hjn=>h2 j hj (by omega)
theorem g55{i:Nat}(hs:∀j,j≠i→S' j=S j)(hi:S' i=true)(h0:S i=false):∀n,(∀j,i<j→j<n→S j=true→D i=some t→D j≠some t)→V D X a S' t n=if i<n∧D i=some t then X i else V D X a S t n:=by
 intro n
 induction n with
 |zero=>intro _;rfl
 |succ n ih=>
  intro h2
  unfold V
  rw[ih fun j hj hjn=>h2 j hj (by omega)]
  by_cases hin:n=i
  ·subst hin
   rw[hi,h0]
   by_cases hd:D n=some t
   ·simp[hd]
   ·simp[hd]
  ·rw[hs n hin]
   by_cases hlt:i<n
   ·by_cases hd:D i=some t
    ·by_cases hsn:S n=true
     ·have:=h2 n hlt (by omega) hsn hd
      simp[hlt,hd,this,show i<n+1 by omega]
     ·simp[hlt,hd,hsn,show i<n+1 by omega]
    ·simp[hd]
   ·have:¬i<n+1:=by omega
    simp[hlt,this]
theorem g3n{i:Nat}(hs:∀j,j≠i→S' j=S j)(hi:S' i=true)(h0:S i=false):∀n,(∀j,i<j→j<n→S j=true→E i=true→E j=false)→Mp E S' n=if i<n∧E i=true then i+1 else Mp E S n:=by
 intro n
 induction n with
 |zero=>intro _;rfl
 |succ n ih=>
  intro h2
  unfold Mp
  rw[ih fun j hj hjn=>h2 j hj (by omega)]
  by_cases hin:n=i
  ·subst hin
   rw[hi,h0]
   by_cases hd:E n=true
   ·simp[hd]
   ·simp[hd]
  ·rw[hs n hin]
   by_cases hlt:i<n
   ·by_cases hd:E i=true
    ·by_cases hsn:S n=true
     ·have:=h2 n hlt (by omega) hsn hd
      simp[hlt,hd,this,show i<n+1 by omega]
     ·simp[hlt,hd,hsn,show i<n+1 by omega]
    ·simp[hd]
   ·have:¬i<n+1:=by omega
    simp[hlt,this]
theorem c37:∀n,Mp E S n=0∧(∀j,j<n→S j=true→E j=false)∨∃q,q<n∧Mp E S n=q+1∧S q=true∧E q=true∧∀j,q<j→j<n→S j=true→E j=false
 |0=> .inl ⟨rfl,fun j hj=>by omega⟩
 |n+1=>by
  unfold Mp
  by_cases h:S n=true∧E n=true
  ·rw[if_pos h]
   exact .inr ⟨n,by omega,rfl,h.1,h.2,fun j h1 h2=>by omega⟩
  ·rw[if_neg h]
   have hn:S n=true→E n=false:=fun hs=>by
    cases he:E n with
    |false=>rfl
    |true=>exact absurd ⟨hs,he⟩ h
   rcases c37 n with⟨h1,h2⟩|⟨q,hq,h1,h2,h3,h4⟩
   ·refine .inl ⟨h1,fun j hj hs=> ?_⟩
    by_cases hjn:j=n
    ·subst hjn;exact hn hs
    ·exact h2 j (by omega) hs
   ·refine .inr ⟨q,by omega,h1,h2,h3,fun j hqj hj hs=> ?_⟩
    by_cases hjn:j=n
    ·subst hjn;exact hn hs
    ·exact h4 j hqj (by omega) hs
end
section
variable {P:Program} {cf:CF} {ops:List Oper}
theorem f9z{co:CO}{l:List CO}{fr:Fr}{m:M}:trO cf (co::l) fr m=ob (H9 cf co fr m) fun q=>ob (trO cf l (l5 co.dst q.1 fr) q.2) fun T=>some (⟨fr,m,q.1⟩::T):=by
 show ob (H9 cf co fr m) _=_
 cases H9 cf co fr m<;>rfl
theorem f9a:∀(l:List Oper) (fr:Fr) (m:M) (T:List T3),trO cf (E6 P ops l) fr m=some T→
  T.length=l.length+1∧(∃t,T[0]? =some t∧t.fr=fr∧t.m=m)∧
  (∀i o,l[i]? =some o→∃s t,T[i]? =some s∧T[i+1]? =some t∧H9 cf (C3 P ops o) s.fr s.m=some (s.x,t.m)∧t.fr=l5 (o.dst.map pth) s.x s.fr)∧L9 T=T[l.length]? :=by
 intro l
 induction l with
 |nil=>
  intro fr m T h
  have h:some [⟨fr,m,AV.undef⟩] =some T:=h
  cases h
  exact⟨rfl,⟨_,rfl,rfl,rfl⟩,(fun i o h=>nomatch h),rfl⟩
 |cons o l ih=>
  intro fr m T h
  change trO cf (C3 P ops o::E6 P ops l) fr m=_ at h
  rw[f9z] at h
  obtain⟨⟨x,m1⟩,h1,h2⟩:=d9 h
  obtain⟨T',h3,h4⟩:=d9 h2
  cases h4
  rw[b89 h1] at h3
  obtain⟨hl,⟨t,ht,htf,htm⟩,hall,hlast⟩:=ih _ _ _ h3
  refine⟨by simp[hl],⟨_,rfl,rfl,rfl⟩,?_,?_⟩
  ·intro i o' ho'
   cases i with
   |zero=>
    cases ho'
    exact⟨_,t,rfl,by simpa using ht,by rw[htm];exact h1,htf⟩
   |succ i=>
    obtain⟨s,u,h5,h6,h7,h8⟩:=hall i o' (by simpa using ho')
    exact⟨s,u,by simpa using h5,by simpa using h6,h7,h8⟩
  ·cases T' with
   |nil=>simp at hl
   |cons a b=>simpa[L9] using hlast
end
end Go.Am
