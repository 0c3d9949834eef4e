import Derived.Test.YtooooiidpaecmaaGreatDoorAmW
/- The abstract machine: laws about runs whose values are not known. -/
namespace Go.Am
open Go Go.RowKit
noncomputable def iv(i:Int):AV:=cv1 (.int .i64 i)
def tv(l:List UInt8):AV:= .p (.string ⟨l.toArray⟩)
def l9:AV:= .p (.pointer none)
def i7:AV:= .p (.slice none 0 0)
theorem U0(i:Int):toI (iv i)=some (.i64,i):=by cases i<;>rfl
theorem d6d(l:List UInt8):toS (tv l)=some ⟨l.toArray⟩:=rfl
noncomputable def tm(t:Nat):RO:= .tmp (pth t)
noncomputable def C0(t:Nat)(v:AV)(fr:Fr):Fr:=C7 v (pth t) fr
theorem d6(a b:Nat)(v:AV)(fr:Fr):ev (tm a) (C0 b v fr)=if a=b then v else ev (tm a) fr:=by
 show Option.rec (motive:=fun _=>AV) AV.undef (fun v=>v) (y7 (pth a) (C7 v (pth b) fr))=_
 rw[X9]
 by_cases h:a=b
 ·rw[if_pos h,if_pos h]
 ·rw[if_neg h,if_neg h];rfl
theorem T9(v:AV)(fr:Fr):ev (.cst v) fr=v:=rfl
theorem b52(v:AV)(l:List AV)(i:Nat)(t:Fr):s9 (v::l) i t=s9 l (i+1) (C0 i v t):=b42 v l i t
theorem b7a(i:Nat)(t:Fr):s9 [] i t=t:=rfl
theorem b6g(x:RO)(l:List RO)(fr:Fr):evs (x::l) fr=ev x fr::evs l fr:=rfl
theorem c2M(fr:Fr):evs [] fr= [] :=rfl
inductive CC where
 |skip
 |reg (l:List CO)
 |drawn (l:List CO) (ps:List (Nat×Nat))
 |seq (a b:CC)
 |cond (c:RO) (a b:CC)
 |block (id:Nat) (b:CC)
 |loop (b:CC)
 |exit (id:Nat)
 |ret
 |scope (b:Code)
 |goto (l:Nat)
 |bad
noncomputable def i8(P:Program):Code→CC
 | .skip=> .skip
 | .region _ ops d=>bc d (bc (H5 P ops) (.drawn (C9 P ops.toList ops.toList) (N8 P ops)) .bad) (.reg (C9 P ops.toList ops.toList))
 | .seq a b=> .seq (i8 P a) (i8 P b)
 | .cond c a b=> .cond (cO c) (i8 P a) (i8 P b)
 | .block id b=> .block id (i8 P b)
 | .loop b=> .loop (i8 P b)
 | .exit id=> .exit id
 | .ret=> .ret
 | .label _=> .skip
 | .scope b=> .scope b
 | .goto l=> .goto l
 |_=> .bad
def W9:Code→Option Code
 | .scope b=>some b
 | .seq a b=>match W9 a with
  |some c=>some c
  |none=>W9 b
 | .cond _ a b=>match W9 a with
  |some c=>some c
  |none=>W9 b
 | .block _ b=>W9 b
 | .loop b=>W9 b
 |_=>none
def c1i(f:Option Func):Code:=match f with
 |some f=>match f.body with
  |some c=>(W9 c).getD .skip
  |none=> .skip
 |none=> .skip
def T8(b:Code)(l:Nat):Code:=(findLabel b l).getD .skip
section
variable {P:Program} {T:Tb}
noncomputable abbrev cfN(P:Program)(T:Tb)(n:Nat):CF:=P7 P T (l4 P T n)
def WpF(P:Program)(T:Tb)(g:FuncId)(args:List AV)(m:M)(Q:AV→M→Prop):Prop:=∃N v m',(∀n,N≤n→E9 P T (l4 P T n) g args m=some (v,m'))∧Q v m'
def WpC(P:Program)(T:Tb)(cc:CC)(fr:Fr)(m:M)(Q:X→Fr→M→Prop):Prop:=
 ∀c,i8 P c=cc→∀ds ar,∃N x fr' m',(∀n,N≤n→l4 P T n (.c c) ⟨fr,m,ds,ar⟩=some (x,⟨fr',m',ds,ar⟩))∧Q x fr' m'
def WpO(P:Program)(T:Tb)(l:List CO)(fr:Fr)(m:M)(Q:Fr→M→Prop):Prop:=∃N fr' m',(∀n,N≤n→A6 (cfN P T n) l fr m=some (fr',m'))∧Q fr' m'
def WpT(P:Program)(T:Tb)(l:List CO)(fr:Fr)(m:M)(H:List T3)(Q:List T3→Prop):Prop:=∃N t,(∀n,N≤n→trO (cfN P T n) l fr m=some t)∧Q (H++t)
theorem WpF.mono{g:FuncId}{args:List AV}{m:M}{Q Q':AV→M→Prop}(h:WpF P T g args m Q)(k:∀v m',Q v m'→Q' v m'):WpF P T g args m Q':=by
 obtain⟨N,v,m',h1,h2⟩:=h
 exact⟨N,v,m',h1,k _ _ h2⟩
theorem WpC.mono{cc:CC}{fr:Fr}{m:M}{Q Q':X→Fr→M→Prop}(h:WpC P T cc fr m Q)(k:∀x f m',Q x f m'→Q' x f m'):WpC P T cc fr m Q':=by
 intro c hc ds ar
 obtain⟨N,x,f,m',h1,h2⟩:=h c hc ds ar
 exact⟨N,x,f,m',h1,k _ _ _ h2⟩
theorem up{α:Type}{N:Nat}{f g:Nat→α}(hf:∀n,f (n+1)=g n){r:α}(h:∀n,N≤n→g n=r):∀n,N+1≤n→f n=r:=by
 intro n hn
 cases n with
 |zero=>omega
 |succ n=>rw[hf];exact h n (by omega)
def b00(P:Program)(T:Tb)(r:R)(d:Option (List Bool))(l:List CO)(fr:Fr)(Q:Fr→M→Prop):Prop:=match r with
 |some (v,m)=>WpO P T l (l0 d v fr) m Q
 |none=>False
def WpOC(P:Program)(T:Tb)(g:FuncId)(args:List AV)(m:M)(d:Option (List Bool))(l:List CO)(fr:Fr)(Q:Fr→M→Prop):Prop:=
 ∃N fr' m',(∀n,N≤n→I6 d (A6 (cfN P T n) l) fr (E9 P T (l4 P T n) g args m)=some (fr',m'))∧Q fr' m'
noncomputable def C2(w:Bool)(x:AV):Option Bool:=elB (elTup none (fun _=>some false) x) (fun c=>some (bc c w (!w))) x
theorem e8E{fr:Fr}{m:M}{Q:Fr→M→Prop}:WpO P T [] fr m Q=Q fr m:=by
 apply propext
 constructor
 ·rintro⟨N,f,m',h1,h2⟩
  have:=h1 N (Nat.le_refl _)
  cases this
  exact h2
 ·intro h
  exact⟨0,fr,m,fun _ _=>rfl,h⟩
theorem f2k{d:Option (List Bool)}{o:OP}{l:List CO}{fr:Fr}{m:M}{Q:Fr→M→Prop}:WpO P T (.op d none o::l) fr m Q=b00 P T (run o fr m) d l fr Q:=by
 apply propext
 have e:∀n,A6 (cfN P T n) (.op d none o::l) fr m=I6 d (A6 (cfN P T n) l) fr (run o fr m):=fun n=>rfl
 unfold WpO
 simp only[e]
 unfold b00
 split
 ·rename_i v m1 h
  rw[h]
  exact Iff.rfl
 ·rename_i h
  rw[h]
  constructor
  ·rintro⟨N,f,m',h1,_⟩
   cases h1 N (Nat.le_refl _)
  ·exact False.elim
theorem WpOC.of{g:FuncId}{args:List AV}{m:M}{d:Option (List Bool)}{l:List CO}{fr:Fr}{Q:Fr→M→Prop}{Q1:AV→M→Prop}(h:WpF P T g args m Q1)(k:∀v m1,Q1 v m1→WpO P T l (l0 d v fr) m1 Q):WpOC P T g args m d l fr Q:=by
 obtain⟨N,v,m1,h1,h2⟩:=h
 obtain⟨N2,f,m2,h3,h4⟩:=k v m1 h2
 refine⟨max N N2,f,m2,fun n hn=> ?_,h4⟩
 rw[h1 n (by omega)]
 exact h3 n (by omega)
def b0Z(P:Program)(T:Tb)(r:R)(d:Option (List Bool))(l:List CO)(fr:Fr)(m:M)(H:List T3)(Q:List T3→Prop):Prop:=match r with
 |some (v,m1)=>WpT P T l (l0 d v fr) m1 (H++ [⟨fr,m,v⟩]) Q
 |none=>False
def WpTC(P:Program)(T:Tb)(g:FuncId)(args:List AV)(m:M)(d:Option (List Bool))(l:List CO)(fr:Fr)(H:List T3)(Q:List T3→Prop):Prop:=
 ∃N t,(∀n,N≤n→(ob (E9 P T (l4 P T n) g args m) fun q=>ob (trO (cfN P T n) l (l0 d q.1 fr) q.2) fun t=>some (⟨fr,m,q.1⟩::t))=some t)∧Q (H++t)
theorem e9i{fr:Fr}{m:M}{H:List T3}{Q:List T3→Prop}:WpT P T [] fr m H Q=Q (H++ [⟨fr,m,AV.undef⟩]):=by
 apply propext
 constructor
 ·rintro⟨N,t,h1,h2⟩
  have:=h1 N (Nat.le_refl _)
  cases this
  exact h2
 ·intro h
  exact⟨0,_,fun _ _=>rfl,h⟩
theorem a1O{l:List CO}{fr:Fr}{m:M}{H:List T3}{Q:List T3→Prop}{x:T3}:
  (∃N t,(∀n,N≤n→(ob (trO (cfN P T n) l fr m) fun t=>some (x::t))=some t)∧Q (H++t))↔WpT P T l fr m (H++ [x]) Q:=by
 constructor
 ·rintro⟨N,t,h1,h2⟩
  obtain⟨t0,h3,h4⟩:=d7 (h1 N (Nat.le_refl _))
  cases h4
  refine⟨N,t0,fun n hn=> ?_,by simpa using h2⟩
  obtain⟨t1,h5,h6⟩:=d7 (h1 n hn)
  cases h6
  exact h5
 ·rintro⟨N,t,h1,h2⟩
  exact⟨N,x::t,fun n hn=>by rw[h1 n hn];rfl,by simpa using h2⟩
theorem f1H{d:Option (List Bool)}{o:OP}{l:List CO}{fr:Fr}{m:M}{H:List T3}{Q:List T3→Prop}:WpT P T (.op d none o::l) fr m H Q=b0Z P T (run o fr m) d l fr m H Q:=by
 apply propext
 have e:∀n,trO (cfN P T n) (.op d none o::l) fr m=ob (run o fr m) fun q=>ob (trO (cfN P T n) l (l0 d q.1 fr) q.2) fun t=>some (⟨fr,m,q.1⟩::t):=fun n=>by
  show ob (run o fr m) _=_
  rfl
 unfold b0Z
 split
 ·rename_i v m1 h
  rw[←a1O]
  unfold WpT
  simp only[e,h]
  exact Iff.rfl
 ·rename_i h
  unfold WpT
  simp only[e,h]
  constructor
  ·rintro⟨N,t,h1,_⟩
   cases h1 N (Nat.le_refl _)
  ·exact False.elim
theorem WpTC.of{g:FuncId}{args:List AV}{m:M}{d:Option (List Bool)}{l:List CO}{fr:Fr}{H:List T3}{Q:List T3→Prop}{Q1:AV→M→Prop}(h:WpF P T g args m Q1)(k:∀v m1,Q1 v m1→WpT P T l (l0 d v fr) m1 (H++ [⟨fr,m,v⟩]) Q):WpTC P T g args m d l fr H Q:=by
 obtain⟨N,v,m1,h1,h2⟩:=h
 obtain⟨N2,t,h3,h4⟩:=k v m1 h2
 refine⟨max N N2,⟨fr,m,v⟩::t,fun n hn=> ?_,by simpa using h4⟩
 rw[h1 n (by omega)]
 show(ob (trO (cfN P T n) l (l0 d v fr) m1) _)=_
 rw[h3 n (by omega)]
 rfl
noncomputable def T5(l:List CO)(t:List T3)(ip:Nat×Nat):Bool:=match l[ip.1]?,t[ip.1]?,t[ip.2]? with
 |some (.op _ g o),some a,some b=>match ob (H1 g a.fr) fun t=>bc t (run o a.fr b.m) (some (AV.undef,b.m)) with
  |some q=>t8 40 q.1 a.x
  |none=>false
 |_,_,_=>false
theorem e7f{cf:CF}{l:List CO}{t:List T3}{ip:Nat×Nat}(h:T5 l t ip=true):again cf l t ip=true:=by
 unfold T5 at h
 unfold again
 split at h
 ·rename_i d g o a b h1 h2 h3
  simp only[h1,h2,h3]
  exact h
 ·cases h
theorem e7p{fr:Fr}{m:M}{Q:X→Fr→M→Prop}(h:Q .normal fr m):WpC P T .skip fr m Q:=by
 intro c hc
 cases c<;>simp only[i8,reduceCtorEq] at hc
 case skip=>exact fun _ _=>⟨1,.normal,fr,m,fun n hn=>by cases n with|zero=>omega|succ n=>rfl,h⟩
 case label l=>exact fun _ _=>⟨1,.normal,fr,m,fun n hn=>by cases n with|zero=>omega|succ n=>rfl,h⟩
 case region id ops d=>cases d<;>simp only[l7,o8,reduceCtorEq] at hc;cases hs:H5 P ops<;>rw[hs] at hc<;>cases hc
theorem e7N{c:Code}{l:List CO}(hc:i8 P c= .reg l):∃id ops,c= .region id ops false∧C9 P ops.toList ops.toList=l:=by
 cases c<;>simp only[i8,reduceCtorEq] at hc
 case region id ops d=>
  cases d
  ·simp only[o8,CC.reg.injEq] at hc;exact⟨id,ops,rfl,hc⟩
  ·rw[l7] at hc;cases hs:H5 P ops<;>rw[hs] at hc<;>cases hc
theorem e47{c:Code}{l:List CO}{ps:List (Nat×Nat)}(hc:i8 P c= .drawn l ps):∃id ops,c= .region id ops true∧C9 P ops.toList ops.toList=l∧N8 P ops=ps∧H5 P ops=true:=by
 cases c<;>simp only[i8,reduceCtorEq] at hc
 case region id ops d=>
  cases d
  ·cases hc
  ·rw[l7] at hc
   cases hs:H5 P ops<;>rw[hs] at hc
   ·cases hc
   ·simp only[l7,CC.drawn.injEq] at hc;exact⟨id,ops,rfl,hc.1,hc.2,hs⟩
theorem P1{id:Nat}{ops:Array Oper}{d:Bool}{cc:CC}(h:i8 P (.region id ops d)=cc):(∃l,cc= .reg l)∨(∃l ps,cc= .drawn l ps)∨cc= .bad:=by
 subst h
 cases d
 ·exact .inl ⟨_,rfl⟩
 ·cases hs:H5 P ops
  ·exact .inr (.inr (by simp only[i8,hs];rfl))
  ·exact .inr (.inl ⟨_,_,by simp only[i8,hs];rfl⟩)
theorem e8Z{l:List CO}{fr:Fr}{m:M}{Q:X→Fr→M→Prop}(h:WpO P T l fr m (Q .normal)):WpC P T (.reg l) fr m Q:=by
 intro c hc ds ar
 obtain⟨id,ops,rfl,rfl⟩:=e7N hc
 obtain⟨N,f,m',h1,h2⟩:=h
 refine⟨N+1,.normal,f,m',up (fun n=>rfl) (fun n hn=> ?_),h2⟩
 show(ob (A6 (cfN P T n) _ fr m) fun q=>some (X.normal,St.mk q.1 q.2 ds ar))=_
 rw[h1 n hn];rfl
theorem e6r{l:List CO}{ps:List (Nat×Nat)}{fr:Fr}{m:M}{Q:X→Fr→M→Prop}
  (h:WpT P T l fr m [] fun t=>ps.all (T5 l t)=true∧∃a,I8 t=some a∧Q .normal a.fr a.m):WpC P T (.drawn l ps) fr m Q:=by
 intro c hc ds ar
 obtain⟨id,ops,rfl,rfl,rfl,hs⟩:=e47 hc
 obtain⟨N,t,h1,h2,a,h3,h4⟩:=h
 refine⟨N+1,.normal,a.fr,a.m,up (fun n=>rfl) (fun n hn=> ?_),h4⟩
 show(ob (X4 P (cfN P T n) ops fr m) fun q=>some (X.normal,St.mk q.1 q.2 ds ar))=_
 unfold X4
 have h2:(N8 P ops).all (T5 (C9 P ops.toList ops.toList) t)=true:=h2
 have h5:(N8 P ops).all (again (cfN P T n) (C9 P ops.toList ops.toList) t)=true:=by
  rw[List.all_eq_true] at h2⊢
  exact fun x hx=>e7f (h2 x hx)
 have h3:I8 t=some a:=h3
 rw[hs,h1 n hn]
 simp only[l7,ob,h5,h3]
theorem e9d{a b:CC}{fr:Fr}{m:M}{Q:X→Fr→M→Prop}(h:WpC P T a fr m fun x fr1 m1=>match x with| .normal=>WpC P T b fr1 m1 Q|x=>Q x fr1 m1):WpC P T (.seq a b) fr m Q:=by
 intro c hc ds ar
 cases c<;>simp only[i8,reduceCtorEq,CC.seq.injEq] at hc
 case region=>rcases P1 (id:=0) hc with⟨_,h⟩|⟨_,_,h⟩|h<;>cases h
 case seq c1 c2=>
  obtain⟨N,x,f,m',h1,h2⟩:=h c1 hc.1 ds ar
  cases x with
  |normal=>
   obtain⟨N2,x2,f2,m2,h3,h4⟩:=h2 c2 hc.2 ds ar
   refine⟨max N N2+1,x2,f2,m2,up (fun n=>rfl) (fun n hn=> ?_),h4⟩
   show andThen (l4 P T n (.c c1) ⟨fr,m,ds,ar⟩) (l4 P T n (.c c2))=_
   rw[h1 n (by omega)]
   exact h3 n (by omega)
  |exit id=>exact⟨N+1,_,f,m',up (fun n=>rfl) (fun n hn=>by show andThen (l4 P T n (.c c1) ⟨fr,m,ds,ar⟩) (l4 P T n (.c c2))=_;rw[h1 n hn];rfl),h2⟩
  |goto id=>exact⟨N+1,_,f,m',up (fun n=>rfl) (fun n hn=>by show andThen (l4 P T n (.c c1) ⟨fr,m,ds,ar⟩) (l4 P T n (.c c2))=_;rw[h1 n hn];rfl),h2⟩
  |ret=>exact⟨N+1,_,f,m',up (fun n=>rfl) (fun n hn=>by show andThen (l4 P T n (.c c1) ⟨fr,m,ds,ar⟩) (l4 P T n (.c c2))=_;rw[h1 n hn];rfl),h2⟩
theorem b6H{c:RO}{a b:CC}{fr:Fr}{m:M}{Q:X→Fr→M→Prop}{t:Bool}(ht:ev c fr= .b t)(h:WpC P T (if t then a else b) fr m Q):WpC P T (.cond c a b) fr m Q:=by
 intro d hc ds ar
 cases d<;>simp only[i8,reduceCtorEq,CC.cond.injEq] at hc
 case region=>rcases P1 (id:=0) hc with⟨_,h⟩|⟨_,_,h⟩|h<;>cases h
 case cond o c1 c2=>
  obtain⟨rfl,rfl,rfl⟩:=hc
  cases t with
  |true=>
   obtain⟨N,x,f,m',h1,h2⟩:=h c1 rfl ds ar
   refine⟨N+1,x,f,m',up (fun n=>rfl) (fun n hn=> ?_),h2⟩
   show elB none (fun t=>bc t (l4 P T n (.c c1) ⟨fr,m,ds,ar⟩) (l4 P T n (.c c2) ⟨fr,m,ds,ar⟩)) (ev (cO o) fr)=_
   rw[ht];exact h1 n hn
  |false=>
   obtain⟨N,x,f,m',h1,h2⟩:=h c2 rfl ds ar
   refine⟨N+1,x,f,m',up (fun n=>rfl) (fun n hn=> ?_),h2⟩
   show elB none (fun t=>bc t (l4 P T n (.c c1) ⟨fr,m,ds,ar⟩) (l4 P T n (.c c2) ⟨fr,m,ds,ar⟩)) (ev (cO o) fr)=_
   rw[ht];exact h1 n hn
theorem e6y{id:Nat}{b:CC}{fr:Fr}{m:M}{Q:X→Fr→M→Prop}(h:WpC P T b fr m fun x fr1 m1=>match x with| .exit i=>if i=id then Q .normal fr1 m1 else Q (.exit i) fr1 m1|x=>Q x fr1 m1):WpC P T (.block id b) fr m Q:=by
 intro c hc ds ar
 cases c<;>simp only[i8,reduceCtorEq,CC.block.injEq] at hc
 case region=>rcases P1 (id:=0) hc with⟨_,h⟩|⟨_,_,h⟩|h<;>cases h
 case block i c1=>
  obtain⟨rfl,rfl⟩:=hc
  obtain⟨N,x,f,m',h1,h2⟩:=h c1 rfl ds ar
  have e:∀n,N≤n→Z8 P T (l4 P T n) (.c (.block i c1)) ⟨fr,m,ds,ar⟩=a0I i (some (x,⟨f,m',ds,ar⟩)):=fun n hn=>by
   show a0I i (l4 P T n (.c c1) ⟨fr,m,ds,ar⟩)=_
   rw[h1 n hn]
  cases x with
  |normal=>exact⟨N+1,_,f,m',up (fun n=>rfl) e,h2⟩
  |goto l=>exact⟨N+1,_,f,m',up (fun n=>rfl) e,h2⟩
  |ret=>exact⟨N+1,_,f,m',up (fun n=>rfl) e,h2⟩
  |exit j=>
   by_cases hj:j=i
   ·subst hj
    have h2:Q .normal f m':=by simpa using h2
    exact⟨N+1,.normal,f,m',up (fun n=>rfl) (fun n hn=>(e n hn).trans (by show bc (Nat.beq j j) _ _=_;rw[Nat.beq_refl];rfl)),h2⟩
   ·have h2:Q (.exit j) f m':=by simpa[hj] using h2
    exact⟨N+1,.exit j,f,m',up (fun n=>rfl) (fun n hn=>(e n hn).trans (by show bc (Nat.beq j i) _ _=_;rw[y4,decide_eq_false hj];rfl)),h2⟩
theorem e7L{id:Nat}{fr:Fr}{m:M}{Q:X→Fr→M→Prop}(h:Q (.exit id) fr m):WpC P T (.exit id) fr m Q:=by
 intro c hc ds ar
 cases c<;>simp only[i8,reduceCtorEq,CC.exit.injEq] at hc
 case region=>rcases P1 (id:=0) hc with⟨_,h⟩|⟨_,_,h⟩|h<;>cases h
 case exit i=>subst hc;exact⟨1,_,fr,m,fun n hn=>by cases n with|zero=>omega|succ n=>rfl,h⟩
theorem e9n{fr:Fr}{m:M}{Q:X→Fr→M→Prop}(h:Q .ret fr m):WpC P T .ret fr m Q:=by
 intro c hc ds ar
 cases c<;>simp only[i8,reduceCtorEq] at hc
 case region=>rcases P1 (id:=0) hc with⟨_,h⟩|⟨_,_,h⟩|h<;>cases h
 case ret=>exact⟨1,_,fr,m,fun n hn=>by cases n with|zero=>omega|succ n=>rfl,h⟩
theorem e7V{l:Nat}{fr:Fr}{m:M}{Q:X→Fr→M→Prop}(h:Q (.goto l) fr m):WpC P T (.goto l) fr m Q:=by
 intro c hc ds ar
 cases c<;>simp only[i8,reduceCtorEq,CC.goto.injEq] at hc
 case region=>rcases P1 (id:=0) hc with⟨_,h⟩|⟨_,_,h⟩|h<;>cases h
 case goto i=>subst hc;exact⟨1,_,fr,m,fun n hn=>by cases n with|zero=>omega|succ n=>rfl,h⟩
theorem e7z{b:CC}{fr:Fr}{m:M}{Q:X→Fr→M→Prop}(Inv:Nat→Fr→M→Prop){k:Nat}(h0:Inv k fr m)
  (hs:∀k fr m,Inv k fr m→WpC P T b fr m fun x fr1 m1=>match x with| .normal=>∃k',k'<k∧Inv k' fr1 m1|x=>Q x fr1 m1):WpC P T (.loop b) fr m Q:=by
 intro c hc ds ar
 cases c<;>simp only[i8,reduceCtorEq,CC.loop.injEq] at hc
 case region=>rcases P1 (id:=0) hc with⟨_,h⟩|⟨_,_,h⟩|h<;>cases h
 case loop c1=>
  subst hc
  induction k using Nat.strongRecOn generalizing fr m with
  |_ k ih=>
   obtain⟨N,x,f,m',h1,h2⟩:=hs k fr m h0 c1 rfl ds ar
   cases x with
   |normal=>
    obtain⟨k',hk,h3⟩:=h2
    obtain⟨N2,x2,f2,m2,h4,h5⟩:=ih k' hk h3
    refine⟨max N N2+1,x2,f2,m2,up (fun n=>rfl) (fun n hn=> ?_),h5⟩
    show andThen (l4 P T n (.c c1) ⟨fr,m,ds,ar⟩) (l4 P T n (.c (.loop c1)))=_
    rw[h1 n (by omega)]
    exact h4 n (by omega)
   |exit id=>exact⟨N+1,_,f,m',up (fun n=>rfl) (fun n hn=>by show andThen (l4 P T n (.c c1) ⟨fr,m,ds,ar⟩) (l4 P T n (.c (.loop c1)))=_;rw[h1 n hn];rfl),h2⟩
   |goto id=>exact⟨N+1,_,f,m',up (fun n=>rfl) (fun n hn=>by show andThen (l4 P T n (.c c1) ⟨fr,m,ds,ar⟩) (l4 P T n (.c (.loop c1)))=_;rw[h1 n hn];rfl),h2⟩
   |ret=>exact⟨N+1,_,f,m',up (fun n=>rfl) (fun n hn=>by show andThen (l4 P T n (.c c1) ⟨fr,m,ds,ar⟩) (l4 P T n (.c (.loop c1)))=_;rw[h1 n hn];rfl),h2⟩
theorem X7{g:FuncId}{fn:Func}(h:P.funcs[g]? =some fn):y7 (pth g) (M4 P)=some fn:=by
 unfold M4
 rw[R4]
 have hlt:g<P.funcs.toList.length:=by simpa using(Array.getElem?_eq_some_iff.1 h).1
 rw[if_pos ⟨Nat.zero_le _,by simpa using hlt⟩]
 simpa using h
structure FnAt(P:Program)(T:Tb)(g:FuncId)(cc:CC)(nt:Nat)(rs:List ResultVar):Prop where
 ex:∃fn c,y7 (pth g) T.fs=some fn∧fn.body=some c∧i8 P c=cc∧u6 fn.ntmps c=true∧fn.ntmps=nt∧fn.results.toList=rs
theorem e57{g:FuncId}{cc:CC}{nt:Nat}{rs:List ResultVar}(hf:FnAt P T g cc nt rs){args:List AV}{m:M}(hit:T.it g args m=none)(hn:Nat.ble args.length nt=true){Q:AV→M→Prop}
  (h:WpC P T cc (s9 args (nat_lit 0) .leaf) m fun x fr' m'=>(x= .normal∨x= .ret)∧∃l,C5 P ⟨fr',m',[],none⟩ rs=some l∧Q (one l) m'):WpF P T g args m Q:=by
 obtain⟨fn,c,h1,h2,h3,h4,h5,h6⟩:=hf.ex
 subst h5 h6
 obtain⟨N,x,f,m',k1,k2,l,k3,k4⟩:=h c h3 [] none
 refine⟨N,one l,m',fun n hn'=> ?_,k4⟩
 unfold E9
 rw[h1]
 show Option.rec (motive:=fun _=>R) _ (fun r=>r) (T.it g args m)=_
 rw[hit]
 show Option.rec (motive:=fun _=>R) _ _ fn.body=_
 rw[h2]
 show bc (u6 fn.ntmps c&&Nat.ble args.length fn.ntmps) _ none=_
 rw[h4,hn]
 show(ob (Z3 (l4 P T n (.c c) ⟨s9 args (nat_lit 0) .leaf,m,[],none⟩)) _)=_
 rw[k1 n hn']
 have e:Z3 (some (x,⟨f,m',[],none⟩))=some ⟨f,m',[],none⟩:=by rcases k2 with rfl|rfl<;>rfl
 rw[e]
 show(ob (C5 P ⟨f,m',[],none⟩ fn.results.toList) fun l=>some (one l,m'))=_
 rw[k3];rfl
theorem e5Q{g:FuncId}{fn:Func}(hf:y7 (pth g) T.fs=some fn){args:List AV}{m m':M}{v:AV}(hit:T.it g args m=some (some (v,m'))){Q:AV→M→Prop}(h:Q v m'):WpF P T g args m Q:=by
 refine⟨0,v,m',fun n _=> ?_,h⟩
 unfold E9
 rw[hf]
 show Option.rec (motive:=fun _=>R) _ (fun r=>r) (T.it g args m)=_
 rw[hit]
theorem e8H{g:FuncId}{fn:Func}(hf:y7 (pth g) T.fs=some fn)(hb:fn.body=none){args:List AV}{m m':M}{v:AV}(hit:T.it g args m=none)(he:ext fn.name args m=some (v,m')){Q:AV→M→Prop}(h:Q v m'):WpF P T g args m Q:=by
 refine⟨0,v,m',fun n _=> ?_,h⟩
 unfold E9
 rw[hf]
 show Option.rec (motive:=fun _=>R) _ (fun r=>r) (T.it g args m)=_
 rw[hit]
 show Option.rec (motive:=fun _=>R) _ _ fn.body=_
 rw[hb]
 exact he
end
end Go.Am
