import Derived.Test.YtooooiidpaecmaaGreatDoorAmW
/- The abstract machine: laws about runs whose values are not known. -/
namespace Go.Am
open Go Go.RowKit
noncomputable def iv(i:Int):AV:=cv1 (.int .i64 i)
def tv(l:List UInt8):AV:= .p (.string ⟨l.toArray⟩)
def s9:AV:= .p (.pointer none)
def j7:AV:= .p (.slice none 0 0)
theorem Y7(i:Int):toI (iv i)=some (.i64,i):=by cases i<;>rfl
theorem e4b(l:List UInt8):toS (tv l)=some ⟨l.toArray⟩:=rfl
noncomputable def tm(t:Nat):RO:= .tmp (pth t)
noncomputable def D5(t:Nat)(v:AV)(fr:Fr):Fr:=E1 v (pth t) fr
theorem d7(a b:Nat)(v:AV)(fr:Fr):ev (tm a) (D5 b v fr)=if a=b then v else ev (tm a) fr:=by
 show Option.rec (motive:=fun _=>AV) AV.undef (fun v=>v) (A7 (pth a) (E1 v (pth b) fr))=_
 rw[a0E]
 by_cases h:a=b
 ·rw[if_pos h,if_pos h]
 ·rw[if_neg h,if_neg h];rfl
theorem Q0(v:AV)(fr:Fr):ev (.cst v) fr=v:=rfl
theorem b8K(v:AV)(l:List AV)(i:Nat)(t:Fr):v8 (v::l) i t=v8 l (i+1) (D5 i v t):=b7Z v l i t
theorem c0b(i:Nat)(t:Fr):v8 [] i t=t:=rfl
theorem b9Y(x:RO)(l:List RO)(fr:Fr):evs (x::l) fr=ev x fr::evs l fr:=rfl
theorem d1i(fr:Fr):evs [] fr= [] :=rfl
inductive CC where
 |skip
 |reg (l:List CO)
 |drawn (l:List CO) (ps:List (Nat×Nat))
 |seq (a b:CC)
 |cond (c:RO) (a b:CC)
 |block (id:Nat) (b:CC)
 |loop (b:CC)
 |exit (id:Nat)
 |ret
 |scope (b:Code)
 |goto (l:Nat)
 |bad
noncomputable def j9(P:Program):Code→CC
 | .skip=> .skip
 | .region _ ops d=>bc d (bc (J6 P ops) (.drawn (E6 P ops.toList ops.toList) (S7 P ops)) .bad) (.reg (E6 P ops.toList ops.toList))
 | .seq a b=> .seq (j9 P a) (j9 P b)
 | .cond c a b=> .cond (cO c) (j9 P a) (j9 P b)
 | .block id b=> .block id (j9 P b)
 | .loop b=> .loop (j9 P b)
 | .exit id=> .exit id
 | .ret=> .ret
 | .label _=> .skip
 | .scope b=> .scope b
 | .goto l=> .goto l
 |_=> .bad
def a0z:Code→Option Code
 | .scope b=>some b
 | .seq a b=>match a0z a with
  |some c=>some c
  |none=>a0z b
 | .cond _ a b=>match a0z a with
  |some c=>some c
  |none=>a0z b
 | .block _ b=>a0z b
 | .loop b=>a0z b
 |_=>none
def d0P(f:Option Func):Code:=match f with
 |some f=>match f.body with
  |some c=>(a0z c).getD .skip
  |none=> .skip
 |none=> .skip
def Z7(b:Code)(l:Nat):Code:=(findLabel b l).getD .skip
section
variable {P:Program} {T:Tb}
noncomputable abbrev cfN(P:Program)(T:Tb)(n:Nat):CF:=V6 P T (l8 P T n)
def WpF(P:Program)(T:Tb)(g:FuncId)(args:List AV)(m:M)(Q:AV→M→Prop):Prop:=∃N v m',(∀n,N≤n→G7 P T (l8 P T n) g args m=some (v,m'))∧Q v m'
def WpC(P:Program)(T:Tb)(cc:CC)(fr:Fr)(m:M)(Q:X→Fr→M→Prop):Prop:=
 ∀c,j9 P c=cc→∀ds ar,∃N x fr' m',(∀n,N≤n→l8 P T n (.c c) ⟨fr,m,ds,ar⟩=some (x,⟨fr',m',ds,ar⟩))∧Q x fr' m'
def WpO(P:Program)(T:Tb)(l:List CO)(fr:Fr)(m:M)(Q:Fr→M→Prop):Prop:=∃N fr' m',(∀n,N≤n→B9 (cfN P T n) l fr m=some (fr',m'))∧Q fr' m'
def WpT(P:Program)(T:Tb)(l:List CO)(fr:Fr)(m:M)(H:List T3)(Q:List T3→Prop):Prop:=∃N t,(∀n,N≤n→trO (cfN P T n) l fr m=some t)∧Q (H++t)
theorem WpF.mono{g:FuncId}{args:List AV}{m:M}{Q Q':AV→M→Prop}(h:WpF P T g args m Q)(k:∀v m',Q v m'→Q' v m'):WpF P T g args m Q':=by
 obtain⟨N,v,m',h1,h2⟩:=h
 exact⟨N,v,m',h1,k _ _ h2⟩
theorem WpC.mono{cc:CC}{fr:Fr}{m:M}{Q Q':X→Fr→M→Prop}(h:WpC P T cc fr m Q)(k:∀x f m',Q x f m'→Q' x f m'):WpC P T cc fr m Q':=by
 intro c hc ds ar
 obtain⟨N,x,f,m',h1,h2⟩:=h c hc ds ar
 exact⟨N,x,f,m',h1,k _ _ _ h2⟩
theorem up{α:Type}{N:Nat}{f g:Nat→α}(hf:∀n,f (n+1)=g n){r:α}(h:∀n,N≤n→g n=r):∀n,N+1≤n→f n=r:=by
 intro n hn
 cases n with
 |zero=>omega
 |succ n=>rw[hf];exact h n (by omega)
def b31(P:Program)(T:Tb)(r:R)(d:Option (List Bool))(l:List CO)(fr:Fr)(Q:Fr→M→Prop):Prop:=match r with
 |some (v,m)=>WpO P T l (l5 d v fr) m Q
 |none=>False
def WpOC(P:Program)(T:Tb)(g:FuncId)(args:List AV)(m:M)(d:Option (List Bool))(l:List CO)(fr:Fr)(Q:Fr→M→Prop):Prop:=
 ∃N fr' m',(∀n,N≤n→K9 d (B9 (cfN P T n) l) fr (G7 P T (l8 P T n) g args m)=some (fr',m'))∧Q fr' m'
noncomputable def D9(w:Bool)(x:AV):Option Bool:=elB (elTup none (fun _=>some false) x) (fun c=>some (bc c w (!w))) x
theorem f9R{fr:Fr}{m:M}{Q:Fr→M→Prop}:WpO P T [] fr m Q=Q fr m:=by
 apply propext
 constructor
 ·rintro⟨N,f,m',h1,h2⟩
  have:=h1 N (Nat.le_refl _)
  cases this
  exact h2
 ·intro h
  exact⟨0,fr,m,fun _ _=>rfl,h⟩
theorem g3M{d:Option (List Bool)}{o:OP}{l:List CO}{fr:Fr}{m:M}{Q:Fr→M→Prop}:WpO P T (.op d none o::l) fr m Q=b31 P T (run o fr m) d l fr Q:=by
 apply propext
 have e:∀n,B9 (cfN P T n) (.op d none o::l) fr m=K9 d (B9 (cfN P T n) l) fr (run o fr m):=fun n=>rfl
 unfold WpO
 simp only[e]
 unfold b31
 split
 ·rename_i v m1 h
  rw[h]
  exact Iff.rfl
 ·rename_i h
  rw[h]
  constructor
  ·rintro⟨N,f,m',h1,_⟩
   cases h1 N (Nat.le_refl _)
  ·exact False.elim
theorem WpOC.of{g:FuncId}{args:List AV}{m:M}{d:Option (List Bool)}{l:List CO}{fr:Fr}{Q:Fr→M→Prop}{Q1:AV→M→Prop}(h:WpF P T g args m Q1)(k:∀v m1,Q1 v m1→WpO P T l (l5 d v fr) m1 Q):WpOC P T g args m d l fr Q:=by
 obtain⟨N,v,m1,h1,h2⟩:=h
 obtain⟨N2,f,m2,h3,h4⟩:=k v m1 h2
 refine⟨max N N2,f,m2,fun n hn=> ?_,h4⟩
 rw[h1 n (by omega)]
 exact h3 n (by omega)
def b4l(P:Program)(T:Tb)(r:R)(d:Option (List Bool))(l:List CO)(fr:Fr)(m:M)(H:List T3)(Q:List T3→Prop):Prop:=match r with
 |some (v,m1)=>WpT P T l (l5 d v fr) m1 (H++ [⟨fr,m,v⟩]) Q
 |none=>False
def WpTC(P:Program)(T:Tb)(g:FuncId)(args:List AV)(m:M)(d:Option (List Bool))(l:List CO)(fr:Fr)(H:List T3)(Q:List T3→Prop):Prop:=
 ∃N t,(∀n,N≤n→(ob (G7 P T (l8 P T n) g args m) fun q=>ob (trO (cfN P T n) l (l5 d q.1 fr) q.2) fun t=>some (⟨fr,m,q.1⟩::t))=some t)∧Q (H++t)
theorem g0u{fr:Fr}{m:M}{H:List T3}{Q:List T3→Prop}:WpT P T [] fr m H Q=Q (H++ [⟨fr,m,AV.undef⟩]):=by
 apply propext
 constructor
 ·rintro⟨N,t,h1,h2⟩
  have:=h1 N (Nat.le_refl _)
  cases this
  exact h2
 ·intro h
  exact⟨0,_,fun _ _=>rfl,h⟩
theorem a3r{l:List CO}{fr:Fr}{m:M}{H:List T3}{Q:List T3→Prop}{x:T3}:
  (∃N t,(∀n,N≤n→(ob (trO (cfN P T n) l fr m) fun t=>some (x::t))=some t)∧Q (H++t))↔WpT P T l fr m (H++ [x]) Q:=by
 constructor
 ·rintro⟨N,t,h1,h2⟩
  obtain⟨t0,h3,h4⟩:=d9 (h1 N (Nat.le_refl _))
  cases h4
  refine⟨N,t0,fun n hn=> ?_,by simpa using h2⟩
  obtain⟨t1,h5,h6⟩:=d9 (h1 n hn)
  cases h6
  exact h5
 ·rintro⟨N,t,h1,h2⟩
  exact⟨N,x::t,fun n hn=>by rw[h1 n hn];rfl,by simpa using h2⟩
theorem g3N{d:Option (List Bool)}{o:OP}{l:List CO}{fr:Fr}{m:M}{H:List T3}{Q:List T3→Prop}:WpT P T (.op d none o::l) fr m H Q=b4l P T (run o fr m) d l fr m H Q:=by
 apply propext
 have e:∀n,trO (cfN P T n) (.op d none o::l) fr m=ob (run o fr m) fun q=>ob (trO (cfN P T n) l (l5 d q.1 fr) q.2) fun t=>some (⟨fr,m,q.1⟩::t):=fun n=>by
  show ob (run o fr m) _=_
  rfl
 unfold b4l
 split
 ·rename_i v m1 h
  rw[←a3r]
  unfold WpT
  simp only[e,h]
  exact Iff.rfl
 ·rename_i h
  unfold WpT
  simp only[e,h]
  constructor
  ·rintro⟨N,t,h1,_⟩
   cases h1 N (Nat.le_refl _)
  ·exact False.elim
theorem WpTC.of{g:FuncId}{args:List AV}{m:M}{d:Option (List Bool)}{l:List CO}{fr:Fr}{H:List T3}{Q:List T3→Prop}{Q1:AV→M→Prop}(h:WpF P T g args m Q1)(k:∀v m1,Q1 v m1→WpT P T l (l5 d v fr) m1 (H++ [⟨fr,m,v⟩]) Q):WpTC P T g args m d l fr H Q:=by
 obtain⟨N,v,m1,h1,h2⟩:=h
 obtain⟨N2,t,h3,h4⟩:=k v m1 h2
 refine⟨max N N2,⟨fr,m,v⟩::t,fun n hn=> ?_,by simpa using h4⟩
 rw[h1 n (by omega)]
 show(ob (trO (cfN P T n) l (l5 d v fr) m1) _)=_
 rw[h3 n (by omega)]
 rfl
noncomputable def Z6(l:List CO)(t:List T3)(ip:Nat×Nat):Bool:=match l[ip.1]?,t[ip.1]?,t[ip.2]? with
 |some (.op _ g o),some a,some b=>match ob (J1 g a.fr) fun t=>bc t (run o a.fr b.m) (some (AV.undef,b.m)) with
  |some q=>v6 40 q.1 a.x
  |none=>false
 |_,_,_=>false
theorem f8R{cf:CF}{l:List CO}{t:List T3}{ip:Nat×Nat}(h:Z6 l t ip=true):again cf l t ip=true:=by
 unfold Z6 at h
 unfold again
 split at h
 ·rename_i d g o a b h1 h2 h3
  simp only[h1,h2,h3]
  exact h
 ·cases h
theorem f9L{fr:Fr}{m:M}{Q:X→Fr→M→Prop}(h:Q .normal fr m):WpC P T .skip fr m Q:=by
 intro c hc
 cases c<;>simp only[j9,reduceCtorEq] at hc
 case skip=>exact fun _ _=>⟨1,.normal,fr,m,fun n hn=>by cases n with|zero=>omega|succ n=>rfl,h⟩
 case label l=>exact fun _ _=>⟨1,.normal,fr,m,fun n hn=>by cases n with|zero=>omega|succ n=>rfl,h⟩
 case region id ops d=>cases d<;>simp only[l9,u7,reduceCtorEq] at hc;cases hs:J6 P ops<;>rw[hs] at hc<;>cases hc
theorem f9J{c:Code}{l:List CO}(hc:j9 P c= .reg l):∃id ops,c= .region id ops false∧E6 P ops.toList ops.toList=l:=by
 cases c<;>simp only[j9,reduceCtorEq] at hc
 case region id ops d=>
  cases d
  ·simp only[u7,CC.reg.injEq] at hc;exact⟨id,ops,rfl,hc⟩
  ·rw[l9] at hc;cases hs:J6 P ops<;>rw[hs] at hc<;>cases hc
theorem f6J{c:Code}{l:List CO}{ps:List (Nat×Nat)}(hc:j9 P c= .drawn l ps):∃id ops,c= .region id ops true∧E6 P ops.toList ops.toList=l∧S7 P ops=ps∧J6 P ops=true:=by
 cases c<;>simp only[j9,reduceCtorEq] at hc
 case region id ops d=>
  cases d
  ·cases hc
  ·rw[l9] at hc
   cases hs:J6 P ops<;>rw[hs] at hc
   ·cases hc
   ·simp only[l9,CC.drawn.injEq] at hc;exact⟨id,ops,rfl,hc.1,hc.2,hs⟩
theorem U4{id:Nat}{ops:Array Oper}{d:Bool}{cc:CC}(h:j9 P (.region id ops d)=cc):(∃l,cc= .reg l)∨(∃l ps,cc= .drawn l ps)∨cc= .bad:=by
 subst h
 cases d
 ·exact .inl ⟨_,rfl⟩
 ·cases hs:J6 P ops
  ·exact .inr (.inr (by simp only[j9,hs];rfl))
  ·exact .inr (.inl ⟨_,_,by simp only[j9,hs];rfl⟩)
theorem f91{l:List CO}{fr:Fr}{m:M}{Q:X→Fr→M→Prop}(h:WpO P T l fr m (Q .normal)):WpC P T (.reg l) fr m Q:=by
 intro c hc ds ar
 obtain⟨id,ops,rfl,rfl⟩:=f9J hc
 obtain⟨N,f,m',h1,h2⟩:=h
 refine⟨N+1,.normal,f,m',up (fun n=>rfl) (fun n hn=> ?_),h2⟩
 show(ob (B9 (cfN P T n) _ fr m) fun q=>some (X.normal,St.mk q.1 q.2 ds ar))=_
 rw[h1 n hn];rfl
theorem f7Q{l:List CO}{ps:List (Nat×Nat)}{fr:Fr}{m:M}{Q:X→Fr→M→Prop}
  (h:WpT P T l fr m [] fun t=>ps.all (Z6 l t)=true∧∃a,L9 t=some a∧Q .normal a.fr a.m):WpC P T (.drawn l ps) fr m Q:=by
 intro c hc ds ar
 obtain⟨id,ops,rfl,rfl,rfl,hs⟩:=f6J hc
 obtain⟨N,t,h1,h2,a,h3,h4⟩:=h
 refine⟨N+1,.normal,a.fr,a.m,up (fun n=>rfl) (fun n hn=> ?_),h4⟩
 show(ob (a0A P (cfN P T n) ops fr m) fun q=>some (X.normal,St.mk q.1 q.2 ds ar))=_
 unfold a0A
 have h2:(S7 P ops).all (Z6 (E6 P ops.toList ops.toList) t)=true:=h2
 have h5:(S7 P ops).all (again (cfN P T n) (E6 P ops.toList ops.toList) t)=true:=by
  rw[List.all_eq_true] at h2⊢
  exact fun x hx=>f8R (h2 x hx)
 have h3:L9 t=some a:=h3
 rw[hs,h1 n hn]
 simp only[l9,ob,h5,h3]
theorem g0V{a b:CC}{fr:Fr}{m:M}{Q:X→Fr→M→Prop}(h:WpC P T a fr m fun x fr1 m1=>match x with| .normal=>WpC P T b fr1 m1 Q|x=>Q x fr1 m1):WpC P T (.seq a b) fr m Q:=by
 intro c hc ds ar
 cases c<;>simp only[j9,reduceCtorEq,CC.seq.injEq] at hc
 case region=>rcases U4 (id:=0) hc with⟨_,h⟩|⟨_,_,h⟩|h<;>cases h
 case seq c1 c2=>
  obtain⟨N,x,f,m',h1,h2⟩:=h c1 hc.1 ds ar
  cases x with
  |normal=>
   obtain⟨N2,x2,f2,m2,h3,h4⟩:=h2 c2 hc.2 ds ar
   refine⟨max N N2+1,x2,f2,m2,up (fun n=>rfl) (fun n hn=> ?_),h4⟩
   show andThen (l8 P T n (.c c1) ⟨fr,m,ds,ar⟩) (l8 P T n (.c c2))=_
   rw[h1 n (by omega)]
   exact h3 n (by omega)
  |exit id=>exact⟨N+1,_,f,m',up (fun n=>rfl) (fun n hn=>by show andThen (l8 P T n (.c c1) ⟨fr,m,ds,ar⟩) (l8 P T n (.c c2))=_;rw[h1 n hn];rfl),h2⟩
  |goto id=>exact⟨N+1,_,f,m',up (fun n=>rfl) (fun n hn=>by show andThen (l8 P T n (.c c1) ⟨fr,m,ds,ar⟩) (l8 P T n (.c c2))=_;rw[h1 n hn];rfl),h2⟩
  |ret=>exact⟨N+1,_,f,m',up (fun n=>rfl) (fun n hn=>by show andThen (l8 P T n (.c c1) ⟨fr,m,ds,ar⟩) (l8 P T n (.c c2))=_;rw[h1 n hn];rfl),h2⟩
theorem b9N{c:RO}{a b:CC}{fr:Fr}{m:M}{Q:X→Fr→M→Prop}{t:Bool}(ht:ev c fr= .b t)(h:WpC P T (if t then a else b) fr m Q):WpC P T (.cond c a b) fr m Q:=by
 intro d hc ds ar
 cases d<;>simp only[j9,reduceCtorEq,CC.cond.injEq] at hc
 case region=>rcases U4 (id:=0) hc with⟨_,h⟩|⟨_,_,h⟩|h<;>cases h
 case cond o c1 c2=>
  obtain⟨rfl,rfl,rfl⟩:=hc
  cases t with
  |true=>
   obtain⟨N,x,f,m',h1,h2⟩:=h c1 rfl ds ar
   refine⟨N+1,x,f,m',up (fun n=>rfl) (fun n hn=> ?_),h2⟩
   show elB none (fun t=>bc t (l8 P T n (.c c1) ⟨fr,m,ds,ar⟩) (l8 P T n (.c c2) ⟨fr,m,ds,ar⟩)) (ev (cO o) fr)=_
   rw[ht];exact h1 n hn
  |false=>
   obtain⟨N,x,f,m',h1,h2⟩:=h c2 rfl ds ar
   refine⟨N+1,x,f,m',up (fun n=>rfl) (fun n hn=> ?_),h2⟩
   show elB none (fun t=>bc t (l8 P T n (.c c1) ⟨fr,m,ds,ar⟩) (l8 P T n (.c c2) ⟨fr,m,ds,ar⟩)) (ev (cO o) fr)=_
   rw[ht];exact h1 n hn
theorem f7y{id:Nat}{b:CC}{fr:Fr}{m:M}{Q:X→Fr→M→Prop}(h:WpC P T b fr m fun x fr1 m1=>match x with| .exit i=>if i=id then Q .normal fr1 m1 else Q (.exit i) fr1 m1|x=>Q x fr1 m1):WpC P T (.block id b) fr m Q:=by
 intro c hc ds ar
 cases c<;>simp only[j9,reduceCtorEq,CC.block.injEq] at hc
 case region=>rcases U4 (id:=0) hc with⟨_,h⟩|⟨_,_,h⟩|h<;>cases h
 case block i c1=>
  obtain⟨rfl,rfl⟩:=hc
  obtain⟨N,x,f,m',h1,h2⟩:=h c1 rfl ds ar
  have e:∀n,N≤n→a0Z P T (l8 P T n) (.c (.block i c1)) ⟨fr,m,ds,ar⟩=a1F i (some (x,⟨f,m',ds,ar⟩)):=fun n hn=>by
   show a1F i (l8 P T n (.c c1) ⟨fr,m,ds,ar⟩)=_
   rw[h1 n hn]
  cases x with
  |normal=>exact⟨N+1,_,f,m',up (fun n=>rfl) e,h2⟩
  |goto l=>exact⟨N+1,_,f,m',up (fun n=>rfl) e,h2⟩
  |ret=>exact⟨N+1,_,f,m',up (fun n=>rfl) e,h2⟩
  |exit j=>
   by_cases hj:j=i
   ·subst hj
    have h2:Q .normal f m':=by simpa using h2
    exact⟨N+1,.normal,f,m',up (fun n=>rfl) (fun n hn=>(e n hn).trans (by show bc (Nat.beq j j) _ _=_;rw[Nat.beq_refl];rfl)),h2⟩
   ·have h2:Q (.exit j) f m':=by simpa[hj] using h2
    exact⟨N+1,.exit j,f,m',up (fun n=>rfl) (fun n hn=>(e n hn).trans (by show bc (Nat.beq j i) _ _=_;rw[A4,decide_eq_false hj];rfl)),h2⟩
theorem f85{id:Nat}{fr:Fr}{m:M}{Q:X→Fr→M→Prop}(h:Q (.exit id) fr m):WpC P T (.exit id) fr m Q:=by
 intro c hc ds ar
 cases c<;>simp only[j9,reduceCtorEq,CC.exit.injEq] at hc
 case region=>rcases U4 (id:=0) hc with⟨_,h⟩|⟨_,_,h⟩|h<;>cases h
 case exit i=>subst hc;exact⟨1,_,fr,m,fun n hn=>by cases n with|zero=>omega|succ n=>rfl,h⟩
theorem g0g{fr:Fr}{m:M}{Q:X→Fr→M→Prop}(h:Q .ret fr m):WpC P T .ret fr m Q:=by
 intro c hc ds ar
 cases c<;>simp only[j9,reduceCtorEq] at hc
 case region=>rcases U4 (id:=0) hc with⟨_,h⟩|⟨_,_,h⟩|h<;>cases h
 case ret=>exact⟨1,_,fr,m,fun n hn=>by cases n with|zero=>omega|succ n=>rfl,h⟩
theorem f8C{l:Nat}{fr:Fr}{m:M}{Q:X→Fr→M→Prop}(h:Q (.goto l) fr m):WpC P T (.goto l) fr m Q:=by
 intro c hc ds ar
 cases c<;>simp only[j9,reduceCtorEq,CC.goto.injEq] at hc
 case region=>rcases U4 (id:=0) hc with⟨_,h⟩|⟨_,_,h⟩|h<;>cases h
 case goto i=>subst hc;exact⟨1,_,fr,m,fun n hn=>by cases n with|zero=>omega|succ n=>rfl,h⟩
theorem f9O{b:CC}{fr:Fr}{m:M}{Q:X→Fr→M→Prop}(Inv:Nat→Fr→M→Prop){k:Nat}(h0:Inv k fr m)
  (hs:∀k fr m,Inv k fr m→WpC P T b fr m fun x fr1 m1=>match x with| .normal=>∃k',k'<k∧Inv k' fr1 m1|x=>Q x fr1 m1):WpC P T (.loop b) fr m Q:=by
 intro c hc ds ar
 cases c<;>simp only[j9,reduceCtorEq,CC.loop.injEq] at hc
 case region=>rcases U4 (id:=0) hc with⟨_,h⟩|⟨_,_,h⟩|h<;>cases h
 case loop c1=>
  subst hc
  induction k using Nat.strongRecOn generalizing fr m with
  |_ k ih=>
   obtain⟨N,x,f,m',h1,h2⟩:=hs k fr m h0 c1 rfl ds ar
   cases x with
   |normal=>
    obtain⟨k',hk,h3⟩:=h2
    obtain⟨N2,x2,f2,m2,h4,h5⟩:=ih k' hk h3
    refine⟨max N N2+1,x2,f2,m2,up (fun n=>rfl) (fun n hn=> ?_),h5⟩
    show andThen (l8 P T n (.c c1) ⟨fr,m,ds,ar⟩) (l8 P T n (.c (.loop c1)))=_
    rw[h1 n (by omega)]
    exact h4 n (by omega)
   |exit id=>exact⟨N+1,_,f,m',up (fun n=>rfl) (fun n hn=>by show andThen (l8 P T n (.c c1) ⟨fr,m,ds,ar⟩) (l8 P T n (.c (.loop c1)))=_;rw[h1 n hn];rfl),h2⟩
   |goto id=>exact⟨N+1,_,f,m',up (fun n=>rfl) (fun n hn=>by show andThen (l8 P T n (.c c1) ⟨fr,m,ds,ar⟩) (l8 P T n (.c (.loop c1)))=_;rw[h1 n hn];rfl),h2⟩
   |ret=>exact⟨N+1,_,f,m',up (fun n=>rfl) (fun n hn=>by show andThen (l8 P T n (.c c1) ⟨fr,m,ds,ar⟩) (l8 P T n (.c (.loop c1)))=_;rw[h1 n hn];rfl),h2⟩
theorem a0H{g:FuncId}{fn:Func}(h:P.funcs[g]? =some fn):A7 (pth g) (Q7 P)=some fn:=by
 unfold Q7
 rw[T4]
 have hlt:g<P.funcs.toList.length:=by simpa using(Array.getElem?_eq_some_iff.1 h).1
 rw[if_pos ⟨Nat.zero_le _,by simpa using hlt⟩]
 simpa using h
structure FnAt(P:Program)(T:Tb)(g:FuncId)(cc:CC)(nt:Nat)(rs:List ResultVar):Prop where
 ex:∃fn c,A7 (pth g) T.fs=some fn∧fn.body=some c∧j9 P c=cc∧y9 fn.ntmps c=true∧fn.ntmps=nt∧fn.results.toList=rs
theorem f7H{g:FuncId}{cc:CC}{nt:Nat}{rs:List ResultVar}(hf:FnAt P T g cc nt rs){args:List AV}{m:M}(hit:T.it g args m=none)(hn:Nat.ble args.length nt=true){Q:AV→M→Prop}
  (h:WpC P T cc (v8 args (nat_lit 0) .leaf) m fun x fr' m'=>(x= .normal∨x= .ret)∧∃l,E3 P ⟨fr',m',[],none⟩ rs=some l∧Q (one l) m'):WpF P T g args m Q:=by
 obtain⟨fn,c,h1,h2,h3,h4,h5,h6⟩:=hf.ex
 subst h5 h6
 obtain⟨N,x,f,m',k1,k2,l,k3,k4⟩:=h c h3 [] none
 refine⟨N,one l,m',fun n hn'=> ?_,k4⟩
 unfold G7
 rw[h1]
 show Option.rec (motive:=fun _=>R) _ (fun r=>r) (T.it g args m)=_
 rw[hit]
 show Option.rec (motive:=fun _=>R) _ _ fn.body=_
 rw[h2]
 show bc (y9 fn.ntmps c&&Nat.ble args.length fn.ntmps) _ none=_
 rw[h4,hn]
 show(ob (a07 (l8 P T n (.c c) ⟨v8 args (nat_lit 0) .leaf,m,[],none⟩)) _)=_
 rw[k1 n hn']
 have e:a07 (some (x,⟨f,m',[],none⟩))=some ⟨f,m',[],none⟩:=by rcases k2 with rfl|rfl<;>rfl
 rw[e]
 show(ob (E3 P ⟨f,m',[],none⟩ fn.results.toList) fun l=>some (one l,m'))=_
 rw[k3];rfl
theorem f7w{g:FuncId}{fn:Func}(hf:A7 (pth g) T.fs=some fn){args:List AV}{m m':M}{v:AV}(hit:T.it g args m=some (some (v,m'))){Q:AV→M→Prop}(h:Q v m'):WpF P T g args m Q:=by
 refine⟨0,v,m',fun n _=> ?_,h⟩
 unfold G7
 rw[hf]
 show Option.rec (motive:=fun _=>R) _ (fun r=>r) (T.it g args m)=_
 rw[hit]
theorem g0t{g:FuncId}{fn:Func}(hf:A7 (pth g) T.fs=some fn)(hb:fn.body=none){args:List AV}{m m':M}{v:AV}(hit:T.it g args m=none)(he:ext fn.name args m=some (v,m')){Q:AV→M→Prop}(h:Q v m'):WpF P T g args m Q:=by
 refine⟨0,v,m',fun n _=> ?_,h⟩
 unfold G7
 rw[hf]
 show Option.rec (motive:=fun _=>R) _ (fun r=>r) (T.it g args m)=_
 rw[hit]
 show Option.rec (motive:=fun _=>R) _ _ fn.body=_
 rw[hb]
 exact he
end
end Go.Am
