import Derived.Test.YtooooiidpaecmaaGreatDoorAmWk
/- The abstract machine: scopes whose labels are jumped to again and again. -/
namespace Go.Am
open Go Go.RowKit
section
variable {P:Program} {T:Tb} {fr:Fr} {m:M}
def WpSc(P:Program)(T:Tb)(b rest:Code)(fr:Fr)(m:M)(Q:X→Fr→M→Prop):Prop:=
 ∀ds ar,∃N x fr' m',(∀n,N≤n→l8 P T n (.sc b rest) ⟨fr,m,ds,ar⟩=some (x,⟨fr',m',ds,ar⟩))∧Q x fr' m'
def SJ(P:Program)(T:Tb)(b:Code)(Q:X→Fr→M→Prop)(x:X)(fr:Fr)(m:M):Prop:=match x with
 | .goto l=>∃rest,findLabel b l=some rest∧WpSc P T b rest fr m Q
 |x=>Q x fr m
theorem a21{b:Code}{Q:X→Fr→M→Prop}:SJ P T b Q .ret fr m=Q .ret fr m:=rfl
theorem a1s{b rest:Code}{l:Nat}(h1:findLabel b l=some rest)(Q:X→Fr→M→Prop)(fr:Fr)(m:M):SJ P T b Q (.goto l) fr m=WpSc P T b rest fr m Q:=by
 apply propext
 constructor
 ·rintro⟨r,h3,h4⟩
  rw[h1] at h3
  cases h3
  exact h4
 ·intro h
  exact⟨rest,h1,h⟩
theorem WpSc.of{b rest:Code}{cr:CC}{Q:X→Fr→M→Prop}(hc:j9 P rest=cr)(h:GX P T cr (SJ P T b Q) fr m):WpSc P T b rest fr m Q:=by
 intro ds ar
 obtain⟨N,x,f,m',h1,h2⟩:=M0 h rest hc ds ar
 have e:∀n,N≤n→a0Z P T (l8 P T n) (.sc b rest) ⟨fr,m,ds,ar⟩=a5N b (l8 P T n) (some (x,⟨f,m',ds,ar⟩)):=fun n hn=>by
  show a5N b (l8 P T n) (l8 P T n (.c rest) ⟨fr,m,ds,ar⟩)=_
  rw[h1 n hn]
 cases x with
 |normal=>exact⟨N+1,_,f,m',up (fun n=>rfl) e,h2⟩
 |exit i=>exact⟨N+1,_,f,m',up (fun n=>rfl) e,h2⟩
 |ret=>exact⟨N+1,_,f,m',up (fun n=>rfl) e,h2⟩
 |goto l=>
  obtain⟨r,h3,h4⟩:=h2
  obtain⟨N2,y,f2,m2,h5,h6⟩:=h4 ds ar
  refine⟨max N N2+1,y,f2,m2,up (fun n=>rfl) (fun n hn=>(e n (by omega)).trans ?_),h6⟩
  show Option.rec (motive:=fun _=>O) _ (fun rest=>l8 P T n (.sc b rest) ⟨f,m',ds,ar⟩) (findLabel b l)=_
  rw[h3]
  exact h5 n (by omega)
theorem b9j{b:Code}{Q:X→Fr→M→Prop}(h:WpSc P T b b fr m Q):GX P T (.scope b) Q fr m:=by
 show WpC P T (.scope b) fr m Q
 intro c hc ds ar
 cases c<;>simp only[j9,reduceCtorEq,CC.scope.injEq] at hc
 case region=>rcases U4 (id:=0) hc with⟨_,h⟩|⟨_,_,h⟩|h<;>cases h
 case scope c1=>
  subst hc
  obtain⟨N,x,f,m',h1,h2⟩:=h ds ar
  exact⟨N+1,x,f,m',up (fun n=>rfl) (fun n hn=>h1 n hn),h2⟩
end
end Go.Am
