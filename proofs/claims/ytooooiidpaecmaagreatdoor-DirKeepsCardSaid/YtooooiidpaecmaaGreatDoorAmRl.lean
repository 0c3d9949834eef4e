import Derived.Test.YtooooiidpaecmaaGreatDoorAmRf
/- The abstract machine: loops that hold a range over a function. -/
namespace Go.Am
open Go Go.RowKit
def lB:Code→Code
 | .loop b=>b
 |_=> .skip
section
variable {P:Program} {T:Tb} {ds:List Nat} {ar:Option Nat} {fr:Fr} {m:M}
theorem WpS.loop{b:Code}{Q:X→Fr→M→List Nat→Prop}(Inv:Nat→List Nat→Fr→M→Prop){k:Nat}(h0:Inv k ds fr m)
  (hs:∀k ds fr m,Inv k ds fr m→WpS P T b ds ar fr m fun x f m' d=>match x with| .normal=>∃k',k'<k∧Inv k' d f m'|x=>Q x f m' d):WpS P T (.loop b) ds ar fr m Q:=by
 induction k using Nat.strongRecOn generalizing fr m ds with
 |_ k ih=>
  obtain⟨N,x,f,m',d,h1,h2⟩:=hs k ds fr m h0
  have e:∀n,N≤n→Z8 P T (l4 P T n) (.c (.loop b)) ⟨fr,m,ds,ar⟩=andThen (some (x,⟨f,m',d,ar⟩)) (l4 P T n (.c (.loop b))):=fun n hn=>by
   show andThen (l4 P T n (.c b) ⟨fr,m,ds,ar⟩) (l4 P T n (.c (.loop b)))=_
   rw[h1 n hn]
  cases x with
  |normal=>
   obtain⟨k',hk,h3⟩:=h2
   obtain⟨N2,x2,f2,m2,d2,h4,h5⟩:=ih k' hk h3
   exact⟨max N N2+1,x2,f2,m2,d2,up (fun n=>rfl) (fun n hn=>(e n (by omega)).trans (h4 n (by omega))),h5⟩
  |exit id=>exact⟨N+1,_,f,m',d,up (fun n=>rfl) e,h2⟩
  |goto id=>exact⟨N+1,_,f,m',d,up (fun n=>rfl) e,h2⟩
  |ret=>exact⟨N+1,_,f,m',d,up (fun n=>rfl) e,h2⟩
end
end Go.Am
