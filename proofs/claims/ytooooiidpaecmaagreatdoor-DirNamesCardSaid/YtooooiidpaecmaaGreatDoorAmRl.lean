import Derived.Test.YtooooiidpaecmaaGreatDoorAmWm
import Derived.Test.YtooooiidpaecmaaGreatDoorAmRf
/- The abstract machine: rows whose place another has taken, and lists that grow beside what they grew from. -/
namespace Go.Am
open Go Go.RowKit
def Chn(m:M):Option Nat→List Nat→Prop
 |none,[] =>True
 |some h,k::ch=>h=k∧∃c,m.get h=some (.cells c)∧c.dirty=false∧Chn m c.mv ch
 |none,_::_=>False
 |some _,[] =>False
structure AtV(m:M)(b:Nat)(l:List AV)(ch:List Nat):Prop where
 row:∃c,m.get b=some (.cells c)∧l.length≤c.n∧(∀i v,l[i]? =some v→c.rd i=v)∧Chn m c.mv ch
def SlE(m:M)(e:TypeId)(x:AV)(len:Nat)(cells:List AV)(o:Option Nat):Prop:=SlAt m e 1 x len cells o∨∃b,x= .slice b 0 0 0 false∧len=0∧cells= []∧o=some b∧At m b e true []
theorem SlE.keep{m m':M}{e:TypeId}{x:AV}{len:Nat}{cells:List AV}{o:Option Nat}{F:Nat→Prop}(h:SlE m e x len cells o)(hw:Wf m)(k:Keep m m' F)(hf:∀b,o=some b→¬F b):SlE m' e x len cells o:=by
 rcases h with h|⟨b,h1,h2,h3,h4,h⟩
 ·exact .inl (h.keep hw k hf)
 ·exact .inr ⟨b,h1,h2,h3,h4,h.keep hw k (hf b h4)⟩
theorem SlE.len{m:M}{e:TypeId}{x:AV}{len:Nat}{cells:List AV}{o:Option Nat}(h:SlE m e x len cells o):E4 false x=some len:=by
 rcases h with h|⟨b,rfl,rfl,_,_,_⟩
 ·exact h.len
 ·rfl
theorem SlE.count{m:M}{e:TypeId}{x:AV}{len:Nat}{cells:List AV}{o:Option Nat}(h:SlE m e x len cells o):cells.length=len:=by
 rcases h with h|⟨b,_,rfl,rfl,_,_⟩
 ·simpa using h.count
 ·rfl
theorem SlE.kd{m:M}{e:TypeId}{x:AV}{len:Nat}{cells:List AV}{b:Nat}(h:SlE m e x len cells (some b)):Am.kd m b (e+1):=by
 rcases h with h|⟨b',_,_,_,h4,h⟩
 ·exact h.kd
 ·cases h4;exact h.kd
inductive GrAt(m:M)(e:TypeId):AV→List AV→AV→List AV→List Nat→Prop where
 |none:GrAt m e j7 [] j7 [] []
 |emp {b:Nat} (h:At m b e true []):GrAt m e (.slice b 0 0 0 false) [] (.slice b 0 0 0 false) [] [b]
 |same {b cap:Nat} {xt:Bool} {cells ext junk:List AV} (h:At m b e xt ((cells++ext)++junk)) (hj:junk.length=cap-(cells++ext).length) (hc:(cells++ext).length≤cap) (h0:0<cap):GrAt m e (.slice b 0 cells.length cap false) cells (.slice b 0 (cells++ext).length cap false) (cells++ext) [b]
 |off {b b' cap:Nat} {xt:Bool} {cells gcells:List AV} {ch:List Nat} (h:AtV m b cells ch) (hl:ch.length+cells.length≤gcells.length) (hg:At m b' e xt gcells) (h0:0<gcells.length) (hne:b≠b') (hch:b'∉ch∨∃ch0,ch=ch0++ [b']):GrAt m e (.slice b 0 cells.length cap false) cells (.slice b' 0 gcells.length gcells.length false) gcells (b::b'::ch)
 |new {b':Nat} {xt:Bool} {gcells:List AV} (hg:At m b' e xt gcells) (h0:0<gcells.length):GrAt m e j7 [] (.slice b' 0 gcells.length gcells.length false) gcells [b']
section
variable {m m':M} {e:TypeId} {x g:AV} {cells gcells:List AV} {own:List Nat}
end
def lB:Code→Code
 | .loop b=>b
 |_=> .skip
section
variable {P:Program} {T:Tb} {ds:List Nat} {ar:Option Nat} {fr:Fr} {m:M}
theorem WpS.loop{b:Code}{Q:X→Fr→M→List Nat→Prop}(Inv:Nat→List Nat→Fr→M→Prop){k:Nat}(h0:Inv k ds fr m)
  (hs:∀k ds fr m,Inv k ds fr m→WpS P T b ds ar fr m fun x f m' d=>match x with| .normal=>∃k',k'<k∧Inv k' d f m'|x=>Q x f m' d):WpS P T (.loop b) ds ar fr m Q:=by
 induction k using Nat.strongRecOn generalizing fr m ds with
 |_ k ih=>
  obtain⟨N,x,f,m',d,h1,h2⟩:=hs k ds fr m h0
  have e:∀n,N≤n→a0Z P T (l8 P T n) (.c (.loop b)) ⟨fr,m,ds,ar⟩=andThen (some (x,⟨f,m',d,ar⟩)) (l8 P T n (.c (.loop b))):=fun n hn=>by
   show andThen (l8 P T n (.c b) ⟨fr,m,ds,ar⟩) (l8 P T n (.c (.loop b)))=_
   rw[h1 n hn]
  cases x with
  |normal=>
   obtain⟨k',hk,h3⟩:=h2
   obtain⟨N2,x2,f2,m2,d2,h4,h5⟩:=ih k' hk h3
   exact⟨max N N2+1,x2,f2,m2,d2,up (fun n=>rfl) (fun n hn=>(e n (by omega)).trans (h4 n (by omega))),h5⟩
  |exit id=>exact⟨N+1,_,f,m',d,up (fun n=>rfl) e,h2⟩
  |goto id=>exact⟨N+1,_,f,m',d,up (fun n=>rfl) e,h2⟩
  |ret=>exact⟨N+1,_,f,m',d,up (fun n=>rfl) e,h2⟩
end
end Go.Am
