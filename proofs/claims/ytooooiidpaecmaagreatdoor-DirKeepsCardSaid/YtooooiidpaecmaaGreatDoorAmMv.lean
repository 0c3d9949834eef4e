import Derived.Test.YtooooiidpaecmaaGreatDoorAmWm
/- The abstract machine: rows whose place another has taken, and lists that grow beside what they grew from. -/
namespace Go.Am
open Go Go.RowKit
def Chn(m:M):Option Nat→List Nat→Prop
 |none,[] =>True
 |some h,k::ch=>h=k∧∃c,m.get h=some (.cells c)∧c.dirty=false∧Chn m c.mv ch
 |none,_::_=>False
 |some _,[] =>False
structure AtV(m:M)(b:Nat)(l:List AV)(ch:List Nat):Prop where
 row:∃c,m.get b=some (.cells c)∧l.length≤c.n∧(∀i v,l[i]? =some v→c.rd i=v)∧Chn m c.mv ch
inductive GrAt(m:M)(e:TypeId):AV→List AV→AV→List AV→List Nat→Prop where
 |none:GrAt m e i7 [] i7 [] []
 |emp {b:Nat} (h:At m b e true []):GrAt m e (.slice b 0 0 0 false) [] (.slice b 0 0 0 false) [] [b]
 |same {b cap:Nat} {xt:Bool} {cells ext junk:List AV} (h:At m b e xt ((cells++ext)++junk)) (hj:junk.length=cap-(cells++ext).length) (hc:(cells++ext).length≤cap) (h0:0<cap):GrAt m e (.slice b 0 cells.length cap false) cells (.slice b 0 (cells++ext).length cap false) (cells++ext) [b]
 |off {b b' cap:Nat} {xt:Bool} {cells gcells:List AV} {ch:List Nat} (h:AtV m b cells ch) (hl:ch.length+cells.length≤gcells.length) (hg:At m b' e xt gcells) (h0:0<gcells.length) (hne:b≠b') (hch:b'∉ch∨∃ch0,ch=ch0++ [b']):GrAt m e (.slice b 0 cells.length cap false) cells (.slice b' 0 gcells.length gcells.length false) gcells (b::b'::ch)
 |new {b':Nat} {xt:Bool} {gcells:List AV} (hg:At m b' e xt gcells) (h0:0<gcells.length):GrAt m e i7 [] (.slice b' 0 gcells.length gcells.length false) gcells [b']
section
variable {m m':M} {e:TypeId} {x g:AV} {cells gcells:List AV} {own:List Nat}
end
end Go.Am
