import Derived.Test.YtooooiidpaecmaaGreatDoorAmZf
/- The abstract machine: functions that range over a function, where values are not known. -/
namespace Go.Am
open Go Go.RowKit
section
variable {P:Program} {T:Tb}
def WpY(P:Program)(T:Tb)(l:Nat)(args:List AV)(m:M)(Q:AV→M→Prop):Prop:=∃N v m',(∀n,N≤n→a29 (l8 P T n) l args m=some (v,m'))∧Q v m'
theorem g2M{d:Option (List Bool)}{f:RO}{l:Nat}{args:List RO}{r:List CO}{fr:Fr}{m:M}{Q:Fr→M→Prop}(hf:ev f fr= .yield l)(h:WpY P T l (evs args fr) m fun v m1=>WpO P T r (l5 d v fr) m1 Q):WpO P T (.call d none f args::r) fr m Q:=by
 obtain⟨N,v,m1,h1,h2⟩:=h
 obtain⟨N2,f2,m2,h3,h4⟩:=h2
 refine⟨max N N2,f2,m2,fun n hn=> ?_,h4⟩
 have e:B9 (cfN P T n) (.call d none f args::r) fr m=K9 d (B9 (cfN P T n) r) fr (J8 (cfN P T n) (ev f fr) (evs args fr) m):=rfl
 rw[e,hf]
 show K9 d _ fr (a29 (l8 P T n) l (evs args fr) m)=_
 rw[h1 n (by omega)]
 exact h3 n (by omega)
theorem I3{m:M}{b:Nat}{L:ALoop}(h:m.get b=some (.obj (.loop L))):m.loop b=some L:=by
 show ob (m.get b) _=_
 rw[h];rfl
theorem a2Q{m:M}{b:Nat}{c:Bool}(h:m.get b=some (.obj (.dfr c))):m.dfr b=some c:=by
 show ob (m.get b) _=_
 rw[h];rfl
theorem Keep.put{m:M}(hw:Wf m){b:Nat}(hlt:b<m.next){x:Blk}{F:Nat→Prop}(hb:F b):Keep m (m.put b x) F:=
 ⟨Nat.le_refl _,fun b' hb'=>by rw[M.get_put,if_neg (by have:m.next≤b':=hb';omega)];exact hw b' hb',fun b' _ hf=>by rw[M.get_put,if_neg (fun e:b'=b=>hf (by rw[e];exact hb))]⟩
theorem Keep.new{m:M}(hw:Wf m){B:Blk}{F:Nat→Prop}:Keep m (m.new B) F:=⟨by rw[M.next_new];omega,hw.new,fun b hb _=>M.get_new_ne (by omega)⟩
end
end Go.Am
