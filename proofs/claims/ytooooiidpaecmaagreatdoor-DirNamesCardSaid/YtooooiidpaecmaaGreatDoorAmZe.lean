import Derived.Test.YtooooiidpaecmaaGreatDoorAmZb
import Derived.Test.YtooooiidpaecmaaGreatDoorAmZd
import Derived.ChangeSlices
/- The abstract machine: arguments that are slices of numbers or bytes, one behind the other. -/
namespace Go.Am
open Go Go.RowKit Go.ChangeShapes Go.WideShapes
def M.bump(m:M):M:=⟨m.tab,m.next+1⟩
theorem M.get_bump(m:M)(b:Nat):m.bump.get b=m.get b:=rfl
theorem M.cel_bump(m:M)(b:Nat):m.bump.cel b=m.cel b:=rfl
section
variable {P:Program} {w0:World} {ρ:Ren} {m:M} {w:World}
theorem b7M(m:M):∀n b,m.bump.clean n b=m.clean n b
 |0,_=>rfl
 |n+1,b=>by
  unfold M.clean
  rw[M.cel_bump]
  split
  ·rename_i c _
   cases c.mv with
   |none=>rfl
   |some x=>simp only[b7M m n x]
  ·rfl
theorem f5v(m:M)(c:Cel):m.bump.readable c=m.readable c:=by
 unfold M.readable
 cases c.mv with
 |none=>rfl
 |some x=>exact b7M m 100000 x
theorem Sim.bump(h:Sim P w0 ρ m w)(q:RB):Sim P w0 (ρ.put m.next q) m.bump w∧ρ.le (ρ.put m.next q):=by
 have hle:ρ.le (ρ.put m.next q):=Ren.put_le (h.next _ (Nat.le_refl _)).1
 have hlt:∀{b c},m.cel b=some c→b≠m.next:=fun hc=>Nat.ne_of_lt (h.lt (M.cel_some.1 hc))
 have hltO:∀{b B},m.get b=some B→b≠m.next:=fun hc=>Nat.ne_of_lt (h.lt hc)
 refine⟨⟨h.base,?_,?_,h.mvok,?_,?_,?_⟩,hle⟩
 ·intro b hb
  have hb:m.next+1≤b:=hb
  exact⟨by rw[Ren.put_ne (by omega)];exact(h.next b (by omega)).1,(h.next b (by omega)).2⟩
 ·intro b B hg
  obtain⟨r,hr,k⟩:=h.blk b B hg
  refine⟨r,by rw[Ren.put_ne (hltO hg)];exact hr,?_⟩
  cases B with
  |cells c=>
   obtain⟨arr,fz,k⟩:=k
   exact⟨arr,fz,k.keep hle rfl fun h=>by rwa [f5v] at h⟩
  |obj o=>
   obtain⟨O,k1,k2,k3⟩:=k
   exact⟨O,k1,k2,k3.mono hle⟩
 ·intro b c b' c' r r' hc hc' hm hr hr' he hg
  rw[Ren.put_ne (hlt hc)] at hr
  rw[Ren.put_ne (hlt hc')] at hr'
  have:=h.own b c b' c' r r' hc hc' hm hr hr' he hg
  clear hr hr' he hg hm hc' hc
  induction this with
  |refl b=>exact .refl b
  |step hc hm _ ih=>exact .step hc hm ih
 ·intro b c b' c' r r' hc hc' hm hr hr' he hg
  rw[Ren.put_ne (hlt hc)] at hr
  rw[Ren.put_ne (hlt hc')] at hr'
  exact h.ext b c b' c' r r' hc hc' hm hr hr' he hg
 ·intro b es b' es' r r' hc hc' hr hr' he
  rw[Ren.put_ne (hltO hc)] at hr
  rw[Ren.put_ne (hltO hc')] at hr'
  exact h.mown b es b' es' r r' hc hc' hr hr' he
end
inductive RsAt(m:M):AV→List AV→Option Nat→Prop where
 |nil:RsAt m j7 [] none
 |empty {b cap:Nat} {lim:Bool}:RsAt m (.slice b 0 0 cap lim) [] none
 |row {b cap:Nat} {lim:Bool} {l:List AV} (h:AtR m b l):RsAt m (.slice b 0 l.length cap lim) l (some b)
noncomputable def kv(k:IntKind)(z:Int):AV:=cv1 (.int k z)
end Go.Am
