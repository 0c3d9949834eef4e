import Derived.Test.YtooooiidpaecmaaGreatDoorAmV
/- The abstract machine: laws with numbers and bytes handed in; closed runs whose answer is known ahead. -/
namespace Go.Am
open Go Go.RowKit
section
variable {P:Program} {w0:World}
def ρS(σ:Nat→Value):Ren:=⟨fun _=>none,σ⟩
def a1L(args:List AV):Bool:=match args with
 | [] =>true
 |_=>false
noncomputable def a9E(T:Tb)(cl:List FuncId):Tb:=⟨T.fs,fun g args m=>bc (cl.any (Nat.beq g)&&a1L args) (some (some (.b true,m))) (T.it g args m)⟩
structure TrueAt(P:Program)(g:FuncId):Prop where
 enters:∀(args:Array Value) (w:World),(callFunc g args).run P w= .ok (.enter g args) w
 calls:∀(w:World),Calls P g #[] w fun e w'=>e= .returned (.bool true)∧Below w.heap.size w w'
theorem withTrue_ok{T:Tb}(hT:TbOk P w0 T){cl:List FuncId}(h:∀g∈cl,TrueAt P g):TbOk P w0 (a9E T cl):={
 fs:=hT.fs
 it:=by
  intro ρ m w g args v m' vs cs hit hv hs
  have h0:bc (cl.any (Nat.beq g)&&a1L args) (some (some (AV.b true,m))) (T.it g args m)=some (some (v,m')):=hit
  clear hit
  cases hc:cl.any (Nat.beq g)&&a1L args with
  |false=>
   rw[hc,u7] at h0
   exact hT.it ρ m w g args v m' vs cs h0 hv hs
  |true=>
   rw[hc,l9] at h0
   cases h0
   simp only[Bool.and_eq_true] at hc
   obtain⟨hc,hn⟩:=hc
   cases args with
   |cons _ _=>cases hn
   |nil=>
   rw[o0] at hv
   cases hv
   rw[List.any_eq_true] at hc
   obtain⟨c,h1,h2⟩:=hc
   have h2:=Nat.eq_of_beq_eq_true h2
   subst h2
   obtain⟨e,w',fr,⟨rfl,hb⟩,hsteps,hfn,hlv⟩:=(h g h1).calls w cs
   exact⟨ρ,.bool true,w',C2 _,ρ.le_refl,hs.below hb,.inr ⟨(h g h1).enters _ _,fr,hsteps,hfn,hlv⟩⟩
 }
noncomputable def c0P(T:Tb)(g0:FuncId)(x:AV):Tb:=⟨T.fs,fun g args m=>bc (Nat.beq g g0&&a1L args) (some (some (x,m))) (T.it g args m)⟩
structure ValAt(P:Program)(g:FuncId)(x:AV)(u:Value):Prop where
 enters:∀(args:Array Value) (w:World),(callFunc g args).run P w= .ok (.enter g args) w
 cn:∀ρ,d6 ρ x=some u
 calls:∀(w:World),Calls P g #[] w fun e w'=>e= .returned u∧Below w.heap.size w w'
theorem f6C{T:Tb}(hT:TbOk P w0 T){g0:FuncId}{x:AV}{u:Value}(h:ValAt P g0 x u):TbOk P w0 (c0P T g0 x):={
 fs:=hT.fs
 it:=by
  intro ρ m w g args v m' vs cs hit hv hs
  have h0:bc (Nat.beq g g0&&a1L args) (some (some (x,m))) (T.it g args m)=some (some (v,m')):=hit
  clear hit
  cases hc:Nat.beq g g0&&a1L args with
  |false=>
   rw[hc,u7] at h0
   exact hT.it ρ m w g args v m' vs cs h0 hv hs
  |true=>
   rw[hc,l9] at h0
   cases h0
   simp only[Bool.and_eq_true] at hc
   obtain⟨hc,hn⟩:=hc
   cases args with
   |cons _ _=>cases hn
   |nil=>
   rw[o0] at hv
   cases hv
   have h2:=Nat.eq_of_beq_eq_true hc
   subst h2
   obtain⟨e,w',fr,⟨rfl,hb⟩,hsteps,hfn,hlv⟩:=h.calls w cs
   exact⟨ρ,u,w',h.cn ρ,ρ.le_refl,hs.below hb,.inr ⟨h.enters _ _,fr,hsteps,hfn,hlv⟩⟩
 }
def isVal(x:AV)(r:R):Bool:=match r with
 |some (y,_)=>v6 40 y x
 |none=>false
theorem closed_val{P:Program}(hP:Good P){T:Tb}(hT:∀w0,TbOk P w0 T){n:Nat}{g:FuncId}{x:AV}{u:Value}(hr:isVal x (arun P T n g [] m0)=true)(hc:∀ρ,d6 ρ x=some u){fn:Func}{c:Code}(hfn:P.funcs[g]? =some fn)(hb:fn.body=some c)(w:World):
  Calls P g #[] w fun e w'=>e= .returned u∧Below w.heap.size w w':=by
 unfold isVal at hr
 split at hr
 ·rename_i y m' he
  have hy:=N8 hr
  subst hy
  refine(a2q (w0:=w) hP (hT w) he (ρ:=ρ0) (vs:= []) (o0 _) (Sim.start w) hfn hb).mono fun e w' ⟨z,ρ',h1,h2,h3,h4⟩=> ?_
  rw[hc] at h2
  cases h2
  exact⟨h1,h4.base⟩
 ·cases hr
end
end Go.Am
