import Derived.Test.YtooooiidpaecmaaGreatDoorAmWk
import Derived.Test.YtooooiidpaecmaaGreatDoorAmZh
/- The abstract machine: closed functions whose run, memory and all, is known ahead. -/
namespace Go.Am
open Go Go.RowKit
section
variable {P:Program} {w0:World}
def F7(r:R):Option R:=match r with
 |some x=>some (some x)
 |none=>none
noncomputable def c2c(P:Program)(T:Tb)(gs:List Nat):Tb:=⟨T.fs,fun g args m=>bc (gs.any (Nat.beq g)) (F7 (arun P T 100000 g args m)) (T.it g args m)⟩
structure RunAt(P:Program)(g:FuncId):Prop where
 enters:∀(args:Array Value) (w:World),(callFunc g args).run P w= .ok (.enter g args) w
 body:∃fn c,P.funcs[g]? =some fn∧fn.body=some c
theorem f6M(hP:Good P){T:Tb}(hT:TbOk P w0 T){gs:List Nat}(h:∀g∈gs,RunAt P g):TbOk P w0 (c2c P T gs):={
 fs:=hT.fs
 it:=by
  intro ρ m w g args v m' vs cs hit hv hs
  have h0:bc (gs.any (Nat.beq g)) (F7 (arun P T 100000 g args m)) (T.it g args m)=some (some (v,m')):=hit
  clear hit
  cases hc:gs.any (Nat.beq g) with
  |false=>
   rw[hc,u7] at h0
   exact hT.it ρ m w g args v m' vs cs h0 hv hs
  |true=>
   rw[hc,l9] at h0
   rw[List.any_eq_true] at hc
   obtain⟨c,h1,h2⟩:=hc
   have h2:=Nat.eq_of_beq_eq_true h2
   subst h2
   have he:arun P T 100000 g args m=some (v,m'):=by
    unfold F7 at h0
    split at h0
    ·rename_i x e
     rw[e]
     cases h0;rfl
    ·cases h0
   obtain⟨fn,c,hfn,hb⟩:=(h g h1).body
   obtain⟨e,w',fr,⟨u,ρ',rfl,k2,k3,k4⟩,hsteps,hfn,hlv⟩:=a2q hP hT he hv hs hfn hb cs
   exact⟨ρ',u,w',k2,k3,k4,.inr ⟨(h g h1).enters _ _,fr,hsteps,hfn,hlv⟩⟩
 }
structure Cl where
 g:Nat
 args:List AV
 x:AV
noncomputable def e9n(T:Tb)(cs:List Cl):Tb:=⟨T.fs,fun g args m=>match cs.find? (fun c=>Nat.beq c.g g&&v6 40 (.tuple c.args) (.tuple args)) with
 |some c=>some (some (c.x,m))
 |none=>T.it g args m⟩
structure ClOk(P:Program)(T:Tb)(c:Cl):Prop where
 at':RunAt P c.g
 run:isVal c.x (arun P T 100000 c.g c.args m0)=true
 args:∃us,∀ρ,i8 ρ c.args=some us
 val:∃u,∀ρ,d6 ρ c.x=some u
theorem f70(hP:Good P){T:Tb}(hT:∀w0,TbOk P w0 T){cl:List Cl}(h:∀c∈cl,ClOk P T c):TbOk P w0 (e9n T cl):={
 fs:=(hT w0).fs
 it:=by
  intro ρ m w g args v m' vs cs hit hv hs
  have h0:(match cl.find? (fun c=>Nat.beq c.g g&&v6 40 (.tuple c.args) (.tuple args)) with|some c=>some (some (c.x,m))|none=>T.it g args m)=some (some (v,m')):=hit
  clear hit
  split at h0
  ·rename_i c hc
   cases h0
   have h1:=List.mem_of_find?_eq_some hc
   have h2:=List.find?_some hc
   rw[Bool.and_eq_true] at h2
   have hg:=Nat.eq_of_beq_eq_true h2.1
   have ha:=N8 h2.2
   simp only[AV.tuple.injEq] at ha
   subst hg ha
   obtain⟨⟨ent,fn,b,hfn,hb⟩,hr,⟨us,hus⟩,u,hu⟩:=h c h1
   rw[hus ρ] at hv
   cases hv
   unfold isVal at hr
   split at hr
   ·rename_i y my he
    have hy:=N8 hr
    subst hy
    obtain⟨e,w',fr,⟨z,ρ',rfl,k2,k3,k4⟩,hsteps,hfn',hlv⟩:=a2q (w0:=w) hP (hT w) he (ρ:=ρ0) (hus ρ0) (Sim.start w) hfn hb cs
    rw[hu] at k2
    cases k2
    exact⟨ρ,_,w',hu ρ,ρ.le_refl,hs.below k4.base,.inr ⟨ent _ _,fr,hsteps,hfn',hlv⟩⟩
   ·cases hr
  ·exact(hT w0).it ρ m w g args v m' vs cs h0 hv hs
 }
variable {T:Tb}
theorem I9{b:CC}{fr:Fr}{m:M}{Q:X→Fr→M→Prop}(h:GX P T b (SK P T (.loop b) Q) fr m):GX P T (.loop b) Q fr m:=by
 intro c hc ds ar
 cases c<;>simp only[j9,reduceCtorEq,CC.loop.injEq] at hc
 case region=>rcases U4 (id:=0) hc with⟨_,h⟩|⟨_,_,h⟩|h<;>cases h
 case loop c1=>
  obtain⟨N,x,f,m',h1,h2⟩:=M0 h c1 hc ds ar
  cases x with
  |normal=>
   obtain⟨N2,x2,f2,m2,h4,h5⟩:=(show WpC P T (.loop b) f m' Q from h2) (.loop c1) (by show CC.loop (j9 P c1)=_;rw[hc]) ds ar
   refine⟨max N N2+1,x2,f2,m2,up (fun n=>rfl) (fun n hn=> ?_),h5⟩
   show andThen (l8 P T n (.c c1) ⟨fr,m,ds,ar⟩) (l8 P T n (.c (.loop c1)))=_
   rw[h1 n (by omega)]
   exact h4 n (by omega)
  |exit id=>exact⟨N+1,_,f,m',up (fun n=>rfl) (fun n hn=>by show andThen (l8 P T n (.c c1) ⟨fr,m,ds,ar⟩) (l8 P T n (.c (.loop c1)))=_;rw[h1 n hn];rfl),h2⟩
  |goto id=>exact⟨N+1,_,f,m',up (fun n=>rfl) (fun n hn=>by show andThen (l8 P T n (.c c1) ⟨fr,m,ds,ar⟩) (l8 P T n (.c (.loop c1)))=_;rw[h1 n hn];rfl),h2⟩
  |ret=>exact⟨N+1,_,f,m',up (fun n=>rfl) (fun n hn=>by show andThen (l8 P T n (.c c1) ⟨fr,m,ds,ar⟩) (l8 P T n (.c (.loop c1)))=_;rw[h1 n hn];rfl),h2⟩
def mS(o:Option Blk):M:=⟨.node .leaf o .leaf,nat_lit 1⟩
end
end Go.Am
