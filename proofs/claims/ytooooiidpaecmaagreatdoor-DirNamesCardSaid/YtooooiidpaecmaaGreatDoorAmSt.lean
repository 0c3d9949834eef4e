import Derived.Test.YtooooiidpaecmaaGreatDoorAmRu
import Derived.Test.YtooooiidpaecmaaGreatDoorAmZf
import Derived.Test.YtooooiidpaecmaaGreatDoorAmWm
import Derived.Test.YtooooiidpaecmaaGreatDoorAmZe
import Derived.Test.YtooooiidpaecmaaGreatDoorAmZb
/- The abstract machine: what lies in a memory, reckoned. -/
namespace Go.Am
open Go
section
noncomputable def ckC(c:Cel)(l:List AV):Nat→Bool:=List.rec (fun _=>true) (fun v _ ih i=>bc (v6 40 (c.rd i) v) (fc (Nat.succ i) ih) false) l
noncomputable def O8(m:M)(b e:Nat)(xt:Bool)(l:List AV):Bool:=match m.get b with
 |some (.cells c)=>bc (Nat.beq c.elem e) (bc (Nat.beq c.n l.length) (bc c.mv.isNone (bc c.ro false (bc (bc xt c.exact (!c.exact)) (ckC c l 0) false)) false) false) false
 |_=>false
theorem d5u{c:Cel}:∀{l:List AV} {i:Nat},ckC c l i=true→∀j v,l[j]? =some v→c.rd (i+j)=v
 | [],i,_=>nofun
 |x::l,i,h=>by
  have h0:bc (v6 40 (c.rd i) x) (ckC c l (i+1)) false=true:=h
  cases hx:v6 40 (c.rd i) x with
  |false=>rw[hx] at h0;cases h0
  |true=>
   rw[hx] at h0
   intro j v hv
   cases j with
   |zero=>cases hv;exact N8 hx
   |succ j=>have:=d5u (l:=l) (i:=i+1) h0 j v hv;rw[←this];congr 1;omega
theorem C8{a b:Bool}(h:bc a b false=true):a=true∧b=true:=by cases a with
 |false=>cases h
 |true=>exact⟨rfl,h⟩
theorem T5{m:M}{b e:Nat}{xt:Bool}{l:List AV}(h:O8 m b e xt l=true):At m b e xt l:=by
 unfold O8 at h
 split at h
 ·rename_i c hc
  obtain⟨h1,h⟩:=C8 h
  obtain⟨h2,h⟩:=C8 h
  obtain⟨h3,h⟩:=C8 h
  cases hro:c.ro with
  |true=>rw[hro] at h;cases h
  |false=>
   rw[hro] at h
   obtain⟨h4,h⟩:=C8 h
   refine⟨c,hc,Nat.eq_of_beq_eq_true h1,Nat.eq_of_beq_eq_true h2,Option.isNone_iff_eq_none.1 h3,hro,?_,fun i v hv=> ?_⟩
   ·cases xt with
    |true=>exact h4
    |false=>cases hx:c.exact with
     |false=>rfl
     |true=>rw[hx] at h4;cases h4
   ·have:=d5u h i v hv
    rwa [Nat.zero_add] at this
 ·cases h
noncomputable def ckE(es:List (AV×AV)):List (Nat×AV)→Bool:=List.rec (fun l=>l.isEmpty) (fun e _ ih l=>match l with
 | [] =>false
 |x::l=>bc (v6 40 e.1 (iv (x.1:Int))) (bc (v6 40 e.2 x.2) (ih l) false) false) es
theorem d5U:∀{es:List (AV×AV)} {L:List (Nat×AV)},ckE es L=true→es=L.map fun e=>(iv (e.1:Int),e.2)
 | [],[],_=>rfl
 | [],_::_,h=>by cases h
 |_::_,[],h=>by cases h
 |e::es,x::l,h=>by
  have h0:bc (v6 40 e.1 (iv (x.1:Int))) (bc (v6 40 e.2 x.2) (ckE es l) false) false=true:=h
  obtain⟨h1,h0⟩:=C8 h0
  obtain⟨h2,h0⟩:=C8 h0
  rw[d5U h0]
  show _=(iv (x.1:Int),x.2)::_
  rw[←N8 h1,←N8 h2]
noncomputable def a0l(m:M)(b:Nat)(L:List (Nat×AV)):Bool:=match m.get b with
 |some (.obj (.map es _))=>ckE es L
 |_=>false
theorem a1k{m:M}{b:Nat}{L:Al}(h:a0l m b L=true):MpAt m b L:=by
 unfold a0l at h
 split at h
 ·rename_i es st e
  exact⟨st,by rw[e,d5U h];rfl⟩
 ·cases h
noncomputable def ltT{α:Type}(t:Tr α):Nat→Bool:=Tr.rec (fun _=>true) (fun _ v _ hl hr n=>bc (bc (Nat.blt 0 n) true v.isNone) (bc (hl (n/2)) (hr ((n-1)/2)) false) false) t
theorem b21{α:Type}:∀(p:List Bool) (t:Tr α) (n:Nat),ltT t n=true→n≤dec p→A7 p t=none
 | [],.leaf,_,_,_=>rfl
 |_::_,.leaf,_,_,_=>rfl
 | [],.node l v r,n,h,hp=>by
  have h0:bc (bc (Nat.blt 0 n) true v.isNone) (bc (ltT l (n/2)) (ltT r ((n-1)/2)) false) false=true:=h
  have hn:n=0:=Nat.le_zero.1 hp
  subst hn
  exact Option.isNone_iff_eq_none.1 (C8 h0).1
 |d::p,.node l v r,n,h,hp=>by
  have h0:bc (bc (Nat.blt 0 n) true v.isNone) (bc (ltT l (n/2)) (ltT r ((n-1)/2)) false) false=true:=h
  obtain⟨h1,h2⟩:=C8 (C8 h0).2
  cases d with
  |true=>exact b21 p l (n/2) h1 (by have:dec (true::p)=2*dec p+1:=rfl;omega)
  |false=>exact b21 p r ((n-1)/2) h2 (by have:dec (false::p)=2*dec p+2:=rfl;omega)
theorem g5E{m:M}(h:ltT m.tab m.next=true):Wf m:=fun b hb=>b21 (pth b) m.tab m.next h (by rw[b1c];exact hb)
end
end Go.Am
/- The abstract machine: numbers that a law is given, at the start. -/
namespace Go.Am
open Go Go.RowKit Go.WideShapes Go.ChangeShapes
section
variable {P:Program} {w0:World} {ρ:Ren} {m m':M} {w:World}
theorem Sim.same(h:Sim P w0 ρ m w)(hg:∀b,m'.get b=m.get b)(hn:m'.next=m.next):Sim P w0 ρ m' w:=by
 have hc:∀b,m'.cel b=m.cel b:=fun b=>by unfold M.cel;rw[hg]
 have hcl:∀n b,m'.clean n b=m.clean n b:=fun n=>by
  induction n with
  |zero=>intro b;rfl
  |succ n ih=>
   intro b
   unfold M.clean
   rw[hc]
   split
   ·rename_i c _
    cases c.mv with
    |none=>rfl
    |some x=>simp only[ih x]
   ·rfl
 have hrd:∀c,m'.readable c=m.readable c:=fun c=>by
  unfold M.readable
  cases c.mv with
  |none=>rfl
  |some x=>exact hcl 100000 x
 refine⟨h.base,fun b hb=> ?_,fun b B hb=> ?_,fun b c x hb hx=> ?_,fun b c b' c' r r' h1 h2 hm hr hr' he hb=> ?_,fun b c b' c' r r' h1 h2=> ?_,fun b e b' e' r r' h1 h2=> ?_⟩
 ·rw[hn] at hb;rw[hg];exact h.next b hb
 ·rw[hg] at hb
  obtain⟨r,hr,k⟩:=h.blk b B hb
  refine⟨r,hr,?_⟩
  cases B with
  |cells c=>
   obtain⟨arr,fz,k⟩:=k
   exact⟨arr,fz,k.keep ρ.le_refl rfl fun h=>by rwa [hrd] at h⟩
  |obj o=>exact k
 ·rw[hc] at hb⊢;exact h.mvok b c x hb hx
 ·rw[hc] at h1 h2
  have:=h.own b c b' c' r r' h1 h2 hm hr hr' he hb
  clear hr hr' he hb hm h1 h2
  induction this with
  |refl b=>exact .refl b
  |step h1 hm _ ih=>exact .step (by rw[hc];exact h1) hm ih
 ·rw[hc] at h1 h2;exact h.ext b c b' c' r r' h1 h2
 ·rw[hg] at h1 h2;exact h.mown b e b' e' r r' h1 h2
end
theorem a5Y(o:Option Blk)(b:Nat):(mS o).get b=if b=0 then o else none:=by
 by_cases h:b=0
 ·subst h;rw[if_pos rfl];rfl
 ·rw[if_neg h]
  have hp:pth b≠pth 0:=d8p h
  unfold M.get mS
  generalize pth b=p at*
  cases p with
  |nil=>exact absurd rfl hp
  |cons c p=>cases c<;>exact X2 p
theorem f0H(o:Option Blk):Wf (mS o):=fun b hb=>by
 have hb:1≤b:=hb
 rw[a5Y,if_neg (by omega)]
section
variable {P:Program} {w0:World} {ρ:Ren} {w:World}
end
end Go.Am
