import Derived.Test.YtooooiidpaecmaaGreatDoorAmZd
import Derived.Test.YtooooiidpaecmaaGreatDoorAmS
/- The abstract machine: maps from numbers, calls of function values, sorted keys, where values are not known. -/
namespace Go.Am
open Go Go.RowKit
def b04:AV:= .p (.map none)
def b1h:AV:= .p .nilFunc
abbrev Al:=List (Nat×AV)
noncomputable def ents(L:Al):List (AV×AV):=L.map fun e=>(iv (e.1:Int),e.2)
def MpAt(m:M)(b:Nat)(L:Al):Prop:=∃st,m.get b=some (.obj (.map (ents L) st))
theorem MpAt.of_get{m m':M}{b:Nat}{L:Al}(h:MpAt m b L)(hg:m'.get b=m.get b):MpAt m' b L:=by
 obtain⟨st,h⟩:=h
 exact⟨st,hg.trans h⟩
theorem MpAt.lt{m:M}{b:Nat}{L:Al}(h:MpAt m b L)(hw:Wf m):b<m.next:=by
 obtain⟨st,h⟩:=h
 rcases Nat.lt_or_ge b m.next with k|k
 ·exact k
 ·rw[hw b k] at h;cases h
theorem MpAt.keep{m m':M}{b:Nat}{L:Al}{F:Nat→Prop}(h:MpAt m b L)(hw:Wf m)(k:Keep m m' F)(hf:¬F b):MpAt m' b L:=h.of_get (k.get b (h.lt hw) hf)
def lkp:Al→Nat→Option AV
 | [],_=>none
 |e::l,k=>if e.1=k then some e.2 else lkp l k
def F3:Al→Nat→AV→Al
 | [],k,v=> [(k,v)]
 |e::l,k,v=>if e.1=k then(k,v)::l else e::F3 l k v
def F5:Al→Nat→Al
 | [],_=> []
 |e::l,k=>if e.1=k then l else e::F5 l k
theorem a9L(a b:Nat):keq (iv (a:Int)) (iv (b:Int))=decide (a=b):=by
 show Nat.beq a b=_
 exact y4 a b
theorem f1v(a:Nat):isK (some .i64) (iv (a:Int))=true:=rfl
theorem a60(k:Nat)(L:Al):M1 (some .i64) (iv (k:Int)) (ents L)=true:=by
 unfold M1
 rw[f1v,Bool.true_and,List.all_eq_true]
 intro e he
 obtain⟨x,_,rfl⟩:=List.mem_map.1 he
 rfl
theorem b40(k:Nat):∀(L:Al) (i:Nat),(B9 (iv (k:Int)) i (ents L)).map (·.2)=lkp L k
 | [],_=>rfl
 |e::l,i=>by
  show(bc (keq (iv (k:Int)) (iv (e.1:Int))) (some (i,e.2)) (B9 (iv (k:Int)) (i+1) (ents l))).map (·.2)=_
  rw[a9L]
  unfold lkp
  by_cases h:e.1=k
  ·rw[if_pos h,decide_eq_true h.symm];rfl
  ·rw[if_neg h,decide_eq_false (fun x=>h x.symm)]
   exact b40 k l (i+1)
theorem b5M(k:Nat)(v:AV):∀(L:Al) (i:Nat),(match B9 (iv (k:Int)) i (ents L) with|some z=>i≤z.1∧(ents L).set (z.1-i) (iv (k:Int),v)=ents (F3 L k v)|none=>ents L++ [(iv (k:Int),v)] =ents (F3 L k v))
 | [],i=>rfl
 |e::l,i=>by
  have hm:B9 (iv (k:Int)) i (ents (e::l))=bc (keq (iv (k:Int)) (iv (e.1:Int))) (some (i,e.2)) (B9 (iv (k:Int)) (i+1) (ents l)):=rfl
  rw[hm,a9L]
  have he:ents (e::l)=(iv (e.1:Int),e.2)::ents l:=rfl
  rw[he]
  unfold F3
  by_cases h:e.1=k
  ·rw[if_pos h,decide_eq_true h.symm,l7]
   exact⟨Nat.le_refl _,by rw[Nat.sub_self];rfl⟩
  ·rw[if_neg h,decide_eq_false (fun x=>h x.symm),o8]
   have ih:=b5M k v l (i+1)
   cases hz:B9 (iv (k:Int)) (i+1) (ents l) with
   |none=>
    rw[hz] at ih
    show(iv (e.1:Int),e.2)::ents l++ [(iv (k:Int),v)] =(iv (e.1:Int),e.2)::ents (F3 l k v)
    rw[List.cons_append,ih]
   |some z=>
    rw[hz] at ih
    obtain⟨h1,h2⟩:=ih
    refine⟨by omega,?_⟩
    show((iv (e.1:Int),e.2)::ents l).set (z.1-i) (iv (k:Int),v)=(iv (e.1:Int),e.2)::ents (F3 l k v)
    rw[show z.1-i=(z.1-(i+1))+1 by omega,List.set_cons_succ,h2]
theorem b5E(k:Nat):∀(L:Al) (i:Nat),(match B9 (iv (k:Int)) i (ents L) with|some z=>i≤z.1∧(ents L).eraseIdx (z.1-i)=ents (F5 L k)|none=>F5 L k=L)
 | [],i=>rfl
 |e::l,i=>by
  have hm:B9 (iv (k:Int)) i (ents (e::l))=bc (keq (iv (k:Int)) (iv (e.1:Int))) (some (i,e.2)) (B9 (iv (k:Int)) (i+1) (ents l)):=rfl
  rw[hm,a9L]
  have he:ents (e::l)=(iv (e.1:Int),e.2)::ents l:=rfl
  rw[he]
  unfold F5
  by_cases h:e.1=k
  ·rw[if_pos h,decide_eq_true h.symm,l7]
   exact⟨Nat.le_refl _,by rw[Nat.sub_self];rfl⟩
  ·rw[if_neg h,decide_eq_false (fun x=>h x.symm),o8]
   have ih:=b5E k l (i+1)
   cases hz:B9 (iv (k:Int)) (i+1) (ents l) with
   |none=>
    rw[hz] at ih
    show e::F5 l k=e::l
    rw[ih]
   |some z=>
    rw[hz] at ih
    obtain⟨h1,h2⟩:=ih
    refine⟨by omega,?_⟩
    show((iv (e.1:Int),e.2)::ents l).eraseIdx (z.1-i)=(iv (e.1:Int),e.2)::ents (F5 l k)
    rw[show z.1-i=(z.1-(i+1))+1 by omega,List.eraseIdx_cons_succ,h2]
section
variable {P:Program} {T:Tb} {fr:Fr} {m:M}
theorem b6e(b:Nat):A8 (.map b)=some [.map b] :=rfl
theorem b44(f:FuncId)(l:List AV):A8 (.func f l)=some [.func f l] :=rfl
theorem e1g(g:FuncId)(caps:List RO):run (.fn g caps) fr m=some (.func g (evs caps fr),m):=rfl
theorem d5u(kd:Option IntKind)(z:AV)(ok:Bool)(x k:RO):run (.look kd z ok x k) fr m=M3 kd z ok (.cst (ev x fr)) (.cst (ev k fr)) .leaf m:=rfl
theorem d25(x:RO):run (.mlen x) fr m=a2k (.cst (ev x fr)) .leaf m:=rfl
theorem d0q(kd:Option IntKind)(x k v:RO):run (.mupd kd x k v) fr m=U9 kd (.cst (ev x fr)) (.cst (ev k fr)) (.cst (ev v fr)) .leaf m:=rfl
theorem d7V(kd:Option IntKind)(x k:RO):run (.mdel kd x k) fr m=a0W kd (.cst (ev x fr)) (.cst (ev k fr)) .leaf m:=rfl
theorem c2k:run (.mkmap none) fr m=some (.map m.next,m.new (.obj (.map [] (some ([],0))))):=rfl
theorem c9w(z:List AV)(x:RO):run (.clrs z x) fr m=a2l z (.cst (ev x fr)) .leaf m:=rfl
theorem MpAt.mapOf{b:Nat}{L:Al}(h:MpAt m b L):Am.mapOf m (.map b)=some (ents L):=by
 obtain⟨st,h⟩:=h
 have e:m.mapF b=some (ents L,st):=by
  show ob (m.get b) _=_
  rw[h];rfl
 show ob (m.mapF b) _=_
 rw[e];rfl
theorem MpAt.mapF{b:Nat}{L:Al}(h:MpAt m b L):∃st,m.mapF b=some (ents L,st):=by
 obtain⟨st,h⟩:=h
 refine⟨st,?_⟩
 show ob (m.get b) _=_
 rw[h];rfl
theorem MpAt.upd{b:Nat}{L:Al}(h:MpAt m b L)(hw:Wf m)(k:Nat)(v:AV):∃m',U9 (some .i64) (.cst (.map b)) (.cst (iv (k:Int))) (.cst v) .leaf m=some (AV.undef,m')∧MpAt m' b (F3 L k v)∧Keep m m' (fun x=>x=b)∧m'.next=m.next:=by
 have hlt:=h.lt hw
 obtain⟨st,hq⟩:=h.mapF
 have e:∃st',W2 (ents L,st) (iv (k:Int)) v= .map (ents (F3 L k v)) st':=by
  have hp:=b5M k v L 0
  unfold W2
  cases hz:B9 (iv (k:Int)) 0 (ents L) with
  |none=>
   rw[hz] at hp
   exact⟨_,by show OB.map (ents L++ [(iv (k:Int),v)]) _=_;rw[hp]⟩
  |some z=>
   rw[hz] at hp
   exact⟨st,by show OB.map ((ents L).set z.1 (iv (k:Int),v)) st=_;rw[←hp.2,Nat.sub_zero]⟩
 obtain⟨st',e⟩:=e
 refine⟨m.put b (.obj (.map (ents (F3 L k v)) st')),?_,⟨st',by rw[M.get_put,if_pos rfl]⟩,⟨Nat.le_refl _,fun b' hb'=> ?_,fun b' _ hf=>by rw[M.get_put,if_neg hf]⟩,rfl⟩
 ·show(ob (m.mapF b) fun q=>bc (M1 (some .i64) (iv (k:Int)) q.1) (some (AV.undef,m.put b (.obj (W2 q (iv (k:Int)) v)))) none)=_
  rw[hq,B8,a60,l7,e]
 ·have hb':m.next≤b':=hb'
  rw[M.get_put,if_neg (by omega)]
  exact hw b' hb'
theorem MpAt.del{b:Nat}{L:Al}(h:MpAt m b L)(hw:Wf m)(k:Nat):∃m',a0W (some .i64) (.cst (.map b)) (.cst (iv (k:Int))) .leaf m=some (AV.undef,m')∧MpAt m' b (F5 L k)∧Keep m m' (fun x=>x=b)∧m'.next=m.next:=by
 have hlt:=h.lt hw
 obtain⟨st,hq⟩:=h.mapF
 have e:∃st',mdel (ents L,st) (iv (k:Int))= .map (ents (F5 L k)) st':=by
  have hp:=b5E k L 0
  unfold mdel
  cases hz:B9 (iv (k:Int)) 0 (ents L) with
  |none=>
   rw[hz] at hp
   exact⟨st,by show OB.map (ents L) st=_;rw[hp]⟩
  |some z=>
   rw[hz] at hp
   exact⟨_,by show OB.map ((ents L).eraseIdx z.1) _=_;rw[←hp.2,Nat.sub_zero]⟩
 obtain⟨st',e⟩:=e
 refine⟨m.put b (.obj (.map (ents (F5 L k)) st')),?_,⟨st',by rw[M.get_put,if_pos rfl]⟩,⟨Nat.le_refl _,fun b' hb'=> ?_,fun b' _ hf=>by rw[M.get_put,if_neg hf]⟩,rfl⟩
 ·show(ob (m.mapF b) fun q=>bc (M1 (some .i64) (iv (k:Int)) q.1) (some (AV.undef,m.put b (.obj (mdel q (iv (k:Int)))))) none)=_
  rw[hq,B8,a60,l7,e]
 ·have hb':m.next≤b':=hb'
  rw[M.get_put,if_neg (by omega)]
  exact hw b' hb'
theorem f1e{d:Option (List Bool)}{f:RO}{g:FuncId}{caps:List AV}{args:List RO}{l:List CO}{Q:Fr→M→Prop}(hf:ev f fr= .func g caps)(h:WpOC P T g (evs args fr++caps) m d l fr Q):WpO P T (.call d none f args::l) fr m Q:=by
 have e:∀n,A6 (cfN P T n) (.call d none f args::l) fr m=I6 d (A6 (cfN P T n) l) fr (H8 (cfN P T n) (ev f fr) (evs args fr) m):=fun n=>rfl
 unfold WpO
 simp only[e,hf]
 exact h
noncomputable def Sk(L:Al):List Int:=B0 (L.map fun e=>(e.1:Int))
theorem e4Y(et:TypeId):S8 et m (ents [])=some (i7,m):=rfl
theorem e4B{g et kf:Nat}{b:Nat}{t:TypeId}{mb:Nat}{L:Al}(h:At m b t true [.map mb])(hm:MpAt m mb L):(e7J P g et [kf]).it g [.func kf [.ptr b 0]] m=some (S8 et m (ents L)):=by
 obtain⟨c,h1,h2,h3,h4,h5,h6,h7⟩:=h.row
 show bc (Nat.beq g g) (Option.rec (motive:=fun _=>Option R) none (fun r=>some r) (bc (Nat.beq kf kf) (some (ob (m.cel b) fun c=>bc (c.exact&&(c.mv.isNone&&Nat.beq 0 0)) (ob (m.rd b 0) fun mv=>ob (Am.mapOf m mv) fun es=>S8 et m es) none)) none)) none=_
 rw[Nat.beq_refl,Nat.beq_refl,l7,l7,M.cel_some.2 h1,B8,h4,h6,h.rd 0]
 show some (ob (some (AV.map mb)) fun mv=>ob (Am.mapOf m mv) fun es=>S8 et m es)=_
 rw[B8,hm.mapOf,B8]
end
end Go.Am
