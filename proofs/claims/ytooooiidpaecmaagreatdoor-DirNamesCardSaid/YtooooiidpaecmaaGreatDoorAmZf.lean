import Derived.Test.YtooooiidpaecmaaGreatDoorAmZd
import Derived.Test.YtooooiidpaecmaaGreatDoorAmS
/- The abstract machine: maps from numbers, calls of function values, sorted keys, where values are not known. -/
namespace Go.Am
open Go Go.RowKit
def b35:AV:= .p (.map none)
def b4d:AV:= .p .nilFunc
abbrev Al:=List (Nat×AV)
noncomputable def ents(L:Al):List (AV×AV):=L.map fun e=>(iv (e.1:Int),e.2)
def MpAt(m:M)(b:Nat)(L:Al):Prop:=∃st,m.get b=some (.obj (.map (ents L) st))
theorem MpAt.of_get{m m':M}{b:Nat}{L:Al}(h:MpAt m b L)(hg:m'.get b=m.get b):MpAt m' b L:=by
 obtain⟨st,h⟩:=h
 exact⟨st,hg.trans h⟩
theorem MpAt.lt{m:M}{b:Nat}{L:Al}(h:MpAt m b L)(hw:Wf m):b<m.next:=by
 obtain⟨st,h⟩:=h
 rcases Nat.lt_or_ge b m.next with k|k
 ·exact k
 ·rw[hw b k] at h;cases h
theorem MpAt.keep{m m':M}{b:Nat}{L:Al}{F:Nat→Prop}(h:MpAt m b L)(hw:Wf m)(k:Keep m m' F)(hf:¬F b):MpAt m' b L:=h.of_get (k.get b (h.lt hw) hf)
def lkp:Al→Nat→Option AV
 | [],_=>none
 |e::l,k=>if e.1=k then some e.2 else lkp l k
def H2:Al→Nat→AV→Al
 | [],k,v=> [(k,v)]
 |e::l,k,v=>if e.1=k then(k,v)::l else e::H2 l k v
def H0:Al→Nat→Al
 | [],_=> []
 |e::l,k=>if e.1=k then l else e::H0 l k
theorem b1y(a b:Nat):keq (iv (a:Int)) (iv (b:Int))=decide (a=b):=by
 show Nat.beq a b=_
 exact A4 a b
theorem g3l(a:Nat):isK (some .i64) (iv (a:Int))=true:=rfl
theorem a8U(k:Nat)(L:Al):Q2 (some .i64) (iv (k:Int)) (ents L)=true:=by
 unfold Q2
 rw[g3l,Bool.true_and,List.all_eq_true]
 intro e he
 obtain⟨x,_,rfl⟩:=List.mem_map.1 he
 rfl
theorem b77(k:Nat):∀(L:Al) (i:Nat),(D4 (iv (k:Int)) i (ents L)).map (·.2)=lkp L k
 | [],_=>rfl
 |e::l,i=>by
  show(bc (keq (iv (k:Int)) (iv (e.1:Int))) (some (i,e.2)) (D4 (iv (k:Int)) (i+1) (ents l))).map (·.2)=_
  rw[b1y]
  unfold lkp
  by_cases h:e.1=k
  ·rw[if_pos h,decide_eq_true h.symm];rfl
  ·rw[if_neg h,decide_eq_false (fun x=>h x.symm)]
   exact b77 k l (i+1)
theorem b8Q(k:Nat)(v:AV):∀(L:Al) (i:Nat),(match D4 (iv (k:Int)) i (ents L) with|some z=>i≤z.1∧(ents L).set (z.1-i) (iv (k:Int),v)=ents (H2 L k v)|none=>ents L++ [(iv (k:Int),v)] =ents (H2 L k v))
 | [],i=>rfl
 |e::l,i=>by
  have hm:D4 (iv (k:Int)) i (ents (e::l))=bc (keq (iv (k:Int)) (iv (e.1:Int))) (some (i,e.2)) (D4 (iv (k:Int)) (i+1) (ents l)):=rfl
  rw[hm,b1y]
  have he:ents (e::l)=(iv (e.1:Int),e.2)::ents l:=rfl
  rw[he]
  unfold H2
  by_cases h:e.1=k
  ·rw[if_pos h,decide_eq_true h.symm,l9]
   exact⟨Nat.le_refl _,by rw[Nat.sub_self];rfl⟩
  ·rw[if_neg h,decide_eq_false (fun x=>h x.symm),u7]
   have ih:=b8Q k v l (i+1)
   cases hz:D4 (iv (k:Int)) (i+1) (ents l) with
   |none=>
    rw[hz] at ih
    show(iv (e.1:Int),e.2)::ents l++ [(iv (k:Int),v)] =(iv (e.1:Int),e.2)::ents (H2 l k v)
    rw[List.cons_append,ih]
   |some z=>
    rw[hz] at ih
    obtain⟨h1,h2⟩:=ih
    refine⟨by omega,?_⟩
    show((iv (e.1:Int),e.2)::ents l).set (z.1-i) (iv (k:Int),v)=(iv (e.1:Int),e.2)::ents (H2 l k v)
    rw[show z.1-i=(z.1-(i+1))+1 by omega,List.set_cons_succ,h2]
theorem b8R(k:Nat):∀(L:Al) (i:Nat),(match D4 (iv (k:Int)) i (ents L) with|some z=>i≤z.1∧(ents L).eraseIdx (z.1-i)=ents (H0 L k)|none=>H0 L k=L)
 | [],i=>rfl
 |e::l,i=>by
  have hm:D4 (iv (k:Int)) i (ents (e::l))=bc (keq (iv (k:Int)) (iv (e.1:Int))) (some (i,e.2)) (D4 (iv (k:Int)) (i+1) (ents l)):=rfl
  rw[hm,b1y]
  have he:ents (e::l)=(iv (e.1:Int),e.2)::ents l:=rfl
  rw[he]
  unfold H0
  by_cases h:e.1=k
  ·rw[if_pos h,decide_eq_true h.symm,l9]
   exact⟨Nat.le_refl _,by rw[Nat.sub_self];rfl⟩
  ·rw[if_neg h,decide_eq_false (fun x=>h x.symm),u7]
   have ih:=b8R k l (i+1)
   cases hz:D4 (iv (k:Int)) (i+1) (ents l) with
   |none=>
    rw[hz] at ih
    show e::H0 l k=e::l
    rw[ih]
   |some z=>
    rw[hz] at ih
    obtain⟨h1,h2⟩:=ih
    refine⟨by omega,?_⟩
    show((iv (e.1:Int),e.2)::ents l).eraseIdx (z.1-i)=(iv (e.1:Int),e.2)::ents (H0 l k)
    rw[show z.1-i=(z.1-(i+1))+1 by omega,List.eraseIdx_cons_succ,h2]
section
variable {P:Program} {T:Tb} {fr:Fr} {m:M}
theorem b8F(b:Nat):C1 (.map b)=some [.map b] :=rfl
theorem b7P(f:FuncId)(l:List AV):C1 (.func f l)=some [.func f l] :=rfl
theorem f1o(g:FuncId)(caps:List RO):run (.fn g caps) fr m=some (.func g (evs caps fr),m):=rfl
theorem e9z(kd:Option IntKind)(z:AV)(ok:Bool)(x k:RO):run (.look kd z ok x k) fr m=R5 kd z ok (.cst (ev x fr)) (.cst (ev k fr)) .leaf m:=rfl
theorem e0R(x:RO):run (.mlen x) fr m=a3C (.cst (ev x fr)) .leaf m:=rfl
theorem d3L(kd:Option IntKind)(x k v:RO):run (.mupd kd x k v) fr m=V5 kd (.cst (ev x fr)) (.cst (ev k fr)) (.cst (ev v fr)) .leaf m:=rfl
theorem d4v(kd:Option IntKind)(x k:RO):run (.mdel kd x k) fr m=a1V kd (.cst (ev x fr)) (.cst (ev k fr)) .leaf m:=rfl
theorem c8y:run (.mkmap none) fr m=some (.map m.next,m.new (.obj (.map [] (some ([],0))))):=rfl
theorem e9h(z:List AV)(x:RO):run (.clrs z x) fr m=a3H z (.cst (ev x fr)) .leaf m:=rfl
theorem MpAt.mapOf{b:Nat}{L:Al}(h:MpAt m b L):Am.mapOf m (.map b)=some (ents L):=by
 obtain⟨st,h⟩:=h
 have e:m.mapF b=some (ents L,st):=by
  show ob (m.get b) _=_
  rw[h];rfl
 show ob (m.mapF b) _=_
 rw[e];rfl
theorem MpAt.mapF{b:Nat}{L:Al}(h:MpAt m b L):∃st,m.mapF b=some (ents L,st):=by
 obtain⟨st,h⟩:=h
 refine⟨st,?_⟩
 show ob (m.get b) _=_
 rw[h];rfl
theorem MpAt.upd{b:Nat}{L:Al}(h:MpAt m b L)(hw:Wf m)(k:Nat)(v:AV):∃m',V5 (some .i64) (.cst (.map b)) (.cst (iv (k:Int))) (.cst v) .leaf m=some (AV.undef,m')∧MpAt m' b (H2 L k v)∧Keep m m' (fun x=>x=b)∧m'.next=m.next:=by
 have hlt:=h.lt hw
 obtain⟨st,hq⟩:=h.mapF
 have e:∃st',a0t (ents L,st) (iv (k:Int)) v= .map (ents (H2 L k v)) st':=by
  have hp:=b8Q k v L 0
  unfold a0t
  cases hz:D4 (iv (k:Int)) 0 (ents L) with
  |none=>
   rw[hz] at hp
   exact⟨_,by show OB.map (ents L++ [(iv (k:Int),v)]) _=_;rw[hp]⟩
  |some z=>
   rw[hz] at hp
   exact⟨st,by show OB.map ((ents L).set z.1 (iv (k:Int),v)) st=_;rw[←hp.2,Nat.sub_zero]⟩
 obtain⟨st',e⟩:=e
 refine⟨m.put b (.obj (.map (ents (H2 L k v)) st')),?_,⟨st',by rw[M.get_put,if_pos rfl]⟩,⟨Nat.le_refl _,fun b' hb'=> ?_,fun b' _ hf=>by rw[M.get_put,if_neg hf]⟩,rfl⟩
 ·show(ob (m.mapF b) fun q=>bc (Q2 (some .i64) (iv (k:Int)) q.1) (some (AV.undef,m.put b (.obj (a0t q (iv (k:Int)) v)))) none)=_
  rw[hq,C5,a8U,l9,e]
 ·have hb':m.next≤b':=hb'
  rw[M.get_put,if_neg (by omega)]
  exact hw b' hb'
theorem MpAt.del{b:Nat}{L:Al}(h:MpAt m b L)(hw:Wf m)(k:Nat):∃m',a1V (some .i64) (.cst (.map b)) (.cst (iv (k:Int))) .leaf m=some (AV.undef,m')∧MpAt m' b (H0 L k)∧Keep m m' (fun x=>x=b)∧m'.next=m.next:=by
 have hlt:=h.lt hw
 obtain⟨st,hq⟩:=h.mapF
 have e:∃st',mdel (ents L,st) (iv (k:Int))= .map (ents (H0 L k)) st':=by
  have hp:=b8R k L 0
  unfold mdel
  cases hz:D4 (iv (k:Int)) 0 (ents L) with
  |none=>
   rw[hz] at hp
   exact⟨st,by show OB.map (ents L) st=_;rw[hp]⟩
  |some z=>
   rw[hz] at hp
   exact⟨_,by show OB.map ((ents L).eraseIdx z.1) _=_;rw[←hp.2,Nat.sub_zero]⟩
 obtain⟨st',e⟩:=e
 refine⟨m.put b (.obj (.map (ents (H0 L k)) st')),?_,⟨st',by rw[M.get_put,if_pos rfl]⟩,⟨Nat.le_refl _,fun b' hb'=> ?_,fun b' _ hf=>by rw[M.get_put,if_neg hf]⟩,rfl⟩
 ·show(ob (m.mapF b) fun q=>bc (Q2 (some .i64) (iv (k:Int)) q.1) (some (AV.undef,m.put b (.obj (mdel q (iv (k:Int)))))) none)=_
  rw[hq,C5,a8U,l9,e]
 ·have hb':m.next≤b':=hb'
  rw[M.get_put,if_neg (by omega)]
  exact hw b' hb'
theorem g2Q{d:Option (List Bool)}{f:RO}{g:FuncId}{caps:List AV}{args:List RO}{l:List CO}{Q:Fr→M→Prop}(hf:ev f fr= .func g caps)(h:WpOC P T g (evs args fr++caps) m d l fr Q):WpO P T (.call d none f args::l) fr m Q:=by
 have e:∀n,B9 (cfN P T n) (.call d none f args::l) fr m=K9 d (B9 (cfN P T n) l) fr (J8 (cfN P T n) (ev f fr) (evs args fr) m):=fun n=>rfl
 unfold WpO
 simp only[e,hf]
 exact h
noncomputable def Sk(L:Al):List Int:=C4 (L.map fun e=>(e.1:Int))
theorem f5Y(et:TypeId):Y5 et m (ents [])=some (j7,m):=rfl
theorem f5S{g et kf:Nat}{b:Nat}{t:TypeId}{mb:Nat}{L:Al}(h:At m b t true [.map mb])(hm:MpAt m mb L):(f8P P g et [kf]).it g [.func kf [.ptr b 0]] m=some (Y5 et m (ents L)):=by
 obtain⟨c,h1,h2,h3,h4,h5,h6,h7⟩:=h.row
 show bc (Nat.beq g g) (Option.rec (motive:=fun _=>Option R) none (fun r=>some r) (bc (Nat.beq kf kf) (some (ob (m.cel b) fun c=>bc (c.exact&&(c.mv.isNone&&Nat.beq 0 0)) (ob (m.rd b 0) fun mv=>ob (Am.mapOf m mv) fun es=>Y5 et m es) none)) none)) none=_
 rw[Nat.beq_refl,Nat.beq_refl,l9,l9,M.cel_some.2 h1,C5,h4,h6,h.rd 0]
 show some (ob (some (AV.map mb)) fun mv=>ob (Am.mapOf m mv) fun es=>Y5 et m es)=_
 rw[C5,hm.mapOf,C5]
end
end Go.Am
