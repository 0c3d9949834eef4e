import Derived.Test.YtooooiidpaecmaaGreatDoorAmQ
import Derived.Lib.SlKeysI
/- The abstract machine: slices.Sorted of maps.Keys, whose result is known ahead (the kit's shelf). -/
namespace Go.Am
open Go Go.RowKit Go.MapKept
section
variable {P:Program} {w0:World} {ρ:Ren} {m:M} {w:World}
theorem Sim.adopt(h:Sim P w0 ρ m w){w':World}(hbel:Below w.heap.size w w')(B:Blk)(r:RB)(hr:w.heap.size≤r.blk)
  (hB:a3A P w0 (ρ.put m.next r) (m.new B) w' r B) (hmv:∀c,B= .cells c→c.mv=none):
  Sim P w0 (ρ.put m.next r) (m.new B) w'∧ρ.le (ρ.put m.next r):=by
 have hle:ρ.le (ρ.put m.next r):=Ren.put_le (h.next _ (Nat.le_refl _)).1
 have hold:∀{b:Nat} {q:RB},ρ.loc b=some q→∀{X:Obj},w.heap[q.blk]? =some X→q.blk≠r.blk:=fun _ _ hX=>Nat.ne_of_lt (Nat.lt_of_lt_of_le (Below.lt_of_heap hX) hr)
 refine⟨⟨h.base.trans (hbel.mono h.base.size),?_,?_,?_,?_,?_,?_⟩,hle⟩
 ·intro b hb
  rw[M.next_new] at hb
  rw[Ren.put_ne (by omega),M.get_new,if_neg (by omega)]
  exact h.next b (by omega)
 ·intro b X hX
  rw[M.get_new] at hX
  by_cases hb:b=m.next
  ·rw[if_pos hb] at hX;cases hX;subst hb
   exact⟨r,Ren.put_same _ _ _,hB⟩
  ·rw[if_neg hb] at hX
   obtain⟨q,hq,k⟩:=h.blk b X hX
   refine⟨q,by rw[Ren.put_ne hb];exact hq,?_⟩
   cases X with
   |cells c=>
    obtain⟨arr,fz,k⟩:=k
    exact⟨arr,fz,k.keep hle (hbel.block _ (Below.lt_of_heap k.heap)) (b7u h (M.cel_some.2 hX))⟩
   |obj o=>
    obtain⟨O,k1,k2,k3⟩:=k
    exact⟨O,(hbel.block _ (Below.lt_of_heap k1)).trans k1,k2,k3.mono hle⟩
 ·intro b c x hc hm
  rw[M.cel_some,M.get_new] at hc
  by_cases hb:b=m.next
  ·rw[if_pos hb] at hc;cases hc
   rw[hmv c rfl] at hm;cases hm
  ·rw[if_neg hb] at hc
   obtain⟨c',hc'⟩:=h.mvok b c x (M.cel_some.2 hc) hm
   have:=h.lt (M.cel_some.1 hc')
   exact⟨c',by rw[M.cel_some,M.get_new,if_neg (by omega)];exact M.cel_some.1 hc'⟩
 ·intro b c b' c' q q' hc hc' hm' hq hq' e hg
  rw[M.cel_some,M.get_new] at hc hc'
  by_cases hb:b=m.next
  ·by_cases hb':b'=m.next
   ·rw[hb,hb'];exact .refl _
   ·rw[if_neg hb'] at hc'
    rw[hb,Ren.put_same] at hq;cases hq
    rw[Ren.put_ne hb'] at hq'
    obtain⟨q2,arr,fz,hq2,k⟩:=h.cel (M.cel_some.2 hc')
    rw[hq'] at hq2;cases hq2
    exact absurd e.symm (hold hq' k.heap)
  ·rw[if_neg hb] at hc
   rw[Ren.put_ne hb] at hq
   by_cases hb':b'=m.next
   ·rw[hb',Ren.put_same] at hq';cases hq'
    obtain⟨q2,arr,fz,hq2,k⟩:=h.cel (M.cel_some.2 hc)
    rw[hq] at hq2;cases hq2
    exact absurd e (hold hq k.heap)
   ·rw[if_neg hb'] at hc'
    rw[Ren.put_ne hb'] at hq'
    exact b8r h (h.own b c b' c' q q' (M.cel_some.2 hc) (M.cel_some.2 hc') hm' hq hq' e hg)
 ·intro b c b' c' q q' hc hc' hm' hq hq' e hg
  rw[M.cel_some,M.get_new] at hc hc'
  by_cases hb:b=m.next
  ·by_cases hb':b'=m.next
   ·rw[if_pos hb] at hc;rw[if_pos hb'] at hc'
    rw[hc] at hc';cases hc'
    rw[hb] at hq;rw[hb',hq] at hq';cases hq'
    exact Nat.le_refl _
   ·rw[if_neg hb'] at hc'
    rw[hb,Ren.put_same] at hq;cases hq
    rw[Ren.put_ne hb'] at hq'
    obtain⟨q2,arr,fz,hq2,k⟩:=h.cel (M.cel_some.2 hc')
    rw[hq'] at hq2;cases hq2
    exact absurd e.symm (hold hq' k.heap)
  ·rw[if_neg hb] at hc
   rw[Ren.put_ne hb] at hq
   by_cases hb':b'=m.next
   ·rw[hb',Ren.put_same] at hq';cases hq'
    obtain⟨q2,arr,fz,hq2,k⟩:=h.cel (M.cel_some.2 hc)
    rw[hq] at hq2;cases hq2
    exact absurd e (hold hq k.heap)
   ·rw[if_neg hb'] at hc'
    rw[Ren.put_ne hb'] at hq'
    exact h.ext b c b' c' q q' (M.cel_some.2 hc) (M.cel_some.2 hc') hm' hq hq' e hg
 ·intro b es b' es' q q' hc hc' hq hq' e
  rw[M.get_new] at hc hc'
  by_cases hb:b=m.next
  ·by_cases hb':b'=m.next
   ·rw[hb,hb']
   ·rw[if_neg hb'] at hc'
    rw[hb,Ren.put_same] at hq;cases hq
    rw[Ren.put_ne hb'] at hq'
    obtain⟨q2,hq2,O,k1,_⟩:=h.blk b' _ hc'
    rw[hq'] at hq2;cases hq2
    exact absurd e.symm (hold hq' k1)
  ·rw[if_neg hb] at hc
   rw[Ren.put_ne hb] at hq
   by_cases hb':b'=m.next
   ·rw[hb',Ren.put_same] at hq';cases hq'
    obtain⟨q2,hq2,O,k1,_⟩:=h.blk b _ hc
    rw[hq] at hq2;cases hq2
    exact absurd e (hold hq k1)
   ·rw[if_neg hb'] at hc'
    rw[Ren.put_ne hb'] at hq'
    exact h.mown b es b' es' q q' hc hc' hq hq' e
def Q3(_:Value):Option (DataW Unit×List MemPlace):=some (.lit (.bool true),[])
structure SortsKeys(P:Program)(g kf et kt:Nat):Prop where
 key:P.underlying kt=some (.int .i64)
 elem:tsize P et=some 1
 enters:∀args w,(callFunc g args).run P w= .ok (.enter g args) w
 keys:∀(Bm b nn:Nat) (D0:DataW Unit) (W:World),Bm<W.heap.size→W.cell? ⟨Bm,0,none⟩=some (.map (some b))→W.ownsMap P kt Q3 b nn D0→Maps.size D0≤1000000→
  Calls P g #[.func (.func kf) #[] #[.pointer (some ⟨Bm,0,none⟩)]] W fun e w'=>∃(v:Value) (ss:List Int),e= .returned v∧ss.Perm (intKeys D0)∧
   w'.ownsRow W.heap.size et 1 v ss.length ((ss.mergeSort leI).map encZ)∧(ss= []→v= .slice none 0 0)∧Below W.heap.size W w'
 none:∀(Bm:Nat) (W:World),Bm<W.heap.size→W.cell? ⟨Bm,0,none⟩=some (.map none)→
  Calls P g #[.func (.func kf) #[] #[.pointer (some ⟨Bm,0,none⟩)]] W fun e w'=>e= .returned (.slice none 0 0)∧Below W.heap.size W w'
noncomputable section
def a2f(x:AV):Option Int:=match x with
 | .n a=>some (Int.ofNat a)
 | .p (.int .i64 i)=>some i
 |_=>none
def J9:List (AV×AV)→Option (List Int)
 | [] =>some []
 |e::l=>match a2f e.1,J9 l with
  |some i,some r=>some (i::r)
  |_,_=>none
def ins(x:Int):List Int→List Int
 | [] => [x]
 |y::l=>bc (decide (x≤y)) (x::y::l) (y::ins x l)
def C4:List Int→List Int
 | [] => []
 |x::l=>ins x (C4 l)
def V7(i:Int):Bool:=(Lit.int .i64 i).wf
def Y5(et:TypeId)(m:M)(es:List (AV×AV)):R:=ob (J9 es) fun ks=>match ks with
 | [] =>some (.p (.slice none 0 0),m)
 |ks=>bc (ks.all V7&&Nat.ble ks.length 1000000) (some (.slice m.next 0 ks.length ks.length false,m.new (.cells ⟨et,ks.length,v8 ((C4 ks).map fun i=>ofI .i64 i) 0 .leaf,[],none,false,false,false⟩))) none
def a2w(kf et:Nat)(args:List AV)(m:M):Option R:=match args with
 | [.func f [.ptr b off]] =>bc (Nat.beq f kf) (some (ob (m.cel b) fun c=>bc (c.exact&&(c.mv.isNone&&Nat.beq off 0)) (ob (m.rd b 0) fun mv=>ob (mapOf m mv) fun es=>Y5 et m es) none)) none
 |_=>none
end
theorem a9D(x:Int):∀l,(ins x l).Perm (x::l)
 | [] => .refl _
 |y::l=>by
  unfold ins
  rw[A6]
  split
  ·exact .refl _
  ·exact(List.Perm.cons y (a9D x l)).trans (List.Perm.swap x y l)
theorem a4H:∀l,(C4 l).Perm l
 | [] => .refl _
 |x::l=>(a9D x (C4 l)).trans (List.Perm.cons x (a4H l))
theorem b8f(x:Int):∀l,l.Pairwise (fun a b=>leI a b=true)→(ins x l).Pairwise (fun a b=>leI a b=true)
 | [],_=>by simp[ins]
 |y::l,h=>by
  unfold ins
  rw[A6]
  have h':=List.pairwise_cons.1 h
  split
  ·rename_i hxy
   have hxy:=of_decide_eq_true hxy
   refine List.pairwise_cons.2 ⟨fun z hz=> ?_,h⟩
   rcases List.mem_cons.1 hz with rfl|hz
   ·simpa[leI] using hxy
   ·have:=h'.1 z hz
    simp only[leI,decide_eq_true_eq] at this⊢
    omega
  ·rename_i hxy
   have hxy:¬x≤y:=fun hh=>hxy (decide_eq_true hh)
   refine List.pairwise_cons.2 ⟨fun z hz=> ?_,b8f x l h'.2⟩
   rcases List.mem_cons.1 ((a9D x l).mem_iff.1 hz) with rfl|hz
   ·simp only[leI,decide_eq_true_eq];omega
   ·exact h'.1 z hz
theorem b7t:∀l,(C4 l).Pairwise (fun a b=>leI a b=true)
 | [] =>by simp[C4]
 |x::l=>b8f x _ (b7t l)
theorem b92(l l':List Int)(h:l'.Perm l):l'.mergeSort leI=C4 l:=by
 have tr:∀a b c:Int,leI a b=true→leI b c=true→leI a c=true:=fun a b c h1 h2=>by simp only[leI,decide_eq_true_eq] at*;omega
 have to:∀a b:Int,(leI a b||leI b a)=true:=fun a b=>by simp only[leI,Bool.or_eq_true,decide_eq_true_eq];omega
 refine List.Perm.eq_of_pairwise (le:=fun a b=>leI a b=true) (fun a b _ _ h1 h2=> ?_) (List.pairwise_mergeSort tr to l') (b7t l) (((List.mergeSort_perm l' leI).trans h).trans (a4H l).symm)
 simp only[leI,decide_eq_true_eq] at h1 h2
 omega
theorem a9g{x:AV}{i:Int}{v:Value}(h:a2f x=some i)(hv:d6 ρ x=some v):v= .int .i64 i:=by
 unfold a2f at h
 split at h
 ·cases h;rw[F3] at hv;cases hv;rfl
 ·cases h;rw[l7 rfl] at hv;cases hv;rfl
 ·cases h
theorem a9c:∀{es:List (AV×AV)} {ks:List Int} {vs:List Value},J9 es=some ks→i8 ρ (es.map (·.1))=some vs→vs=ks.map encZ
 | [],ks,vs,h,hv=>by
  cases h
  rw[List.map_nil,o0] at hv
  cases hv;rfl
 |e::es,ks,vs,h,hv=>by
  unfold J9 at h
  obtain⟨u,us,h1,h2,rfl⟩:=o9.1 hv
  split at h
  ·rename_i i r hi hr
   cases h
   rw[a9g hi h1,a9c hr h2]
   rfl
  ·cases h
theorem g4n(et n:Nat)(vs:List AV)(i:Nat)(x:AV)(hx:vs[i]? =some x):(⟨et,n,v8 vs 0 .leaf,[],none,false,false,false⟩:Cel).rd i=x:=by
 have hi:=(List.getElem?_eq_some_iff.1 hx).1
 rw[a2L ⟨et,n,.leaf,[],none,false,false,false⟩ vs 0 i ⟨et,n,v8 vs 0 .leaf,[],none,false,false,false⟩ rfl rfl,if_pos ⟨Nat.zero_le _,by omega⟩,Nat.sub_zero,hx]
 rfl
theorem Sim.below(h:Sim P w0 ρ m w){w':World}(hb:Below w.heap.size w w'):Sim P w0 ρ m w':={
 base:=h.base.trans (hb.mono h.base.size)
 next:=h.next
 blk:=fun b B hB=>by
  obtain⟨r,hr,k⟩:=h.blk b B hB
  refine⟨r,hr,?_⟩
  cases B with
  |cells c=>
   obtain⟨arr,fz,k⟩:=k
   exact⟨arr,fz,k.keep ρ.le_refl (hb.block _ (Below.lt_of_heap k.heap)) id⟩
  |obj o=>
   obtain⟨O,k1,k2,k3⟩:=k
   exact⟨O,(hb.block _ (Below.lt_of_heap k1)).trans k1,k2,k3⟩
 mvok:=h.mvok
 own:=h.own
 ext:=h.ext
 mown:=h.mown
 }
theorem f6S{g kf et kt:Nat}(hS:SortsKeys P g kf et kt)(h:Sim P w0 ρ m w){es:List (AV×AV)}{ks ss:List Int}(hks:J9 es=some ks){v:AV}{m':M}(hr:Y5 et m es=some (v,m'))(hperm:ss.Perm ks)
  {v1:Value} {w':World} (hrow:w'.ownsRow w.heap.size et 1 v1 ss.length ((ss.mergeSort leI).map encZ)) (hnil:ss= []→v1= .slice none 0 0) (hbel:Below w.heap.size w w'):
  ∃ρ',d6 ρ' v=some v1∧ρ.le ρ'∧Sim P w0 ρ' m' w':=by
 unfold Y5 at hr
 rw[hks] at hr
 have hlen:=hperm.length_eq
 cases ks with
 |nil=>
  have hr:some (AV.p (.slice none 0 0),m)=some (v,m'):=hr
  cases hr
  rw[hnil (List.eq_nil_of_length_eq_zero hlen)]
  exact⟨ρ,l7 rfl,ρ.le_refl,h.below hbel⟩
 |cons x l=>
  have hr:bc ((x::l).all V7&&Nat.ble (x::l).length 1000000) (some (AV.slice m.next 0 (x::l).length (x::l).length false,m.new (.cells ⟨et,(x::l).length,v8 ((C4 (x::l)).map fun i=>ofI .i64 i) 0 .leaf,[],none,false,false,false⟩))) none=some (v,m'):=hr
  obtain⟨hb,hr⟩:=l4 hr
  cases hr
  obtain⟨_,hrow⟩:=hrow
  rcases hrow with⟨_,h0⟩|⟨g2,cap,cur,rfl,hg2,hcur,hcap,_,hsz,htake⟩
  ·rw[hlen] at h0;cases h0
  ·rw[b92 _ _ hperm] at htake
   rw[hlen] at hcap htake
   rw[Nat.mul_one] at hsz htake
   have hcells:∀i,i<(x::l).length→∃z:Int,(C4 (x::l))[i]? =some z∧cur[i]? =some (encZ z):=by
    intro i hi
    obtain⟨z,hz⟩:∃z,(C4 (x::l))[i]? =some z:=⟨_,List.getElem?_eq_getElem (by rw[(a4H (x::l)).length_eq];exact hi)⟩
    refine⟨z,hz,?_⟩
    have h5:(cur.toList.take (x::l).length)[i]? =some (encZ z):=by rw[htake,List.getElem?_map,hz];rfl
    rw[List.getElem?_take,if_pos hi] at h5
    simpa using h5
   have hB:a3A P w0 (ρ.put m.next ⟨g2,0,cap-(x::l).length⟩) (m.new (.cells ⟨et,(x::l).length,v8 ((C4 (x::l)).map fun i=>ofI .i64 i) 0 .leaf,[],none,false,false,false⟩)) w' ⟨g2,0,cap-(x::l).length⟩
     (.cells ⟨et,(x::l).length,v8 ((C4 (x::l)).map fun i=>ofI .i64 i) 0 .leaf,[],none,false,false,false⟩):=by
    refine⟨cur,(0,0),hcur,fun _ _=>⟨Nat.le_trans h.base.size hg2,.inl rfl⟩,fun _=> ?_,fun _ e=>(by cases e),fun _ _ _=>⟨1,hS.elem,?_⟩,fun _ e=>(by cases e),fun _ i hi=> ?_⟩
    ·show 0+(x::l).length≤cur.size
     omega
    ·show 0+(x::l).length+(cap-(x::l).length)*1≤cur.size
     omega
    ·obtain⟨z,hz,hcz⟩:=hcells i hi
     refine⟨.int .i64 z,?_,rfl,?_⟩
     ·rw[g4n et _ _ i (ofI .i64 z) (by rw[List.getElem?_map,hz];rfl)]
      exact G0 _ _ _
     ·rw[Nat.zero_add]
      exact hcz
   have had:=h.adopt hbel _ ⟨g2,0,cap-(x::l).length⟩ hg2 hB (fun c e=>by cases e;rfl)
   refine⟨_,?_,had.2,had.1⟩
   rw[O5 (Ren.put_same _ _ _),hlen]
   simp only[Nat.add_zero,Bool.false_eq_true,if_false]
   congr 2
   omega
theorem f56{g kf et kt:Nat}(hS:SortsKeys P g kf et kt){args:List AV}{v:AV}{m':M}{vs:List Value}{cs:List Frame}(hr:a2w kf et args m=some (some (v,m')))(hv:i8 ρ args=some vs)(h:Sim P w0 ρ m w):
  X9 P w0 ρ w g vs cs v m':=by
 unfold a2w at hr
 split at hr
 ·rename_i f b off
  obtain⟨hf,hr1⟩:=l4 hr
  have hf:=Nat.eq_of_beq_eq_true hf
  subst hf
  have hr2:=Option.some.inj hr1
  obtain⟨c,hc,hr3⟩:=d9 hr2
  obtain⟨hcc,hr4⟩:=l4 hr3
  obtain⟨mv,hmv,hr5⟩:=d9 hr4
  obtain⟨es,hes,hr6⟩:=d9 hr5
  clear hr hr1 hr2 hr3 hr4 hr5
  simp only[Bool.and_eq_true,Option.isNone_iff_eq_none] at hcc
  obtain⟨hex,hnm,hoff⟩:=hcc
  have hoff:=Nat.eq_of_beq_eq_true hoff
  subst hoff
  obtain⟨r,arr,fz,hloc,k⟩:=h.cel hc
  obtain⟨_,hsh⟩:=k.exact hnm hex
  have hBm:r.blk<w.heap.size:=Below.lt_of_heap k.heap
  obtain⟨r',u,hloc2,q1,_,q2⟩:=h.rd hmv
  rw[hloc] at hloc2;cases hloc2
  rw[hsh] at q2
  have hvs:vs= [.func (.func f) #[] #[.pointer (some ⟨r.blk,0,none⟩)]] :=by
   obtain⟨u1,us,h1,h2,rfl⟩:=o9.1 hv
   rw[o0] at h2
   cases h2
   simp only[d6,i8,hloc,Option.map_some,Option.bind_some,hsh] at h1
   cases h1
   rfl
  subst hvs
  obtain⟨ks,hks,_⟩:=d9 (show ob (J9 es) _=some (v,m') from hr6)
  rcases a9e h hes q1 with⟨hu,he⟩|⟨b2,r2,st2,ents,clock,kvs,hxb,hmb,hu,hr1,hheap,hown,hmok⟩
  ·subst hu he
   cases hks
   obtain⟨e,w',fr,⟨rfl,hbel⟩,hsteps,hfn,hlv⟩:=hS.none r.blk w hBm q2 cs
   cases hr6
   exact⟨ρ,.slice none 0 0,w',l7 rfl,ρ.le_refl,h.below hbel,.inr ⟨hS.enters _ _,fr,hsteps,hfn,hlv⟩⟩
  ·subst hu
   have hkl:(ents.toList.map (·.key)).Perm (ks.map encZ):=by
    have h1:=a9c hks hmok.keys
    have h2:=hmok.perm.map (·.1)
    rw[h1,List.map_map] at h2
    exact h2.symm
   have hlen:ents.size=ks.length:=by
    have:=hkl.length_eq
    simpa using this
   have hchk:ks.all V7=true∧ks.length≤1000000:=by
    unfold Y5 at hr6
    rw[hks] at hr6
    cases ks with
    |nil=>exact⟨rfl,Nat.zero_le _⟩
    |cons x l=>
     have hr7:bc ((x::l).all V7&&Nat.ble (x::l).length 1000000) _ none=some (v,m'):=hr6
     obtain⟨hb,_⟩:=l4 hr7
     simp only[Bool.and_eq_true] at hb
     exact⟨hb.1,Nat.le_of_ble_eq_true hb.2⟩
   have hkey:∀x∈ents.toList,∃i,x.key=encZ i∧keyOf P kt x.key=some (.int .i64 i):=by
    intro x hx
    have hmem:x.key∈ks.map encZ:=hkl.mem_iff.1 (List.mem_map.2 ⟨x,hx,rfl⟩)
    obtain⟨i,hi,he⟩:=List.mem_map.1 hmem
    exact⟨i,he.symm,by rw[←he];exact Maps.keyOf_int_mk hS.key (List.all_eq_true.1 hchk.1 i hi)⟩
   have hrd:∀x∈ents.toList,∃i,x.key=encZ i∧WideElems.rd P kt Q3 x=some (.int .i64 i,.lit (.bool true)):=by
    intro x hx
    obtain⟨i,h1,h2⟩:=hkey x hx
    exact⟨i,h1,by simp[WideElems.rd,h2,Q3]⟩
   have hfit:WideElems.Fit P kt Q3 ents clock:=⟨by rw[hlen];exact Nat.le_trans hchk.2 (by decide),hmok.stamped,fun x hx=>by obtain⟨i,_,h2⟩:=hrd x hx;exact⟨_,h2⟩⟩
   have howns:w.ownsMap P kt Q3 r2.blk ents.size (.map ((ents.toList.map (WideElems.rg P kt Q3)).foldr DataW.insert [])):=⟨ents,clock,hheap,hfit,Nat.le_refl _,rfl⟩
   have hik:(intKeys (.map ((ents.toList.map (WideElems.rg P kt Q3)).foldr DataW.insert []):DataW Unit)).Perm ks:=by
    have h2:=(WideShapes.sorted_perm (ents.toList.map (WideElems.rg P kt Q3))).map (fun p=>intOf p.1)
    refine h2.trans ?_
    have h4:((ents.toList.map (WideElems.rg P kt Q3)).map (fun p=>encZ (intOf p.1))).Perm (ks.map encZ):=by
     refine List.Perm.trans (List.Perm.of_eq ?_) hkl
     rw[List.map_map]
     refine List.map_congr_left fun x hx=> ?_
     obtain⟨i,h5,h6⟩:=hrd x hx
     simp only[Function.comp_apply,WideElems.rg,h6,Option.getD_some,h5,intOf]
    have h5:=h4.map (fun v=>match v with|Value.int _ i=>i|_=>0)
    simpa[Function.comp_def,encZ] using h5
   have hsz:Maps.size (.map ((ents.toList.map (WideElems.rg P kt Q3)).foldr DataW.insert []):DataW Unit)≤1000000:=by
    rw[Maps.size_eq,(WideShapes.sorted_perm _).length_eq,List.length_map,Array.length_toList,hlen]
    exact hchk.2
   obtain⟨e,w',fr,⟨v1,ss,rfl,hperm,hrow,hnil,hbel⟩,hsteps,hfn,hlv⟩:=hS.keys r.blk r2.blk ents.size _ w hBm q2 howns hsz cs
   obtain⟨ρ',h1,h2,h3⟩:=f6S hS h hks hr6 (hperm.trans hik) hrow hnil hbel
   exact⟨ρ',v1,w',h1,h2,h3,.inr ⟨hS.enters _ _,fr,hsteps,hfn,hlv⟩⟩
 ·cases hr
noncomputable def X6(et:Nat)(args:List AV)(m:M):List Nat→Option R
 | [] =>none
 |kf::l=>Option.rec (motive:=fun _=>Option R) (X6 et args m l) (fun r=>some r) (a2w kf et args m)
noncomputable def f8P(P:Program)(g et:Nat)(kfs:List Nat):Tb:=⟨Q7 P,fun g' args m=>bc (Nat.beq g' g) (X6 et args m kfs) none⟩
theorem b7a{et:Nat}{args:List AV}{r:R}:∀{kfs:List Nat},X6 et args m kfs=some r→∃kf∈kfs,a2w kf et args m=some r
 | [],h=>by cases h
 |kf::l,h=>by
  cases hk:a2w kf et args m with
  |none=>
   have h2:X6 et args m l=some r:=by
    unfold X6 at h
    rw[hk] at h
    exact h
   obtain⟨k,h3,h4⟩:=b7a h2
   exact⟨k,List.mem_cons_of_mem _ h3,h4⟩
  |some r'=>
   have h2:some r'=some r:=by
    unfold X6 at h
    rw[hk] at h
    exact h
   exact⟨kf,List.mem_cons_self,hk.trans h2⟩
end
end Go.Am
