import Derived.Test.YtooooiidpaecmaaGreatDoorAmI
/- The abstract machine: maps, copy, clear. -/
namespace Go.Am
open Go Go.RowKit Go.MapKept
section
variable {P:Program} {w0:World} {ρ:Ren} {m:M} {w:World}
theorem M.mapF_some{b:Nat}{q:List (AV×AV)×St2}:m.mapF b=some q↔m.get b=some (.obj (.map q.1 q.2)):=by
 obtain⟨es,st⟩:=q
 unfold M.mapF
 cases h:m.get b with
 |none=>simp[ob]
 |some x=>
  cases x with
  |cells c=>simp[ob]
  |obj o=>cases o<;>simp[ob]
theorem M.map_some{b:Nat}{es:List (AV×AV)}(h:m.map b=some es):∃st,m.mapF b=some (es,st):=by
 obtain⟨q,h1,h2⟩:=d9 h
 cases h2
 exact⟨q.2,h1⟩
theorem a1h{β:Type}{d:Option β}{k:Nat→Option β}{x:AV}{r:β}(h:a0b d k x=some r):(∃b,x= .map b∧k b=some r)∨((∀b,x≠ .map b)∧d=some r):=by
 cases x<;>simp only[a0b] at h<;>first
  |exact .inl ⟨_,rfl,h⟩
  |exact .inr ⟨(by intro b hb;cases hb),h⟩
theorem a2x{b:Nat}{v:Value}(h:d6 ρ (.map b)=some v):∃r,ρ.loc b=some r∧v= .map (some r.blk):=by
 simp only[d6,Option.map_eq_some_iff] at h
 obtain⟨r,h1,h2⟩:=h
 exact⟨r,h1,h2.symm⟩
theorem Sim.map(h:Sim P w0 ρ m w){b:Nat}{q:List (AV×AV)×St2}(hb:m.mapF b=some q):
  ∃r ents clock kvs,ρ.loc b=some r∧w.heap[r.blk]? =some (.map ents clock)∧w0.heap.size≤r.blk∧MapOk ρ q.1 q.2 ents clock kvs:=by
 obtain⟨r,hr,O,h1,h2,ents,clock,kvs,rfl,h3⟩:=h.blk b _ (M.mapF_some.1 hb)
 exact⟨r,ents,clock,kvs,hr,h1,h2,h3⟩
theorem a1f{b x:Nat}{o o':OB}(hb:m.get b=some (.obj o)):(m.put b (.obj o')).cel x=m.cel x:=by
 unfold M.cel
 rw[M.get_put]
 by_cases hx:x=b
 ·subst hx
  rw[if_pos rfl,hb]
  rfl
 ·rw[if_neg hx]
theorem b7o{b:Nat}{o o':OB}(hb:m.get b=some (.obj o)):∀n x,(m.put b (.obj o')).clean n x=m.clean n x
 |0,_=>rfl
 |n+1,x=>by
  unfold M.clean
  rw[a1f hb]
  cases m.cel x with
  |none=>rfl
  |some c=>cases hm:c.mv<;>simp only[hm,b7o hb n]
theorem f4s{b:Nat}{o o':OB}(hb:m.get b=some (.obj o))(c:Cel):(m.put b (.obj o')).readable c=m.readable c:=by
 unfold M.readable
 cases c.mv with
 |none=>rfl
 |some h=>exact b7o hb _ h
theorem f5N{b x y:Nat}{o o':OB}(hb:m.get b=some (.obj o))(h:Reach m x y):Reach (m.put b (.obj o')) x y:=by
 induction h with
 |refl b=>exact .refl b
 |step hc hm _ ih=>exact .step (by rw[a1f hb];exact hc) hm ih
theorem Sim.putObj(h:Sim P w0 ρ m w){b:Nat}{o o':OB}{r:RB}{O O':Obj}(hb:m.get b=some (.obj o))(hr:ρ.loc b=some r)
  (hh:w.heap[r.blk]? =some O) (hO:ObOk ρ o O) (hown:w0.heap.size≤r.blk) (hok:ObOk ρ o' O'):
  Sim P w0 ρ (m.put b (.obj o')) {w with heap:=w.heap.setIfInBounds r.blk O'}:=by
 have hset:=heap_set (o':=O') hh
 refine⟨⟨h.base.os,h.base.tape,h.base.output,by simpa using h.base.size,fun q hq=>(hset.2 q (by omega)).trans (h.base.block q hq)⟩,?_,?_,?_,?_,?_,?_⟩
 ·intro x hx
  have:=h.lt hb
  rw[M.next_put] at hx
  exact⟨(h.next x hx).1,by rw[M.get_put,if_neg (by omega)];exact(h.next x hx).2⟩
 ·intro x X hx
  rw[M.get_put] at hx
  by_cases hxb:x=b
  ·rw[if_pos hxb] at hx;cases hx;subst hxb
   exact⟨r,hr,O',hset.1,hown,hok⟩
  ·rw[if_neg hxb] at hx
   obtain⟨q,hq,kq⟩:=h.blk x X hx
   refine⟨q,hq,?_⟩
   cases X with
   |obj e=>
    obtain⟨O1,k1,k2,k3⟩:=kq
    have hne:q.blk≠r.blk:=fun e'=>hxb (h.mown x e b o q r hx hb hq hr e')
    exact⟨O1,(hset.2 q.blk hne).trans k1,k2,k3⟩
   |cells c=>
    obtain⟨arr,fz,k⟩:=kq
    have hne:q.blk≠r.blk:=fun e'=>by have:=k.heap;rw[e',hh] at this;cases this;exact hO.notCells
    exact⟨arr,fz,k.keep ρ.le_refl (hset.2 q.blk hne) (fun hrd=>by rwa [f4s hb] at hrd)⟩
 ·intro x c y hc hm
  rw[a1f hb] at hc
  obtain⟨c',hc'⟩:=h.mvok x c y hc hm
  exact⟨c',by rw[a1f hb];exact hc'⟩
 ·intro x c y d q q' hc hd hm hq hq' e hg
  rw[a1f hb] at hc hd
  exact f5N hb (h.own x c y d q q' hc hd hm hq hq' e hg)
 ·intro x c y d q q' hc hd hm hq hq' e hg
  rw[a1f hb] at hc hd
  exact h.ext x c y d q q' hc hd hm hq hq' e hg
 ·intro x e1 y e2 q q' hx hy hq hq' e
  rw[M.get_put] at hx hy
  have old:∀z e,(if z=b then some (Blk.obj o') else m.get z)=some (.obj e)→∃e',m.get z=some (.obj e'):=by
   intro z e hz
   by_cases hzb:z=b
   ·subst hzb;exact⟨o,hb⟩
   ·rw[if_neg hzb] at hz;exact⟨e,hz⟩
  obtain⟨f1,hx'⟩:=old x e1 hx
  obtain⟨f2,hy'⟩:=old y e2 hy
  exact h.mown x f1 y f2 q q' hx' hy' hq hq' e
theorem Sim.putMap(h:Sim P w0 ρ m w){b:Nat}{q q':List (AV×AV)×St2}{r:RB}{ents ents':Array MapEntry}{clock clock':Nat}{kvs kvs':List (Value×Value)}(hb:m.mapF b=some q)(hr:ρ.loc b=some r)
  (hh:w.heap[r.blk]? =some (.map ents clock)) (hmok:MapOk ρ q.1 q.2 ents clock kvs) (hown:w0.heap.size≤r.blk) (hok:MapOk ρ q'.1 q'.2 ents' clock' kvs'):
  Sim P w0 ρ (m.put b (.obj (.map q'.1 q'.2))) {w with heap:=w.heap.setIfInBounds r.blk (.map ents' clock')}:=
 h.putObj (M.mapF_some.1 hb) hr hh ⟨_,_,_,rfl,hmok⟩ hown ⟨_,_,_,rfl,hok⟩
def a08:Option IntKind→TypeDesc
 |some k=> .int k
 |none=> .string
theorem a0y{t:TypeId}{kd:Option IntKind}{e:TypeId}(h:H1 P t=some (kd,e)):∃kt,P.underlying t=some (.map kt e)∧P.underlying kt=some (a08 kd):=by
 unfold H1 at h
 split at h
 ·rename_i k e' h1
  split at h
  ·rename_i i h2;cases h;exact⟨k,h1,h2⟩
  ·rename_i h2;cases h;exact⟨k,h1,h2⟩
  ·cases h
 ·cases h
theorem a0K{kd:Option IntKind}{x:AV}{v:Value}(h:isK kd x=true)(hv:d6 ρ x=some v):IsKey (a08 kd) v:=by
 unfold isK at h
 cases kd with
 |none=>
  cases hs:toS x with
  |none=>simp[hs] at h
  |some s=>rw[J5 hs hv];trivial
 |some k=>
  simp only[] at h
  split at h
  ·rename_i k' i hi
   rw[G1 hi hv]
   exact(of_decide_eq_true h).symm
  ·cases h
theorem f9X{kd:Option IntKind}{x y:AV}{u v:Value}(hx:isK kd x=true)(hy:isK kd y=true)(hu:d6 ρ x=some u)(hv:d6 ρ y=some v):a0u x y=true↔u=v:=by
 unfold isK at hx hy
 unfold a0u
 cases kd with
 |none=>
  cases hs:toS x with
  |none=>simp[hs] at hx
  |some s=>
   cases ht:toS y with
   |none=>simp[ht] at hy
   |some t=>
    have hxi:toI x=none:=by cases x<;>simp[toS] at hs<;>(rename_i z;cases z<;>simp[toI] at hs⊢)
    rw[hxi,J5 hs hu,J5 ht hv]
    simp only[Value.string.injEq]
    constructor
    ·intro h
     have:=a2V s.data.toList t.data.toList
     rw[this] at h
     cases s;cases t
     simpa using h
    ·intro h
     subst h
     rw[a2V]
     simp
 |some k=>
  simp only[] at hx hy
  split at hx
  ·rename_i k1 i h1
   split at hy
   ·rename_i k2 j h2
    have e1:=of_decide_eq_true hx
    have e2:=of_decide_eq_true hy
    subst e1 e2
    rw[h1,h2,G1 h1 hu,G1 h2 hv]
    simp
   ·cases hy
  ·cases hx
theorem g30(x y:AV):keq x y=a0u x y:=by
 unfold keq
 cases x<;>try rfl
 cases y<;>try rfl
 rename_i a b
 show Nat.beq a b=a0u (.n a) (.n b)
 unfold a0u
 simp only[toI]
 by_cases h:a=b
 ·subst h;simp
 ·have:Nat.beq a b=false:=by
   cases hb:Nat.beq a b with
   |false=>rfl
   |true=>exact absurd (Nat.eq_of_beq_eq_true hb) h
  have h':¬((a:Int)=(b:Int)):=by omega
  rw[this]
  simp[h']
theorem a81{d:TypeDesc}{kv:Value}(hkv:IsKey d kv):∀(ents:List MapEntry) (i:Nat),(∀e∈ents,IsKey d e.key)→
  (Instr.findNow d kv ents i=some none∧(∀e∈ents,e.key≠kv))∨∃j e,ents[j]? =some e∧e.key=kv∧Instr.findNow d kv ents i=some (some (i+j,e.val))
 | [],i,_=> .inl ⟨rfl,by simp⟩
 |e::ents,i,h=>by
  obtain⟨r,hr,hiff⟩:=sameNow_of_keys hkv (h e (by simp))
  unfold Instr.findNow
  rw[hr]
  cases r with
  |true=>exact .inr ⟨0,e,rfl,(hiff.1 rfl).symm,rfl⟩
  |false=>
   simp only[]
   rcases a81 hkv ents (i+1) (fun x hx=>h x (by simp[hx])) with⟨h4,h5⟩|⟨j,e',h5,h6,h8⟩
   ·refine .inl ⟨h4,?_⟩
    intro z hz
    rcases List.mem_cons.1 hz with rfl|hz
    ·intro hzk
     have:=hiff.2 hzk.symm
     cases this
    ·exact h5 z hz
   ·exact .inr ⟨j+1,e',by simpa using h5,h6,by rw[h8];congr 3;omega⟩
theorem c0f{kd:Option IntKind}{k:AV}{kv:Value}(hk:isK kd k=true)(hv:d6 ρ k=some kv):∀(es:List (AV×AV)) (kvs:List (Value×Value)) (i:Nat),es.all (fun e=>isK kd e.1)=true→
  i8 ρ (es.map (·.1))=some (kvs.map (·.1))→i8 ρ (es.map (·.2))=some (kvs.map (·.2))→
  (D4 k i es=none∧(∀q∈kvs,q.1≠kv))∨∃j x v,D4 k i es=some (i+j,x)∧kvs[j]? =some (kv,v)∧d6 ρ x=some v
 | [],kvs,i,_,h1,_=>by
  cases kvs with
  |nil=>exact .inl ⟨rfl,by simp⟩
  |cons a l=>simp[o0] at h1
 |e::es,[],i,_,h1,_=>by
  obtain⟨_,_,_,_,h⟩:=o9.1 h1
  simp at h
 |e::es,d::kvs,i,ha,h1,h2=>by
  obtain⟨u,us,p1,p2,p3⟩:=o9.1 h1
  obtain⟨x,xs,q1,q2,q3⟩:=o9.1 h2
  obtain⟨d1,d2⟩:=d
  simp only[List.map_cons,List.cons.injEq] at p3 q3
  obtain⟨rfl,rfl⟩:=p3
  obtain⟨rfl,rfl⟩:=q3
  simp only[List.all_cons,Bool.and_eq_true] at ha
  have hkeq:=f9X hk ha.1 hv p1
  unfold D4
  rw[g30]
  cases hb:a0u k e.1 with
  |true=>
   have e1:=hkeq.1 hb
   refine .inr ⟨0,e.2,d2,rfl,?_,q1⟩
   rw[e1];rfl
  |false=>
   rw[u7]
   rcases c0f hk hv es kvs (i+1) ha.2 p2 q2 with⟨h3,h5⟩|⟨j,x,v,h3,h5,h7⟩
   ·refine .inl ⟨h3,?_⟩
    intro z hz
    rcases List.mem_cons.1 hz with rfl|hz
    ·intro hzk
     rw[hkeq.2 hzk.symm] at hb
     cases hb
    ·exact h5 z hz
   ·exact .inr ⟨j+1,x,v,by rw[h3];congr 2;omega,by simpa using h5,h7⟩
theorem b78{kd:Option IntKind}:∀{es:List (AV×AV)} {vs:List Value},es.all (fun e=>isK kd e.1)=true→i8 ρ (es.map (·.1))=some vs→∀v∈vs,IsKey (a08 kd) v
 | [],vs,_,h,v,hv=>by rw[List.map_nil,o0] at h;cases h;cases hv
 |e::es,vs,ha,h,v,hv=>by
  obtain⟨u,us,p1,p2,rfl⟩:=o9.1 h
  simp only[List.all_cons,Bool.and_eq_true] at ha
  rcases List.mem_cons.1 hv with rfl|hv
  ·exact a0K ha.1 p1
  ·exact b78 ha.2 p2 v hv
theorem b9Z{α β:Type}{f:α→β}{l:List α}(h:(l.map f).Nodup){i j:Nat}{x y:α}(hx:l[i]? =some x)(hy:l[j]? =some y)(he:f x=f y):i=j:=by
 have hi:=(List.getElem?_eq_some_iff.1 hx).1
 exact(List.getElem?_inj (by simpa using hi) h).1 (by simp[hx,hy,he])
theorem a2I{α:Type}:∀{l:List α} {i:Nat} {a:α},l[i]? =some a→l.Perm (a::l.eraseIdx i)
 | [],i,a,h=>by simp at h
 |x::l,0,a,h=>by simp at h;subst h;exact .refl _
 |x::l,i+1,a,h=>by
  have:=a2I (l:=l) (i:=i) (a:=a) (by simpa using h)
  exact(List.Perm.cons x this).trans (List.Perm.swap a x _)
theorem b8j{α:Type}{l l':List α}{i j:Nat}{a:α}(h:l.Perm l')(hi:l[i]? =some a)(hj:l'[j]? =some a):(l.eraseIdx i).Perm (l'.eraseIdx j):=
 List.Perm.cons_inv (((a2I hi).symm.trans h).trans (a2I hj))
theorem f9r{α:Type}{l l':List α}{i j:Nat}{a b:α}(h:l.Perm l')(hi:l[i]? =some a)(hj:l'[j]? =some a):(l.set i b).Perm (l'.set j b):=by
 have h1:(l.set i b)[i]? =some b:=by simp[(List.getElem?_eq_some_iff.1 hi).1]
 have h2:(l'.set j b)[j]? =some b:=by simp[(List.getElem?_eq_some_iff.1 hj).1]
 have e1:=a2I h1
 have e2:=a2I h2
 rw[List.eraseIdx_set_eq] at e1 e2
 exact(e1.trans (List.Perm.cons b (b8j h hi hj))).trans e2.symm
theorem a9x{kd:Option IntKind}{k:AV}{kv:Value}{es:List (AV×AV)}{st:St2}{ents:Array MapEntry}{clock:Nat}{kvs:List (Value×Value)}(hm:MapOk ρ es st ents clock kvs)(hk:isK kd k=true)(hv:d6 ρ k=some kv)(ha:es.all (fun e=>isK kd e.1)=true):
  (D4 k 0 es=none∧Instr.findNow (a08 kd) kv ents.toList 0=some none∧(∀e∈ents.toList,e.key≠kv))∨
  ∃j i x e,D4 k 0 es=some (j,x)∧kvs[j]? =some (kv,e.val)∧ents.toList[i]? =some e∧e.key=kv∧d6 ρ x=some e.val∧Instr.findNow (a08 kd) kv ents.toList 0=some (some (i,e.val))∧(st.isSome=true→i=j):=by
 have hkeys:∀e∈ents.toList,IsKey (a08 kd) e.key:=by
  intro e he
  have h1:(e.key,e.val)∈kvs:=hm.perm.mem_iff.2 (List.mem_map.2 ⟨e,he,rfl⟩)
  exact b78 ha hm.keys e.key (List.mem_map.2 ⟨_,h1,rfl⟩)
 have hnd:=hm.stamped.2.2
 rcases c0f hk hv es kvs 0 ha hm.keys hm.vals with⟨h3,h4⟩|⟨j,x,v,h3,h4,h5⟩
 ·have hno:∀e∈ents.toList,e.key≠kv:=fun e he=>h4 _ (hm.perm.mem_iff.2 (List.mem_map.2 ⟨e,he,rfl⟩))
  rcases a81 (a0K hk hv) ents.toList 0 hkeys with⟨h6,_⟩|⟨i,e,h6,h7,_⟩
  ·exact .inl ⟨h3,h6,hno⟩
  ·exact absurd h7 (hno e (List.mem_of_getElem? h6))
 ·rw[Nat.zero_add] at h3
  have hmem:=hm.perm.mem_iff.1 (List.mem_of_getElem? h4)
  obtain⟨e2,he2,he3⟩:=List.mem_map.1 hmem
  simp only[Prod.mk.injEq] at he3
  rcases a81 (a0K hk hv) ents.toList 0 hkeys with⟨_,h7⟩|⟨i,e,h6,h7,h8⟩
  ·exact absurd he3.1 (h7 e2 he2)
  ·rw[Nat.zero_add] at h8
   obtain⟨i2,hi2⟩:=List.getElem?_of_mem he2
   have hii:=b9Z hnd h6 hi2 (h7.trans he3.1.symm)
   subst hii
   have hee:e=e2:=Option.some.inj (h6.symm.trans hi2)
   obtain⟨_,hv2⟩:=he3
   rw[←hee] at hv2
   subst hv2
   refine .inr ⟨j,i,x,e,h3,h4,h6,h7,h5,h8,fun hs=> ?_⟩
   rw[hm.exact hs] at h4
   simp only[List.getElem?_map,Option.map_eq_some_iff,Prod.mk.injEq] at h4
   obtain⟨e3,h9,h10,_⟩:=h4
   exact b9Z hnd h6 h9 (h7.trans h10.symm)
theorem a9e{x:AV}{es:List (AV×AV)}{v:Value}(h:Sim P w0 ρ m w)(he:mapOf m x=some es)(hv:d6 ρ x=some v):
  (v= .map none∧es= [])∨∃b r st ents clock kvs,x= .map b∧m.map b=some es∧v= .map (some r.blk)∧ρ.loc b=some r∧w.heap[r.blk]? =some (.map ents clock)∧w0.heap.size≤r.blk∧MapOk ρ es st ents clock kvs:=by
 rcases a1h he with⟨b,rfl,hb⟩|⟨_,hn⟩
 ·obtain⟨st,hbF⟩:=M.map_some hb
  obtain⟨r,ents,clock,kvs,h1,h2,h3,h4⟩:=h.map hbF
  obtain⟨r',hr',rfl⟩:=a2x hv
  rw[h1] at hr';cases hr'
  exact .inr ⟨b,r,st,ents,clock,kvs,rfl,hb,rfl,h1,h2,h3,h4⟩
 ·split at hn
  ·cases hn
   simp only[d6] at hv
   split at hv
   ·cases hv;exact .inl ⟨rfl,rfl⟩
   ·cases hv
  ·cases hn
theorem f7S(h:Sim P w0 ρ m w){t:TypeId}{q:Option IntKind×TypeId}{ho:Option Operand}{a:Operand→Value}{fr:Fr}(ht:H1 P t=some q)(ha:∀x,ho=some x→d6 ρ (ev (cO x) fr)=some (a x)):
  Val P w0 (Instr.makeMap t (ho.map a)) ρ w (d4X (ho.map cO) fr m):=by
 intro y m' hr
 obtain⟨kd,e⟩:=q
 obtain⟨kt,hu,_⟩:=a0y ht
 obtain⟨_,h1,hr⟩:=d9 hr
 simp only[Option.some.injEq,Prod.mk.injEq] at hr
 obtain⟨rfl,rfl⟩:=hr
 have hnew:=h.new (.map #[] 0) (.obj (.map [] (some ([],0)))) ⟨w.heap.size,0,0⟩ rfl ⟨.map #[] 0,(heap_alloc w _).1,h.base.size, #[],0,[],rfl,⟨.refl _,fun _=>rfl,o0 _,o0 _,stamped_empty 0,fun l c e=>by cases e;exact⟨rfl,rfl⟩⟩⟩ (fun c hc=>by cases hc)
 refine⟨_,.map (some w.heap.size),_,?_,?_,hnew.2,hnew.1⟩
 ·cases ho with
  |none=>simp[Instr.makeMap]
  |some x=>
   have hx:=ha x rfl
   have h1:(toI (ev (cO x) fr)).map (fun _=>())=some _:=h1
   cases hi:toI (ev (cO x) fr) with
   |none=>rw[hi] at h1;cases h1
   |some q=>
    have:=G1 hi hx
    simp[Instr.makeMap,run_underlying hu,this,asInt,asIntOf]
 ·simp only[d6,Ren.put_same,Option.map_some]
theorem a80{kd:Option IntKind}{k:AV}{es:List (AV×AV)}(h:Q2 kd k es=true):isK kd k=true∧es.all (fun e=>isK kd e.1)=true:=by
 simpa[Q2] using h
theorem MapOk.keysE{es:List (AV×AV)}{st:St2}{ents:Array MapEntry}{clock:Nat}{kvs:List (Value×Value)}(h:MapOk ρ es st ents clock kvs)(hs:st.isSome=true):i8 ρ (es.map (·.1))=some (ents.toList.map (·.key)):=by
 rw[h.keys,h.exact hs];simp[Function.comp_def]
theorem MapOk.valsE{es:List (AV×AV)}{st:St2}{ents:Array MapEntry}{clock:Nat}{kvs:List (Value×Value)}(h:MapOk ρ es st ents clock kvs)(hs:st.isSome=true):i8 ρ (es.map (·.2))=some (ents.toList.map (·.val)):=by
 rw[h.vals,h.exact hs];simp[Function.comp_def]
theorem MapOk.len{es:List (AV×AV)}{st:St2}{ents:Array MapEntry}{clock:Nat}{kvs:List (Value×Value)}(h:MapOk ρ es st ents clock kvs):ents.size=es.length:=by
 have h1:=I0 h.keys
 have h2:=h.perm.length_eq
 simp only[List.length_map,Array.length_toList] at h1 h2
 omega
theorem f8y{t:TypeId}{z:AV}(h:tzv P t=some z)(ρ:Ren)(w:World):∃v,d6 ρ z=some v∧(zeroValue t).run P w= .ok v w:=by
 unfold tzv at h
 cases hi:P.info? t with
 |none=>rw[hi] at h;cases h
 |some i=>
  rw[hi] at h
  simp only[Option.bind_some] at h
  cases hz:i.zero with
  |none=>rw[hz] at h;cases h
  |some v=>
   rw[hz] at h
   simp only[Option.bind_some] at h
   split at h
   ·rename_i hok
    cases h
    exact⟨v,b0g ρ v hok,by simp[zeroValue,typeInfo,hi,hz]⟩
   ·cases h
theorem f80(h:Sim P w0 ρ m w){t e:TypeId}{kd:Option IntKind}{z:AV}{ok:Bool}{x k:Operand}{a:Operand→Value}{fr:Fr}(ht:H1 P t=some (kd,e))(hz:tzv P e=some z)(hx:d6 ρ (ev (cO x) fr)=some (a x))(hk:d6 ρ (ev (cO k) fr)=some (a k)):
  Val P w0 (Instr.lookup t (a x) (a k) ok) ρ w (R5 kd z ok (cO x) (cO k) fr m):=by
 intro y m' hr
 obtain⟨kt,hu,hd⟩:=a0y ht
 obtain⟨es,he,hr⟩:=d9 hr
 obtain⟨hko,hr⟩:=l4 hr
 obtain⟨hk1,hk2⟩:=a80 hko
 obtain⟨zv,hz1,hz2⟩:=f8y hz ρ w
 have hkey:=a0K hk1 hk
 have hpair:∀(ρ:Ren) (x:AV) (v:Value) (c:Bool),d6 ρ x=some v→d6 ρ (bc ok (.tuple [x,.b c]) x)=some (if ok then .tuple #[v,.bool c] else v):=by
  intro ρ x v c hxv
  cases ok with
  |true=>
   rw[l9]
   simp[d6,i8,hxv]
  |false=>
   rw[u7]
   simpa using hxv
 rcases a9e h he hx with⟨hvx,hes⟩|⟨b,r,st,ents,clock,kvs,hxb,hmb,hvx,hr1,hheap,hown,hmok⟩
 ·subst hes
  have hr:some (bc ok (.tuple [z,.b false]) z,m)=some (y,m'):=hr
  simp only[Option.some.injEq,Prod.mk.injEq] at hr
  obtain⟨rfl,rfl⟩:=hr
  refine⟨ρ,_,w,?_,hpair ρ z zv false hz1,ρ.le_refl,h⟩
  have hf:Instr.findNow (a08 kd) (a k) (#[] :Array MapEntry).toList 0=some none:=rfl
  simp[Instr.lookup,run_underlying hu,hvx,MapKept.run_checkKey hd hkey,run_findKey hd hf,hz2,Result.andThen]
 ·rcases a9x hmok hk1 hk hk2 with⟨h3,h4,_⟩|⟨j,i,x',e',h3,_,_,_,h7,h8,_⟩
  ·rw[h3] at hr
   simp only[Option.some.injEq,Prod.mk.injEq] at hr
   obtain⟨rfl,rfl⟩:=hr
   refine⟨ρ,_,w,?_,hpair ρ z zv false hz1,ρ.le_refl,h⟩
   simp[Instr.lookup,run_underlying hu,hvx,MapKept.run_getObj_map hheap,MapKept.run_checkKey hd hkey,run_findKey hd h4,hz2,Result.andThen]
  ·rw[h3] at hr
   simp only[Option.some.injEq,Prod.mk.injEq] at hr
   obtain⟨rfl,rfl⟩:=hr
   refine⟨ρ,_,w,?_,hpair ρ x' e'.val true h7,ρ.le_refl,h⟩
   simp[Instr.lookup,run_underlying hu,hvx,MapKept.run_getObj_map hheap,MapKept.run_checkKey hd hkey,run_findKey hd h8,Result.andThen]
theorem b8J{l:List AV}{vs:List Value}{x:AV}{v:Value}(h:i8 ρ l=some vs)(hx:d6 ρ x=some v):∀i,i8 ρ (l.set i x)=some (vs.set i v):=by
 induction l generalizing vs with
 |nil=>intro i;rw[o0] at h;cases h;simp[o0]
 |cons y l ih=>
  intro i
  obtain⟨u,us,h1,h2,rfl⟩:=o9.1 h
  cases i with
  |zero=>exact o9.2 ⟨v,us,hx,h2,rfl⟩
  |succ i=>exact o9.2 ⟨u,_,h1,ih h2 i,rfl⟩
theorem b7G{l:List AV}{vs:List Value}(h:i8 ρ l=some vs):∀i,i8 ρ (l.eraseIdx i)=some (vs.eraseIdx i):=by
 induction l generalizing vs with
 |nil=>intro i;rw[o0] at h;cases h;simp[o0]
 |cons y l ih=>
  intro i
  obtain⟨u,us,h1,h2,rfl⟩:=o9.1 h
  cases i with
  |zero=>exact h2
  |succ i=>exact o9.2 ⟨u,_,h1,ih h2 i,rfl⟩
theorem X4{α β:Type}(f:α→β):∀(l:List α) (i:Nat),(l.eraseIdx i).map f=(l.map f).eraseIdx i
 | [],i=>by simp
 |a::l,0=>rfl
 |a::l,i+1=>by simp[X4 f l i]
theorem b97(h:Sim P w0 ρ m w){t e:TypeId}{kd:Option IntKind}{x k v:Operand}{a:Operand→Value}{fr:Fr}(ht:H1 P t=some (kd,e))(hx:d6 ρ (ev (cO x) fr)=some (a x))(hk:d6 ρ (ev (cO k) fr)=some (a k))(hv:d6 ρ (ev (cO v) fr)=some (a v)){y:AV}{m':M}
  (hr:V5 kd (cO x) (cO k) (cO v) fr m=some (y,m')):y= .undef∧∃w',(Instr.mapUpdate t (a x) (a k) (a v)).run P w= .ok () w'∧Sim P w0 ρ m' w':=by
 obtain⟨kt,hu,hd⟩:=a0y ht
 rcases a1h hr with⟨b,hxb,hr⟩|⟨_,hr⟩
 ·obtain⟨⟨es,st⟩,he,hr⟩:=d9 hr
  obtain⟨hko,hr⟩:=l4 hr
  simp only[Option.some.injEq,Prod.mk.injEq] at hr
  obtain⟨rfl,rfl⟩:=hr
  obtain⟨hk1,hk2⟩:=a80 hko
  have hkey:=a0K hk1 hk
  obtain⟨r,ents,clock,kvs,hr1,hheap,hown,hmok⟩:=h.map he
  rw[hxb] at hx
  obtain⟨r',hr',hax⟩:=a2x hx
  rw[hr1] at hr';cases hr'
  refine⟨rfl,?_⟩
  rcases a9x hmok hk1 hk hk2 with⟨h3,h4,h5⟩|⟨j,i,x',e',h3,h4,h5,h6,h7,h8,hij⟩
  ·refine⟨{w with heap:=w.heap.setIfInBounds r.blk (.map (ents.push {key:=a k,val:=a v,born:=clock}) (clock+1))},by simp[Instr.mapUpdate,hax,run_underlying hu,MapKept.run_getObj_map hheap,MapKept.run_checkKey hd hkey,run_findKey hd h4,MapKept.run_setObj_map _ hheap,Result.andThen],?_⟩
   have hput:a0t (es,st) (ev (cO k) fr) (ev (cO v) fr)= .map (es++ [(ev (cO k) fr,ev (cO v) fr)]) (b1C st):=by unfold a0t;rw[h3]
   rw[hput]
   refine h.putMap (q':=(es++ [(ev (cO k) fr,ev (cO v) fr)],b1C st)) (kvs':=kvs++ [(a k,a v)]) he hr1 hheap hmok hown ⟨?_,?_,?_,?_,stamped_push hmok.stamped h5,?_⟩
   ·have:=hmok.perm.append_right [(a k,a v)]
    simpa using this
   ·intro hs
    have hs':st.isSome=true:=by cases st with|none=>cases hs|some _=>rfl
    rw[hmok.exact hs']
    simp
   ·have:=M7 hmok.keys (o9.2 ⟨_,_,hk,o0 ρ,rfl⟩)
    simpa[Function.comp_def] using this
   ·have:=M7 hmok.vals (o9.2 ⟨_,_,hv,o0 ρ,rfl⟩)
    simpa[Function.comp_def] using this
   ·intro l c e
    cases st with
    |none=>cases e
    |some q=>
     obtain⟨e1,e2⟩:=hmok.stamps q.1 q.2 rfl
     cases e
     exact⟨by simp[e1,e2],by rw[e2]⟩
  ·have hi:ents[i]? =some e':=by simpa using h5
   refine⟨{w with heap:=w.heap.setIfInBounds r.blk (.map (ents.modify i fun e=>{e with key:=a k,val:=a v}) clock)},by simp[Instr.mapUpdate,hax,run_underlying hu,MapKept.run_getObj_map hheap,MapKept.run_checkKey hd hkey,run_findKey hd h8,hi,h6,run_keyThatStays hkey,MapKept.run_setObj_map _ hheap,Result.andThen],?_⟩
   have hput:a0t (es,st) (ev (cO k) fr) (ev (cO v) fr)= .map (es.set j (ev (cO k) fr,ev (cO v) fr)) st:=by unfold a0t;rw[h3]
   rw[hput]
   have hli:i<ents.size:=(Array.getElem?_eq_some_iff.1 hi).1
   have hmod:(ents.modify i fun e=>{e with key:=a k,val:=a v}).toList.map (fun e=>(e.key,e.val))=(ents.toList.map fun e=>(e.key,e.val)).set i (a k,a v):=by
    apply List.ext_getElem?
    intro n
    simp only[List.getElem?_map,Array.getElem?_toList,Array.getElem?_modify,List.getElem?_set]
    by_cases hin:i=n
    ·subst hin;simp[hli]
    ·simp[hin]
   have hset:∀(f:AV×AV→AV),(es.set j (ev (cO k) fr,ev (cO v) fr)).map f=(es.map f).set j (f (ev (cO k) fr,ev (cO v) fr)):=fun f=>by rw[List.map_set]
   have hei:(ents.toList.map fun e=>(e.key,e.val))[i]? =some (a k,e'.val):=by simp[hi,h6]
   refine h.putMap (q':=(es.set j (ev (cO k) fr,ev (cO v) fr),st)) (kvs':=kvs.set j (a k,a v)) he hr1 hheap hmok hown ⟨?_,?_,?_,?_,?_,?_⟩
   ·rw[hmod]
    exact f9r hmok.perm h4 hei
   ·intro hs
    rw[hmod,←hmok.exact hs,hij hs]
   ·rw[hset,List.map_set]
    exact b8J hmok.keys hk j
   ·rw[hset,List.map_set]
    exact b8J hmok.vals hv j
   ·exact stamped_modify hmok.stamped i _ (fun _ _=>rfl) (fun e2 _ he2=>by rw[hi] at he2;cases he2;exact h6.symm)
   ·intro l c e
    obtain⟨e1,e2⟩:=hmok.stamps l c e
    refine⟨?_,e2⟩
    rw[←e1]
    apply List.ext_getElem?
    intro n
    simp only[List.getElem?_map,Array.getElem?_toList,Array.getElem?_modify]
    by_cases hin:i=n
    ·subst hin;simp[Function.comp_def]
    ·simp[hin]
 ·cases hr
theorem f8s(h:Sim P w0 ρ m w){t e ty:TypeId}{ts:List TypeId}{kd:Option IntKind}{x k:Operand}{a:Operand→Value}{fr:Fr}(ht:H1 P t=some (kd,e))(hx:d6 ρ (ev (cO x) fr)=some (a x))(hk:d6 ρ (ev (cO k) fr)=some (a k)):
  Val P w0 (Builtin.delete_ (t::ts).toArray ty #[a x,a k]) ρ w (a1V kd (cO x) (cO k) fr m):=by
 intro y m' hr
 obtain⟨kt,hu,hd⟩:=a0y ht
 rcases a1h hr with⟨b,hxb,hr⟩|⟨_,hr⟩
 ·obtain⟨⟨es,st⟩,he,hr⟩:=d9 hr
  obtain⟨hko,hr⟩:=l4 hr
  simp only[Option.some.injEq,Prod.mk.injEq] at hr
  obtain⟨rfl,rfl⟩:=hr
  obtain⟨hk1,hk2⟩:=a80 hko
  have hkey:=a0K hk1 hk
  obtain⟨r,ents,clock,kvs,hr1,hheap,hown,hmok⟩:=h.map he
  rw[hxb] at hx
  obtain⟨r',hr',hax⟩:=a2x hx
  rw[hr1] at hr';cases hr'
  rcases a9x hmok hk1 hk hk2 with⟨h3,h4,h5⟩|⟨j,i,x',e',h3,h4,h5,h6,h7,h8,hij⟩
  ·refine⟨ρ,undef,{w with heap:=w.heap.setIfInBounds r.blk (.map ents clock)},by simp[Builtin.delete_,hax,run_underlying hu,MapKept.run_getObj_map hheap,MapKept.run_checkKey hd hkey,run_findKey hd h4,MapKept.run_setObj_map _ hheap,Result.andThen,undef],I1,ρ.le_refl,?_⟩
   have hdel:mdel (es,st) (ev (cO k) fr)= .map es st:=by unfold mdel;rw[h3]
   rw[hdel]
   exact h.putMap (q':=(es,st)) he hr1 hheap hmok hown hmok
  ·refine⟨ρ,undef,{w with heap:=w.heap.setIfInBounds r.blk (.map (ents.eraseIdxIfInBounds i) clock)},by simp[Builtin.delete_,hax,run_underlying hu,MapKept.run_getObj_map hheap,MapKept.run_checkKey hd hkey,run_findKey hd h8,MapKept.run_setObj_map _ hheap,Result.andThen,undef],I1,ρ.le_refl,?_⟩
   have hdel:mdel (es,st) (ev (cO k) fr)= .map (es.eraseIdx j) (b3n st j):=by unfold mdel;rw[h3]
   rw[hdel]
   have hli:i<ents.size:=by
    have:=(List.getElem?_eq_some_iff.1 h5).1
    simpa using this
   have hel:(ents.eraseIdxIfInBounds i).toList=ents.toList.eraseIdx i:=by simp[Array.eraseIdxIfInBounds,hli]
   have hei:(ents.toList.map fun e=>(e.key,e.val))[i]? =some (a k,e'.val):=by simp only[List.getElem?_map,h5,Option.map_some,h6]
   refine h.putMap (q':=(es.eraseIdx j,b3n st j)) (kvs':=kvs.eraseIdx j) he hr1 hheap hmok hown ⟨?_,?_,?_,?_,stamped_erase hmok.stamped i,?_⟩
   ·rw[hel,X4]
    exact b8j hmok.perm h4 hei
   ·intro hs
    have hs':st.isSome=true:=by cases st with|none=>cases hs|some _=>rfl
    rw[hel,X4,←hmok.exact hs',hij hs']
   ·rw[X4,X4]
    exact b7G hmok.keys j
   ·rw[X4,X4]
    exact b7G hmok.vals j
   ·intro l c e
    cases st with
    |none=>cases e
    |some q=>
     obtain⟨e1,e2⟩:=hmok.stamps q.1 q.2 rfl
     cases e
     refine⟨?_,e2⟩
     rw[hel,X4,e1,hij rfl]
 ·split at hr
  ·rename_i hxe
   obtain⟨hk1,hr⟩:=l4 hr
   simp only[Option.some.injEq,Prod.mk.injEq] at hr
   obtain⟨rfl,rfl⟩:=hr
   rw[hxe,l7 rfl] at hx
   have hax:=(Option.some.inj hx).symm
   refine⟨ρ,undef,w,by simp[Builtin.delete_,hax,run_underlying hu,MapKept.run_checkKey hd (a0K hk1 hk),Result.andThen,undef],I1,ρ.le_refl,h⟩
  ·cases hr
theorem f9n(h:Sim P w0 ρ m w){t ty:TypeId}{q:Option IntKind×TypeId}{x:Operand}{a:Operand→Value}{fr:Fr}(ht:H1 P t=some q)(hx:d6 ρ (ev (cO x) fr)=some (a x)):
  Val P w0 (Builtin.len_ #[t] ty #[a x]) ρ w (a3C (cO x) fr m):=by
 intro y m' hr
 obtain⟨kd,e⟩:=q
 obtain⟨kt,hu,_⟩:=a0y ht
 obtain⟨es,he,hr⟩:=d9 hr
 simp only[Option.some.injEq,Prod.mk.injEq] at hr
 obtain⟨rfl,rfl⟩:=hr
 rcases a9e h he hx with⟨hvx,hes⟩|⟨b,r,st,ents,clock,kvs,hxb,hmb,hvx,hr1,hheap,hown,hmok⟩
 ·subst hes
  exact⟨ρ,goInt 0,w,by simp[Builtin.len_,hvx,run_underlying hu],F3 0,ρ.le_refl,h⟩
 ·have hlen:=hmok.len.symm
  refine⟨ρ,goInt ents.size,w,by simp[Builtin.len_,hvx,run_underlying hu,MapKept.run_getObj_map hheap,Result.andThen],?_,ρ.le_refl,h⟩
  rw[F3,←hlen]
  rfl
theorem f9m(h:Sim P w0 ρ m w){t ty:TypeId}{q:Option IntKind×TypeId}{x:Operand}{a:Operand→Value}{fr:Fr}(ht:H1 P t=some q)(hx:d6 ρ (ev (cO x) fr)=some (a x)):
  Val P w0 (Builtin.clear_ #[t] ty #[a x]) ρ w (f0t (cO x) fr m):=by
 intro y m' hr
 obtain⟨kd,e⟩:=q
 obtain⟨kt,hu,_⟩:=a0y ht
 rcases a1h hr with⟨b,hxb,hr⟩|⟨_,hr⟩
 ·obtain⟨⟨es,st⟩,he,hr⟩:=d9 hr
  simp only[Option.some.injEq,Prod.mk.injEq] at hr
  obtain⟨rfl,rfl⟩:=hr
  obtain⟨r,ents,clock,kvs,hr1,hheap,hown,hmok⟩:=h.map he
  rw[hxb] at hx
  obtain⟨r',hr',hax⟩:=a2x hx
  rw[hr1] at hr';cases hr'
  refine⟨ρ,undef,{w with heap:=w.heap.setIfInBounds r.blk (.map #[] clock)},by simp[Builtin.clear_,hax,run_underlying hu,MapKept.run_getObj_map hheap,MapKept.run_setObj_map _ hheap,Result.andThen,undef],I1,ρ.le_refl,?_⟩
  refine h.putMap (q':=([],f1f st)) (kvs':= []) he hr1 hheap hmok hown ⟨.refl _,fun _=>rfl,o0 ρ,o0 ρ,stamped_empty _,?_⟩
  intro l c e
  cases st with
  |none=>cases e
  |some q=>
   obtain⟨e1,e2⟩:=hmok.stamps q.1 q.2 rfl
   cases e
   exact⟨rfl,e2⟩
 ·split at hr
  ·rename_i hxe
   cases hr
   rw[hxe,l7 rfl] at hx
   have hax:=(Option.some.inj hx).symm
   exact⟨ρ,undef,w,by simp[Builtin.clear_,hax,run_underlying hu,undef],I1,ρ.le_refl,h⟩
  ·cases hr
theorem f9v(h:Sim P w0 ρ m w){t e ty:TypeId}{z:List AV}{x:Operand}{a:Operand→Value}{fr:Fr}(ht:F6 P t=some e)(hz:E8 P e=some z)(hx:d6 ρ (ev (cO x) fr)=some (a x)):
  Val P w0 (Builtin.clear_ #[t] ty #[a x]) ρ w (a3H z (cO x) fr m):=by
 intro y m' hr
 have hu:=M8 ht
 obtain⟨i,zv,hi,hz',hall,hsz,rfl⟩:=R9 hz
 unfold a3H at hr
 cases hxe:ev (cO x) fr<;>rw[hxe] at hx hr<;>simp only[elSl,reduceCtorEq] at hr
 case p u=>
  split at hr
  ·rename_i hp
   cases hp
   cases hr
   rw[l7 rfl] at hx
   have hax:=(Option.some.inj hx).symm
   exact⟨ρ,undef,w,by simp[Builtin.clear_,hax,run_underlying hu,undef],I1,ρ.le_refl,h⟩
  ·rename_i hp;cases hp
  ·cases hr
 case sliceE b off adv=>
  cases hr
  obtain⟨r,hr1,hax⟩:=N0 hx
  exact⟨ρ,undef,w,by simp[Builtin.clear_,hax,run_underlying hu,undef],I1,ρ.le_refl,h⟩
 case slice b off len cap lim=>
  obtain⟨r,hr1,hax⟩:=G2 hx
  cases hb:Nat.beq len 0 with
  |true=>
   rw[hb] at hr
   have h0:=Nat.eq_of_beq_eq_true hb
   subst h0
   cases hr
   exact⟨ρ,undef,w,by simp[Builtin.clear_,hax,run_underlying hu,undef],I1,ρ.le_refl,h⟩
  |false=>
   rw[hb,u7] at hr
   obtain⟨m2,hm,hr⟩:=d9 hr
   cases hr
   obtain⟨p1,p2⟩:=b85 (ρ:=ρ) hall len
   obtain⟨r',w',hr2,p3,p4⟩:=h.wr hm p1 p2
   rw[hr1] at hr2;cases hr2
   have h0:len≠0:=by intro e;subst e;cases hb
   obtain⟨n,rfl⟩:=Nat.exists_eq_succ_of_ne_zero h0
   refine⟨ρ,undef,w',?_,I1,ρ.le_refl,p4⟩
   simp[Builtin.clear_,hax,run_underlying hu,zeroValue,typeInfo,hi,hz',p3,Result.andThen,undef]
theorem f75(h:Sim P w0 ρ m w){size n xl:Nat}{x:AV}{new:List AV}{vx:Value}(hn:lenA x=some xl)(hle:n≤xl)(hf:G8 m size n x=some new)(hv:d6 ρ x=some vx):
  ∃us,i8 ρ new=some us∧us.all Value.oneCell'=true∧(Builtin.firstCells size n vx).run P w= .ok us.toArray w:=by
 unfold G8 at hf
 unfold lenA at hn
 cases x<;>simp only[elSl,reduceCtorEq,Option.some.injEq] at hf hn
 case p u=>
  split at hf
  ·rename_i c hp
   cases hp
   obtain⟨hb,hf⟩:=l4 hf
   cases hf
   rw[l7 rfl] at hv;cases hv
   exact⟨[],o0 ρ,rfl,rfl⟩
  ·rename_i hp;cases hp
  ·rename_i s hp
   cases hp
   obtain⟨hb,hf⟩:=l4 hf
   cases hf
   simp only[Option.some.injEq] at hn
   subst hn
   rw[l7 rfl] at hv;cases hv
   refine⟨(s.data.toList.take n).map fun c=>Value.int .u8 (c.toNat:Int),?_,?_,?_⟩
   ·generalize s.data.toList.take n=l
    induction l with
    |nil=>exact o0 ρ
    |cons c l ih=>exact o9.2 ⟨_,_,U6 _,ih,rfl⟩
   ·rw[List.all_eq_true];intro u hu;simp only[List.mem_map] at hu;obtain⟨_,_,rfl⟩:=hu;rfl
   ·simp only[Builtin.firstCells,Sem.run_pure]
    congr 1
    apply Array.ext'
    rw[ByteArray.data_extract,Array.toList_map,Array.toList_extract]
    simp
  ·cases hf
 case sliceE b off adv=>
  obtain⟨hb,hf⟩:=l4 hf
  have hb:=Nat.eq_of_beq_eq_true hb
  subst hb
  cases hf
  obtain⟨r,_,rfl⟩:=N0 hv
  exact⟨[],o0 ρ,rfl,by simp[Builtin.firstCells,loadCells,loadCellsFrom]⟩
 case slice b off len cap lim=>
  obtain⟨r,hr1,rfl⟩:=G2 hv
  by_cases hz:n=0
  ·subst hz
   rw[Nat.beq_refl,l9] at hf
   cases hf
   exact⟨[],o0 ρ,rfl,by simp[Builtin.firstCells,loadCells,loadCellsFrom]⟩
  rw[show Nat.beq n 0=false from by rw[←Bool.not_eq_true];exact fun e=>hz (Nat.eq_of_beq_eq_true e),u7] at hf
  obtain⟨r',us,hr2,q1,q2,q3,q4⟩:=h.rdN hf
  rw[hr1] at hr2;cases hr2
  have hload:=run_loadCells_list (P:=P) w ⟨r.blk,r.sh+off,none⟩ us (fun j u hj=>by rw[Addr.add_mk];exact q4 j u hj)
  rw[q2] at hload
  exact⟨us,q1,q3,hload⟩
theorem g0N{x:AV}{n:Nat}{v:Value}(h:a34 x=some n)(hv:d6 ρ x=some v):∃a c,v= .slice a n c:=by
 unfold a34 at h
 cases x<;>simp only[elSl,reduceCtorEq,Option.some.injEq] at h
 case p u=>
  split at h
  ·rename_i hp;cases hp;cases h
   rw[l7 rfl] at hv;cases hv
   exact⟨_,_,rfl⟩
  ·rename_i hp;cases hp
  ·cases h
 case sliceE b off adv=>
  subst h
  obtain⟨r,_,rfl⟩:=N0 hv
  exact⟨_,_,rfl⟩
 case slice b off len cap lim=>
  subst h
  obtain⟨r,_,rfl⟩:=G2 hv
  exact⟨_,_,rfl⟩
theorem f9q(h:Sim P w0 ρ m w){t e ty size:Nat}{ts:List TypeId}{d x:Operand}{a:Operand→Value}{fr:Fr}(ht:F6 P t=some e)(hs:tsize P e=some size)(hd:d6 ρ (ev (cO d) fr)=some (a d))(hx:d6 ρ (ev (cO x) fr)=some (a x)):
  Val P w0 (Builtin.copy_ (t::ts).toArray ty #[a d,a x]) ρ w (a3R size (cO d) (cO x) fr m):=by
 intro y m' hr
 have hu:=M8 ht
 obtain⟨dl,h1,hr⟩:=d9 hr
 obtain⟨xl,h2,hr⟩:=d9 hr
 rw[z7] at hr
 obtain⟨da,dc,hda⟩:=g0N h1 hd
 have hlen:(Builtin.lenOf (a x)).run P w= .ok xl w:=by
  rcases d2f h2 hx with⟨p,c,e⟩|⟨s,e,e2⟩
  ·rw[e];rfl
  ·rw[e,←e2];rfl
 have hmin:bc (Nat.ble xl dl) xl dl=Nat.min xl dl:=by
  rw[A6]
  by_cases hle:xl≤dl
  ·rw[if_pos (Nat.ble_eq_true_of_le hle)];exact(Nat.min_eq_left hle).symm
  ·rw[if_neg (fun hb=>hle (Nat.le_of_ble_eq_true hb))];exact(Nat.min_eq_right (by omega)).symm
 rw[hmin] at hr
 cases hb:Nat.beq (Nat.min xl dl) 0 with
 |true=>
  have h0:=Nat.eq_of_beq_eq_true hb
  rw[hb] at hr
  cases hr
  have hfirst:(Builtin.firstCells size 0 (a x)).run P w= .ok #[] w:=by
   rcases d2f h2 hx with⟨p,c,e⟩|⟨s,e,e2⟩
   ·rw[e]
    cases p<;>simp[Builtin.firstCells,loadCells,loadCellsFrom]
   ·rw[e]
    simp only[Builtin.firstCells,Sem.run_pure]
    congr 1
    apply Array.ext'
    rw[ByteArray.data_extract,Array.toList_map,Array.toList_extract]
    simp
  refine⟨ρ,goInt 0,w,?_,F3 0,ρ.le_refl,h⟩
  cases da<;>simp[Builtin.copy_,hda,run_underlying hu,hlen,h0,H6 hs,hfirst,Result.andThen,storeCells]
 |false=>
  rw[hb,u7] at hr
  cases hde:ev (cO d) fr<;>rw[hde] at hd hr<;>simp only[elSl,reduceCtorEq] at hr
  rename_i b off len cap lim
  obtain⟨cs,h3,hr⟩:=d9 hr
  obtain⟨m2,hm,hr⟩:=d9 hr
  cases hr
  obtain⟨us,p1,p2,p3⟩:=f75 h h2 (Nat.min_le_left xl dl) h3 hx
  obtain⟨r',w',hr2,p4,p5⟩:=h.wr hm p1 p2
  obtain⟨r,hr1,hax⟩:=G2 hd
  rw[hr1] at hr2;cases hr2
  rw[hda] at hax
  simp only[Value.slice.injEq] at hax
  obtain⟨rfl,hlen',rfl⟩:=hax
  refine⟨ρ,goInt (Nat.min xl dl),w',?_,F3 _,ρ.le_refl,p5⟩
  simp[Builtin.copy_,hda,run_underlying hu,hlen,H6 hs,p3,p4,Result.andThen]
end
end Go.Am
