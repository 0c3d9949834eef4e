import Derived.Test.YtooooiidpaecmaaGreatDoorAmN
/- The abstract machine: a region in every order that may be drawn. -/
namespace Go.Am
open Go Go.RowKit
section
variable {P:Program} {w0:World}
theorem b87(co:CO):co.cls=0∨co.cls=1∨co.cls=2:=by
 cases co with
 |op d g o=>cases o<;>first|exact .inl rfl|exact .inr (.inl rfl)|exact .inr (.inr rfl)
 |call d g f args=>exact .inr (.inr rfl)
theorem a9w{c:Nat}:∀(l:List SI) (k j:Nat) (x:SI),l[j]? =some x→x.c=c→k+j∈M3 c k l
 | [],_,_,_,h,_=>by cases h
 |x'::l,k,0,x,h,hc=>by
  cases h
  unfold M3
  rw[hc,Nat.beq_refl,l9]
  simp
 |x'::l,k,j+1,x,h,hc=>by
  have:=a9w l (k+1) j x h hc
  unfold M3
  rw[A6,show k+(j+1)=k+1+j by omega]
  split
  ·exact List.mem_cons_of_mem _ this
  ·exact this
theorem b9B{c:Nat}:∀(l:List SI) (k i:Nat),i∈M3 c k l→∃j x,i=k+j∧l[j]? =some x∧x.c=c
 | [],_,_,h=>by cases h
 |x'::l,k,i,h=>by
  unfold M3 at h
  rw[A6] at h
  have tail:i∈M3 c (k+1) l→∃j x,i=k+j∧(x'::l)[j]? =some x∧x.c=c:=fun h=>by
   obtain⟨j,x,h1,h2,h3⟩:=b9B l (k+1) i h
   exact⟨j+1,x,by omega,by simpa using h2,h3⟩
  split at h
  ·rename_i hc
   rcases List.mem_cons.1 h with rfl|h
   ·exact⟨0,x',rfl,rfl,Nat.eq_of_beq_eq_true hc⟩
   ·exact tail h
  ·exact tail h
theorem a4M{ops:Array Oper}{i:Nat}:C9 P ops i=true↔∃o,ops[i]? =some o∧(C3 P ops.toList o).cls=2:=by
 unfold C9
 cases h:ops[i]? with
 |none=>simp
 |some o=>simp
structure Tr3(P:Program)(cf:CF)(ops:Array Oper)(T:List T3)(fr0:Fr)(m0:M):Prop where
 len:T.length=ops.size+1
 start:∃t,T[0]? =some t∧t.fr=fr0∧t.m=m0
 step:∀i o,ops[i]? =some o→∃s t,T[i]? =some s∧T[i+1]? =some t∧H9 cf (C3 P ops.toList o) s.fr s.m=some (s.x,t.m)∧t.fr=l5 (o.dst.map pth) s.x s.fr
def Xof(T:List T3)(i:Nat):AV:=(T[i]?).elim AV.undef (·.x)
theorem f9H(d:Option Nat)(x:AV)(fr:Fr)(t:Nat):E9 (pth t) (l5 (d.map pth) x fr)=if d=some t then x else E9 (pth t) fr:=by
 rw[c5C]
 cases d with
 |none=>simp
 |some k=>
  simp only[Option.some.injEq]
  rw[a0F,a0E]
  by_cases h:t=k
  ·subst h;simp
  ·rw[if_neg h,if_neg (Ne.symm h),a0F]
section
variable {cf:CF} {ops:Array Oper} {T:List T3} {fr0:Fr} {m1:M}
theorem Tr3.frame(h:Tr3 P cf ops T fr0 m1)(t:Nat):∀i,i≤ops.size→∀s,T[i]? =some s→E9 (pth t) s.fr=V (W1 ops) (Xof T) (E9 (pth t) fr0) (fun _=>true) t i:=by
 intro i
 induction i with
 |zero=>
  intro _ s hs
  obtain⟨t',h1,h2,h3⟩:=h.start
  rw[h1] at hs
  cases hs
  rw[h2]
  rfl
 |succ i ih=>
  intro hi s hs
  have ho:ops[i]? =some ops[i] :=Array.getElem?_eq_getElem (by omega)
  obtain⟨a,b,h1,h2,h3,h4⟩:=h.step i _ ho
  rw[h2] at hs
  cases hs
  rw[h4,f9H,ih (by omega) a h1]
  show _=if true=true∧W1 ops i=some t then Xof T i else V (W1 ops) (Xof T) (E9 (pth t) fr0) (fun _=>true) t i
  have e1:W1 ops i=ops[i].dst:=by unfold W1;rw[ho];rfl
  have e2:Xof T i=a.x:=by unfold Xof;rw[h1];rfl
  rw[e1,e2]
  simp
theorem Tr3.mem(h:Tr3 P cf ops T fr0 m1):∀i,i≤ops.size→∀s s',T[i]? =some s→T[Mp (C9 P ops) (fun _=>true) i]? =some s'→s.m=s'.m:=by
 intro i
 induction i with
 |zero=>
  intro _ s s' hs hs'
  have:T[0]? =some s':=hs'
  rw[hs] at this
  cases this
  rfl
 |succ i ih=>
  intro hi s s' hs hs'
  unfold Mp at hs'
  split at hs'
  ·rw[hs] at hs'
   cases hs'
   rfl
  ·rename_i hne
   have ho:ops[i]? =some ops[i] :=Array.getElem?_eq_getElem (by omega)
   obtain⟨a,b,h1,h2,h3,h4⟩:=h.step i _ ho
   rw[h2] at hs
   cases hs
   rw[←ih (by omega) a s' h1 hs']
   rcases b87 (C3 P ops.toList ops[i]) with hc|hc|hc
   ·exact(b7O hc a.m a.m _ _ h3).1
   ·exact b7S hc _ _ h3
   ·exact absurd ⟨rfl,a4M.2 ⟨_,ho,hc⟩⟩ hne
structure DInv(P:Program)(w0:World)(ops:Array Oper)(T:List T3)(fr0:Fr)(n:Nat)(L:Array Bool)(ρ:Ren)(tmps:Array Value)(w:World):Prop where
 size:L.size=ops.size
 closed:d6P ops (fun i=>L.getD i false)
 tsize:tmps.size=n
 fr:∀t,d6 ρ (V (W1 ops) (Xof T) (E9 (pth t) fr0) (fun i=>L.getD i false) t ops.size)=some (tmps.getD t undef)
 sim:∃s,T[Mp (C9 P ops) (fun i=>L.getD i false) ops.size]? =some s∧Sim P w0 ρ s.m w
theorem g0h(d:Option Nat)(v:Value)(tmps:Array Value)(n:Nat)(hn:tmps.size=n)(hd:∀k,d=some k→k<n)(t:Nat):(H3 d v tmps).getD t undef=if d=some t then v else tmps.getD t undef:=by
 cases d with
 |none=>simp[H3]
 |some k=>
  have hk:=hd k rfl
  simp only[H3,Option.some.injEq]
  by_cases h:k=t
  ·subst h
   simp[hn,hk]
  ·rw[if_neg h]
   simp[Array.getElem?_setIfInBounds_ne h]
theorem a87{L:Array Bool}{n i:Nat}(hs:L.size=n)(hi:i<n):L.getD i true=L.getD i false:=by
 simp[hs,hi]
theorem f7b(hcf:CfOk P w0 cf){n:Nat}(hall:a3S n ops.toList)(hst:J6 P ops=true)(hT:Tr3 P cf ops T fr0 m1)
  (hag:(S7 P ops).all (again cf (E6 P ops.toList ops.toList) T)=true) {L:Array Bool} {ρ:Ren} {tmps:Array Value} {w:World} (h:DInv P w0 ops T fr0 n L ρ tmps w)
  {i:Nat} (hi:i∈Region.ready .any ops L) {B:Frame} {rest:List Nat} {k:List Item} {cs:List Frame}:
  ∃ρ' tmps' w',Steps P (lone (mk B tmps (.inRegion ops (i::rest)::k)) cs w) (lone (mk B tmps' (.inRegion ops rest::k)) cs w')∧ρ.le ρ'∧DInv P w0 ops T fr0 n (L.setIfInBounds i true) ρ' tmps' w':=by
 obtain⟨hun,o,ho,hafter⟩:=mem_ready.1 hi
 have hlt:i<ops.size:=(Array.getElem?_eq_some_iff.1 ho).1
 have hun':L.getD i false=false:=by rw[←a87 h.size hlt];exact hun
 obtain⟨hdst,hok⟩:=hall o (by simpa using Array.mem_of_getElem? ho)
 obtain⟨s,t,hs,ht,hrun,hfr⟩:=hT.step i o ho
 obtain⟨sp,hsp,hsim⟩:=h.sim
 have hanc:=a83 h.closed i o ho hafter
 --those that come before and are in the way have been carried out
 have before:∀j,j<i→L.getD j false=false→∃oj,ops[j]? =some oj∧(C9 P ops i&&C9 P ops j)=false∧(∀d,oj.dst=some d→∀t∈o.looksAt ops,d≠t)∧(∀d,oj.dst=some d→o.dst≠some d)∧(∀d,o.dst=some d→∀t∈oj.looksAt ops,d≠t):=by
  intro j hji hj
  have hoj:ops[j]? =some ops[j] :=Array.getElem?_eq_getElem (by omega)
  refine⟨_,hoj,b8W hst ho hoj hji ?_⟩
  cases hb:Nat.testBit (anc ops i) j with
  |false=>rfl
  |true=>rw[hanc j hb] at hj;cases hj
 have behind:∀j,i<j→j<ops.size→L.getD j false=true→∃oj,ops[j]? =some oj∧(C9 P ops j&&C9 P ops i)=false∧(∀d,o.dst=some d→∀t∈oj.looksAt ops,d≠t)∧(∀d,o.dst=some d→oj.dst≠some d)∧(∀d,oj.dst=some d→∀t∈o.looksAt ops,d≠t):=by
  intro j hij hj hl
  have hoj:ops[j]? =some ops[j] :=Array.getElem?_eq_getElem (by omega)
  refine⟨_,hoj,b8W hst hoj ho hij ?_⟩
  cases hb:Nat.testBit (anc ops j) i with
  |false=>rfl
  |true=>
   have:=a83 h.closed j _ hoj (h.closed j _ hoj hl) i hb
   rw[hun'] at this
   cases this
 have dOf:∀j oj,ops[j]? =some oj→W1 ops j=oj.dst:=fun j oj hj=>by unfold W1;rw[hj];rfl
 --what it looks at is there
 have hon:FrOn ρ s.fr tmps (o.looksAt ops):=by
  intro x hx
  rw[hT.frame x i (by omega) s hs,←h.fr x]
  congr 1
  refine(f1e (i:=i) (fun j hji hd=> ?_) ops.size (by omega) (fun j hij hj hl hd=> ?_)).symm
  ·cases hl:L.getD j false with
   |true=>rfl
   |false=>
    obtain⟨oj,hoj,_,h2,_,_⟩:=before j hji hl
    rw[dOf j oj hoj] at hd
    exact absurd rfl (h2 x hd x hx)
  ·by_cases hij':i=j
   ·subst hij';rw[hun'] at hl;cases hl
   ·obtain⟨oj,hoj,_,_,_,h4⟩:=behind j (by omega) hj hl
    rw[dOf j oj hoj] at hd
    exact absurd rfl (h4 x hd x hx)
 --and it yields what it yielded
 have hturn:∃m',H9 cf (C3 P ops.toList o) s.fr sp.m=some (s.x,m')∧(if C9 P ops i=true then m'=t.m else m'=sp.m):=by
  rcases b87 (C3 P ops.toList o) with hc|hc|hc
  ·have he:C9 P ops i=false:=by
    unfold C9;rw[ho];simp only[hc];rfl
   have:=b7O hc s.m sp.m _ _ hrun
   exact⟨_,this.2,by rw[he];simp⟩
  ·have he:C9 P ops i=false:=by
    unfold C9;rw[ho];simp only[hc];rfl
   have hco:(E6 P ops.toList ops.toList)[i]? =some (C3 P ops.toList o):=by
    have:∀(l:List Oper) (i:Nat),l[i]? =some o→(E6 P ops.toList l)[i]? =some (C3 P ops.toList o):=by
     intro l
     induction l with
     |nil=>intro i h;cases h
     |cons a l ih=>
      intro i h
      cases i with
      |zero=>cases h;rfl
      |succ i=>exact ih i h
    exact this ops.toList i (by simpa using ho)
   have hmem:(i,Mp (C9 P ops) (fun i=>L.getD i false) ops.size)∈S7 P ops:=by
    unfold S7 c6t
    have hsi:=a1o (P:=P) ho
    refine List.mem_flatMap.2 ⟨i,?_,?_⟩
    ·have:=a9w (c:=1) (Q9 P ops) 0 i _ hsi hc
     rwa [Nat.zero_add] at this
    ·refine List.mem_map.2 ⟨_,?_,rfl⟩
     rw[List.mem_filter]
     have heffs:∀p,(∀j,j<ops.size→L.getD j false=true→C9 P ops j=true→j+1≤p)→((M3 2 0 (Q9 P ops)).all fun e=> !Nat.testBit (((Q9 P ops)[i]?).elim 0 (·.a)) e||Nat.ble (e+1) p)=true:=by
      intro p hp
      rw[List.all_eq_true]
      intro e he'
      obtain⟨j,x,h1,h2,h3⟩:=b9B _ _ _ he'
      rw[Nat.zero_add] at h1
      subst h1
      rw[hsi]
      cases hb:Nat.testBit (anc ops i) e with
      |false=>
       simp[hb]
      |true=>
       have hle:=hanc e hb
       have hlte:e<ops.size:=by
        rw[←f52 (P:=P)]
        exact(List.getElem?_eq_some_iff.1 h2).1
       have hoe:ops[e]? =some ops[e] :=Array.getElem?_eq_getElem hlte
       rw[a1o (P:=P) hoe] at h2
       cases h2
       have:=hp e hlte hle (a4M.2 ⟨_,hoe,h3⟩)
       have hble:Nat.ble (e+1) p=true:=by rw[Nat.ble_eq];exact this
       rw[hble,Bool.or_true]
     rcases c37 (E:=C9 P ops) (S:=fun i=>L.getD i false) ops.size with⟨h1,h2⟩|⟨q,hq,h1,h2,h3,h4⟩
     ·rw[h1]
      refine⟨by simp,?_⟩
      unfold b3S
      simp only[Bool.true_and]
      refine heffs 0 fun j hj hl he'=> ?_
      rw[h2 j hj hl] at he'
      cases he'
     ·rw[h1]
      have hoq:ops[q]? =some ops[q] :=Array.getElem?_eq_getElem hq
      obtain⟨oq,hoq',hcq⟩:=a4M.1 h3
      refine⟨?_,?_⟩
      ·refine List.mem_cons_of_mem _ (List.mem_map.2 ⟨q,?_,rfl⟩)
       have:=a9w (c:=2) (Q9 P ops) 0 q _ (a1o (P:=P) hoq') hcq
       rwa [Nat.zero_add] at this
      ·unfold b3S
       simp only[Bool.and_eq_true]
       refine⟨?_,heffs (q+1) fun j hj hl he'=> ?_⟩
       ·rw[a1o (P:=P) hoq]
        simp only[Option.elim_some,Bool.not_eq_true']
        cases hb:Nat.testBit (anc ops q) i with
        |false=>rfl
        |true=>
         have:=a83 h.closed q _ hoq (h.closed q _ hoq h2) i hb
         rw[hun'] at this
         cases this
       ·rcases Nat.lt_or_ge q j with hqj|hqj
        ·rw[h4 j hqj hj hl] at he'
         cases he'
        ·omega
   have:=List.all_eq_true.1 hag _ hmem
   unfold again at this
   simp only[hco,hs,hsp] at this
   split at this
   ·rename_i q hq
    have hx:=N8 this
    obtain⟨x',m'⟩:=q
    have hx:x'=s.x:=hx
    subst hx
    exact⟨m',hq,by rw[he];simpa using b7S hc _ _ hq⟩
   ·cases this
  ·have he:C9 P ops i=true:=a4M.2 ⟨o,ho,hc⟩
   have hp:Mp (C9 P ops) (fun i=>L.getD i false) ops.size=Mp (C9 P ops) (fun _=>true) i:=by
    refine e2N (fun j hji hej=> ?_) ops.size (by omega) (fun j hij hj hl=> ?_)
    ·cases hl:L.getD j false with
     |true=>rfl
     |false=>
      obtain⟨oj,hoj,h1,_⟩:=before j hji hl
      rw[he,hej] at h1
      cases h1
    ·by_cases hij':i=j
     ·subst hij';rw[hun'] at hl;cases hl
     ·obtain⟨oj,hoj,h1,_⟩:=behind j (by omega) hj hl
      rw[he,Bool.and_true] at h1
      exact h1
   have hm:=hT.mem i (by omega) s sp hs (by rw[←hp];exact hsp)
   rw[hm] at hrun
   exact⟨t.m,hrun,by rw[he];simp⟩
 obtain⟨m',hrun',hm'⟩:=hturn
 obtain⟨ρ',u,w',hsteps,hu,hle,hsim'⟩:=turn hcf hsim (B:=B) (k:=k) (cs:=cs) (rest:=rest) ho hok hon hrun'
 have hset:∀j,j≠i→(L.setIfInBounds i true).getD j false=L.getD j false:=fun j hj=>getD_set_ne false (Ne.symm hj)
 have hseti:(L.setIfInBounds i true).getD i false=true:=by simp[h.size,hlt]
 refine⟨ρ',_,w',hsteps,hle,⟨by simp[h.size],?_,by rw[b8y];exact h.tsize,?_,?_⟩⟩
 ·intro j oj hoj hl e he hb
  by_cases hji:j=i
  ·subst hji
   rw[ho] at hoj
   cases hoj
   exact getD_set_true (hafter e he hb)
  ·have hl:(L.setIfInBounds i true).getD j false=true:=hl
   rw[hset j hji] at hl
   exact getD_set_true (h.closed j oj hoj hl e he hb)
 ·intro x
  rw[g55 (S:=fun i=>L.getD i false) (i:=i) hset hseti hun' ops.size (fun j hij hj hl hd=> ?_)]
  ·rw[g0h o.dst u tmps n h.tsize hdst x,dOf i o ho]
   have e2:Xof T i=s.x:=by unfold Xof;rw[hs];rfl
   by_cases hd:o.dst=some x
   ·rw[if_pos ⟨hlt,hd⟩,if_pos hd,e2]
    exact hu
   ·rw[if_neg (fun c=>hd c.2),if_neg hd]
    exact K5 hle _ _ (h.fr x)
  ·obtain⟨oj,hoj,_,_,h3,_⟩:=behind j hij hj hl
   rw[dOf i o ho] at hd
   rw[dOf j oj hoj]
   exact h3 x hd
 ·rw[g3n (S:=fun i=>L.getD i false) (i:=i) hset hseti hun' ops.size (fun j hij hj hl he=> ?_)]
  ·by_cases he:C9 P ops i=true
   ·rw[if_pos ⟨hlt,he⟩]
    rw[if_pos he] at hm'
    subst hm'
    exact⟨t,ht,hsim'⟩
   ·rw[if_neg (fun c=>he c.2)]
    rw[if_neg he] at hm'
    subst hm'
    exact⟨sp,hsp,hsim'⟩
  ·obtain⟨oj,hoj,h1,_⟩:=behind j hij hj hl
   rw[he,Bool.and_true] at h1
   exact h1
def left(S:Nat→Bool):Nat→Nat
 |0=>0
 |n+1=>left S n+(if S n=true then 0 else 1)
theorem b8X{S S':Nat→Bool}:∀n,(∀j,j<n→S' j=S j)→left S' n=left S n
 |0,_=>rfl
 |n+1,h=>by
  unfold left
  rw[b8X n fun j hj=>h j (by omega),h n (by omega)]
theorem b9X{S S':Nat→Bool}{i:Nat}(hs:∀j,j≠i→S' j=S j)(hi:S' i=true)(h0:S i=false):∀n,i<n→left S n=left S' n+1
 |0,h=>by omega
 |n+1,h=>by
  unfold left
  by_cases hin:n=i
  ·subst hin
   rw[hi,h0,b8X (S:=S) (S':=S') n fun j hj=>hs j (by omega)]
   simp
  ·rw[b9X hs hi h0 n (by omega),hs n hin]
   omega
theorem b8z{S:Nat→Bool}:∀n,left S n=0→∀j,j<n→S j=true
 |0,_,j,hj=>by omega
 |n+1,h,j,hj=>by
  unfold left at h
  by_cases hjn:j=n
  ·subst hjn
   cases hs:S j with
   |true=>rfl
   |false=>simp[hs] at h
  ·exact b8z n (by omega) j (by omega)
theorem f6t(hst:J6 P ops=true){L:Array Bool}(hL:L.size=ops.size)(h:Region.ready .any ops L= []):∀j,j<ops.size→L.getD j false=true:=by
 intro j
 induction j using Nat.strongRecOn with
 |ind j ih=>
  intro hj
  cases hl:L.getD j false with
  |true=>rfl
  |false=>
   have hoj:ops[j]? =some ops[j] :=Array.getElem?_eq_getElem hj
   have:j∈Region.ready .any ops L:=by
    refine mem_ready.2 ⟨by rw[a87 hL hj];exact hl,_,hoj,fun e he hb=> ?_⟩
    simp only[J6,Bool.and_eq_true] at hst
    have:=b79 ops.toList 0 j _ hst.1 (by simp[hj]) e he hb
    exact ih e.on (by omega) (by omega)
   rw[h] at this
   cases this
theorem g39(hcf:CfOk P w0 cf){n:Nat}(hall:a3S n ops.toList)(hst:J6 P ops=true)(hT:Tr3 P cf ops T fr0 m1)
  (hag:(S7 P ops).all (again cf (E6 P ops.toList ops.toList) T)=true) {B:Frame} {k:List Item} {cs:List Frame}:
  ∀(fuel tt:Nat) (L:Array Bool) (ρ:Ren) (tmps:Array Value) (w:World),DInv P w0 ops T fr0 n L ρ tmps w→left (fun i=>L.getD i false) ops.size≤fuel→
  ∃L' ρ' tmps' w',Steps P (lone (mk B tmps (.inRegion ops (Region.linearise.go .any ops fuel tt L [])::k)) cs w) (lone (mk B tmps' (.inRegion ops [] ::k)) cs w')∧ρ.le ρ'∧DInv P w0 ops T fr0 n L' ρ' tmps' w'∧∀j,j<ops.size→L'.getD j false=true:=by
 intro fuel
 induction fuel with
 |zero=>
  intro tt L ρ tmps w h hl
  exact⟨L,ρ,tmps,w,.refl _ _,ρ.le_refl,h,b8z _ (by omega)⟩
 |succ fuel ih=>
  intro tt L ρ tmps w h hl
  simp only[Region.linearise.go]
  change ∃L' ρ' tmps' w',Steps P (lone (mk B tmps (.inRegion ops (match(Region.ready .any ops L)[tt % (Region.ready .any ops L).length]? with
   |some i=>Region.linearise.go .any ops fuel (tt/(Region.ready .any ops L).length) (L.setIfInBounds i true) [i]
   |none=> [].reverse)::k)) cs w) _∧_
  cases hi:(Region.ready .any ops L)[tt % (Region.ready .any ops L).length]? with
  |none=>
   have hnil:Region.ready .any ops L= [] :=by
    cases hr:Region.ready .any ops L with
    |nil=>rfl
    |cons x xs=>
     rw[hr] at hi
     have hlt:tt % (x::xs).length<(x::xs).length:=Nat.mod_lt _ (by simp)
     simp at hi
     simp at hlt
     omega
   exact⟨L,ρ,tmps,w,.refl _ _,ρ.le_refl,h,f6t hst h.size hnil⟩
  |some i=>
   simp only[]
   have hmem:=List.mem_of_getElem? hi
   rw[linearise_go_acc,List.reverse_singleton,List.singleton_append]
   obtain⟨ρ1,tmps1,w1,hs1,hle1,hinv1⟩:=f7b hcf hall hst hT hag h hmem (B:=B) (k:=k) (cs:=cs) (rest:=Region.linearise.go .any ops fuel (tt/(Region.ready .any ops L).length) (L.setIfInBounds i true) [])
   obtain⟨hun,o,ho,_⟩:=mem_ready.1 hmem
   have hlt:i<ops.size:=(Array.getElem?_eq_some_iff.1 ho).1
   have hun':L.getD i false=false:=by rw[←a87 h.size hlt];exact hun
   have hleft:=b9X (S:=fun i=>L.getD i false) (S':=fun j=>(L.setIfInBounds i true).getD j false) (i:=i) (fun j hj=>getD_set_ne false (Ne.symm hj)) (by simp[h.size,hlt]) hun' ops.size hlt
   obtain⟨L',ρ2,tmps2,w2,hs2,hle2,hinv2,hall2⟩:=ih (tt/(Region.ready .any ops L).length) (L.setIfInBounds i true) ρ1 tmps1 w1 hinv1 (by omega)
   exact⟨L',ρ2,tmps2,w2,hs1.trans hs2,Ren.le_trans hle1 hle2,hinv2,hall2⟩
theorem f8l(hcf:CfOk P w0 cf){n:Nat}(hall:a3S n ops.toList){ρ:Ren}{m m':M}{w:World}(h:Sim P w0 ρ m w){fr fr':Fr}{tmps:Array Value}(hf:FrRel ρ fr tmps)(hn:tmps.size=n)
  (hr:a0A P cf ops fr m=some (fr',m')) (tt:Nat) {B:Frame} {k:List Item} {cs:List Frame}:
  ∃ρ' tmps' w',Steps P (lone (mk B tmps (.inRegion ops (Region.linearise .any ops tt)::k)) cs w) (lone (mk B tmps' (.inRegion ops [] ::k)) cs w')∧FrRel ρ' fr' tmps'∧tmps'.size=n∧ρ.le ρ'∧Sim P w0 ρ' m' w':=by
 unfold a0A at hr
 obtain⟨hst,hr⟩:=l4 hr
 obtain⟨T,htr,hr⟩:=d9 hr
 obtain⟨hag,hr⟩:=l4 hr
 obtain⟨lt,hlast,hr⟩:=d9 hr
 simp only[Option.some.injEq,Prod.mk.injEq] at hr
 obtain⟨e1,e2⟩:=hr
 subst e1 e2
 obtain⟨h1,h2,h3,h4⟩:=f9a ops.toList fr m T htr
 have hT:Tr3 P cf ops T fr m:=⟨by simpa using h1,h2,fun i o ho=>h3 i o (by simpa using ho)⟩
 obtain⟨s0,hs0,hs0f,hs0m⟩:=h2
 have hrep:∀i,(Array.replicate ops.size false).getD i false=false:=by
  intro i
  simp only[Array.getD_eq_getD_getElem?,Array.getElem?_replicate]
  split<;>rfl
 have hV0:∀t N,V (W1 ops) (Xof T) (E9 (pth t) fr) (fun i=>(Array.replicate ops.size false).getD i false) t N=E9 (pth t) fr:=by
  intro t N
  induction N with
  |zero=>rfl
  |succ N ih=>unfold V;rw[if_neg (fun c=>by exact absurd ((hrep N).symm.trans c.1) (by decide))];exact ih
 have hM0:∀N,Mp (C9 P ops) (fun i=>(Array.replicate ops.size false).getD i false) N=0:=by
  intro N
  induction N with
  |zero=>rfl
  |succ N ih=>unfold Mp;rw[if_neg (fun c=>by exact absurd ((hrep N).symm.trans c.1) (by decide))];exact ih
 have hinv:DInv P w0 ops T fr n (Array.replicate ops.size false) ρ tmps w:=by
  refine⟨by simp,fun i o ho hl=> ?_,hn,fun t=> ?_,s0,?_,?_⟩
  ·exact absurd ((hrep i).symm.trans hl) (by decide)
  ·rw[hV0];exact hf t
  ·rw[hM0];exact hs0
  ·rw[hs0m];exact h
 have hleft:left (fun i=>(Array.replicate ops.size false).getD i false) ops.size≤ops.size:=by
  have:∀(S:Nat→Bool) N,left S N≤N:=by
   intro S N
   induction N with
   |zero=>exact Nat.le_refl _
   |succ N ih=>unfold left;split<;>omega
  exact this _ _
 obtain⟨L',ρ',tmps',w',hs,hle,hinv',hall'⟩:=g39 hcf hall hst hT hag (B:=B) (k:=k) (cs:=cs) ops.size tt _ ρ tmps w hinv hleft
 have hlt:T[ops.size]? =some lt:=by rw[←hlast,h4];simp
 refine⟨ρ',tmps',w',hs,fun t=> ?_,hinv'.tsize,hle,?_⟩
 ·rw[hT.frame t ops.size (Nat.le_refl _) lt hlt,←hinv'.fr t]
  congr 1
  exact(f1e (fun j hj _=>hall' j hj) ops.size (Nat.le_refl _) (fun j h1 h2=>by omega)).symm
 ·obtain⟨s,hs1,hs2⟩:=hinv'.sim
  rw[e2N (i:=ops.size) (fun j hj _=>hall' j hj) ops.size (Nat.le_refl _) (fun j h1 h2=>by omega)] at hs1
  rw[hT.mem ops.size (Nat.le_refl _) lt s hlt hs1]
  exact hs2
end
end
end Go.Am
