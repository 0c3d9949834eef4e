import Derived.Test.YtooooiidpaecmaaGreatDoorAmH
/- The abstract machine: append, texts made of bytes, pointers without a type. -/
namespace Go.Am
open Go Go.RowKit
section
variable {P:Program} {w0:World} {ρ:Ren} {m:M} {w:World}
theorem a8J{st xt e ty:TypeId}{i:TypeInfo}(ht:P.underlying st=some (.slice e))(hi:P.info? e=some i){base:Option Addr}{sLen sCap:Nat}{x:Value}
    (hsrc:Src P w xt e i.size 0 x []) (hfit:sLen≤sCap):
    (Builtin.append_ #[st,xt] ty #[.slice base sLen sCap,x]).run P w= .ok (.slice base sLen sCap) w:=by
  rcases hsrc with⟨hx,hlen,hnew⟩|⟨k,k',i',z,hu,rfl,hn,hi',hz,hus,hsz,hb⟩
  · have hnew:=hnew w (fun _=>rfl)
    unfold T6 at hx
    split at hx
    · rename_i hu;cases base<;>simp[Builtin.append_,run_underlying ht,run_underlying hu,sizeOf,typeInfo,hi,hlen,hfit,hnew,storeCells]
    · rename_i hu;cases base<;>simp[Builtin.append_,run_underlying ht,run_underlying hu,sizeOf,typeInfo,hi,hlen,hfit,hnew,storeCells]
    · cases hx
  · have hw:=a84 hn
    simp only[Int.natCast_zero] at hw
    cases base<;>simp[Builtin.append_,run_underlying ht,run_underlying hu,sizeOf,typeInfo,hi,asInt,asIntOf,hw,hfit,storeCells]
theorem b9z(h:Sim P w0 ρ m w){st xt e ty size bytes k:Nat}{zl new:List AV}{s:RO}{fr:Fr}{vs vx:Value}{us:List Value}(ht:F6 P st=some e)(hs:tsize P e=some size)(hb:N9 P e=some bytes)(hz:E8 P e=some zl)
    (hvs:d6 ρ (ev s fr)=some vs) (hsrc:Src P w xt e size k vx us) (u1:i8 ρ new=some us) (u2:us.all Value.oneCell'=true) (u3:us.length=k*size):
    Val P w0 (Builtin.append_ #[st,xt] ty #[vs,vx]) ρ w (H7 e size bytes zl m (ev s fr) k new):=by
  intro y m' hr
  obtain⟨i,hi,hisz⟩:=G5 hs
  unfold H7 at hr
  cases hsv:ev s fr<;>simp only[hsv,elSl,reduceCtorEq] at hr
  case p u=>
    split at hr
    · rename_i hp;cases hp
      rw[hsv,l7 rfl] at hvs
      cases hvs
      rw[A6] at hr
      split at hr
      · rename_i h0
        have h0:=Nat.eq_of_beq_eq_true h0
        cases hr
        subst h0
        have hus:us= [] :=List.eq_nil_of_length_eq_zero (by omega)
        subst hus
        exact⟨ρ,_,w,a8J (M8 ht) hi (by rw[hisz];exact hsrc) (Nat.le_refl _),l7 rfl,Ren.le_refl ρ,h⟩
      · rename_i h0
        have h0:k≠0:=fun e=>by subst e;simp at h0
        obtain⟨hroom,hr⟩:=l4 hr
        have:=b8Z (sLen:=0) (sCap:=0) (base:=none) (olds:= []) (cs:=new) (ty:=ty) h ht hsrc hs hb hz (by simpa using hroom) (by omega) (run_firstCells_none (w:=w.drew) size 0 0 0) (by simpa using u1) (by simpa using u2) (by simpa using u3)
        rw[Nat.zero_add] at this
        exact this y m' hr
    · rename_i hp;cases hp
    · cases hr
  case sliceE b off adv=>
    rw[hsv] at hvs
    obtain⟨r,hr1,rfl⟩:=N0 hvs
    rw[A6] at hr
    split at hr
    · rename_i h0
      have h0:=Nat.eq_of_beq_eq_true h0
      cases hr
      subst h0
      have hus:us= [] :=List.eq_nil_of_length_eq_zero (by omega)
      subst hus
      exact⟨ρ,_,w,a8J (M8 ht) hi (by rw[hisz];exact hsrc) (Nat.zero_le _),hvs,Ren.le_refl ρ,h⟩
    · rename_i h0
      have h0:k≠0:=fun e=>by subst e;simp at h0
      obtain⟨hroom,hr⟩:=l4 hr
      obtain⟨c,hc,hr⟩:=d9 hr
      obtain⟨hcc,hr⟩:=l4 hr
      simp only[Bool.and_eq_true,Bool.not_eq_true',Option.isNone_iff_eq_none] at hcc
      obtain⟨c1,c2,c3,c4,c5⟩:=hcc
      have c4:=Nat.eq_of_beq_eq_true c4
      have c5:=Nat.eq_of_beq_eq_true c5
      have key:=b8m (len:=0) (cap:=0) (off:=off+adv) (b:=b) (old:= []) (olds:= []) (ty:=ty) (A:=⟨r.blk,r.sh+off+(if r.ext=0 then 0 else adv),none⟩) h ht hsrc hs hb hz (by simpa using hroom) (by omega) hc hr1 c1 c2 c3 c4 (by omega) (Nat.le_refl _)
        (by by_cases he:r.ext=0
            · exact .inr ⟨he,rfl⟩
            · left;rw[if_neg he];congr 1;omega)
        (by simp[Builtin.firstCells,loadCells,loadCellsFrom]) (o0 ρ) u1 rfl u2 (by simp) u3 (fun j hj=>by simp at hj)
      simp only[Nat.zero_mul,Nat.add_zero,Nat.zero_add] at key
      rw[←c5] at hr
      exact key y m' hr
  case slice b off len cap lim=>
    rw[hsv] at hvs
    obtain⟨r,hr1,rfl⟩:=G2 hvs
    rw[z7,A6] at hr
    split at hr
    · rename_i hle
      have hle:len+k≤cap:=Nat.le_of_ble_eq_true hle
      have hcap:cap≤(if lim then cap else cap+r.ext):=by split<;>omega
      rw[A6] at hr
      split at hr
      · rename_i h0
        have h0:=Nat.eq_of_beq_eq_true h0
        cases hr
        subst h0
        have hus:us= [] :=List.eq_nil_of_length_eq_zero (by omega)
        subst hus
        exact⟨ρ,_,w,a8J (M8 ht) hi (by rw[hisz];exact hsrc) (by omega),by rw[O5 hr1];rfl,Ren.le_refl ρ,h⟩
      · rw[z7] at hr
        obtain⟨m2,hm2,hr⟩:=d9 hr
        cases hr
        obtain⟨r',w',hr2,p1,p2⟩:=h.wr hm2 u1 u2
        rw[hr1] at hr2;cases hr2
        refine⟨ρ,_,w',b7v (M8 ht) hi (by rw[hisz];exact hsrc) (by omega) (by rw[Addr.add_mk,hisz,Nat.add_assoc];exact p1),by rw[O5 hr1];rfl,Ren.le_refl ρ,p2⟩
    · rename_i hle
      have hle:¬len+k≤cap:=fun e=>hle (Nat.ble_eq_true_of_le e)
      obtain⟨hroom,hr⟩:=l4 hr
      obtain⟨c,hc,hr⟩:=d9 hr
      obtain⟨old,hold,hr⟩:=d9 hr
      obtain⟨r',olds,hr2,o1,o2,o3,o4⟩:=h.rdN hold
      rw[hr1] at hr2;cases hr2
      have hfo:∀C,(Builtin.firstCells size len (.slice (some ⟨r.blk,r.sh+off,none⟩) len C)).run P w.drew= .ok olds.toArray w.drew:=by
        intro C
        have hload:=run_loadCells_list (P:=P) w.drew ⟨r.blk,r.sh+off,none⟩ olds (fun j u hj=>by rw[Addr.add_mk];exact o4 j u hj)
        rw[o2] at hload
        exact hload
      have happ:(olds++us).all Value.oneCell'=true:=by simp only[List.all_append,o3,u2,Bool.and_self]
      have hll:(olds++us).length=(len+k)*size:=by rw[List.length_append,o2,u3];exact(Nat.add_mul _ _ _).symm
      rw[A6] at hr
      split at hr
      · rename_i hle2
        have hgrow:(if lim=true then cap else cap+r.ext)<len+k:=by
          simp only[Bool.or_eq_true,Bool.and_eq_true,Option.isNone_iff_eq_none] at hle2
          rcases hle2 with e|⟨e1,e2⟩
          · rw[if_pos e];omega
          · obtain⟨r',arr,fz,hr2,kc⟩:=h.cel hc
            rw[hr1] at hr2;cases hr2
            have:=(kc.exact e1 e2).1
            split<;>omega
        exact b8Z (ty:=ty) h ht hsrc hs hb hz hroom hgrow (hfo _) (M7 o1 u1) happ hll y m' hr
      · rename_i hle2
        obtain⟨hcc,hr⟩:=l4 hr
        rw[z7] at hr
        simp only[Bool.or_eq_true,Bool.and_eq_true,Option.isNone_iff_eq_none,not_or,not_and,Bool.not_eq_true] at hle2
        simp only[Bool.and_eq_true,Bool.not_eq_true',Option.isNone_iff_eq_none] at hcc
        obtain⟨c1,c2,c3,c5,c4⟩:=hcc
        have hlc:len≤cap:=Nat.le_of_ble_eq_true c5
        have c3:=Nat.eq_of_beq_eq_true c3
        have c4:=Nat.eq_of_beq_eq_true c4
        have hlim:lim=false:=by simpa using hle2.1
        have hr3:=hr
        clear hr
        subst hlim
        have hrd:∀j,j<len*size→old[j]? =some (c.rd (off+j)):=by
          intro j hj
          have hold':=hold
          unfold M.rdN at hold'
          obtain⟨c',hc',hold'⟩:=d9 hold'
          rw[hc] at hc';cases hc'
          obtain⟨_,hold'⟩:=l4 hold'
          cases hold'
          exact b0K c _ _ _ hj
        simp only[Bool.false_eq_true,if_false]
        exact b8m (ty:=ty) h ht hsrc hs hb hz hroom (by omega) hc hr1 c1 c2 (hle2.2 c1) c3 c4 hlc (.inl rfl) (hfo _) o1 u1 o3 u2 o2 u3 hrd y m' hr3
theorem f98(h:Sim P w0 ρ m w){st xt e ty size bytes:Nat}{zl:List AV}{s x:RO}{fr:Fr}{vs vx:Value}(ht:F6 P st=some e)(hxt:T6 P xt=true)(hs:tsize P e=some size)(hb:N9 P e=some bytes)(hz:E8 P e=some zl)
    (hvs:d6 ρ (ev s fr)=some vs) (hvx:d6 ρ (ev x fr)=some vx):Val P w0 (Builtin.append_ #[st,xt] ty #[vs,vx]) ρ w (M5 e size bytes zl s x fr m):=by
  intro y m' hr
  obtain⟨k,hk,hr⟩:=d9 hr
  obtain⟨new,hnew,hr⟩:=d9 hr
  obtain⟨us,u1,u2,u3,u4,u5⟩:=f7D h hk hnew hvx
  exact b9z (ty:=ty) h ht hs hb hz hvs (.inl ⟨hxt,u4,u5⟩) u1 u2 u3 y m' hr
theorem b85{z:Value}(hall:z.cells.toList.all Value.oneCell'=true)(n:Nat):i8 ρ (B4 n (z.cells.toList.map cv1))=some (Builtin.zeroCells z.cells n).toList∧(Builtin.zeroCells z.cells n).toList.all Value.oneCell'=true:=by
  have hget:∀i (hi:i<n*z.cells.size),(Builtin.zeroCells z.cells n).toList[i]? =some z.cells[i % z.cells.size]! :=by
    intro i hi
    simp[Builtin.zeroCells,hi]
  have hlen:(Builtin.zeroCells z.cells n).toList.length=n*z.cells.size:=by simp[Builtin.zeroCells]
  have hone:∀i,i<z.cells.size→(z.cells[i]!).oneCell'=true:=by
    intro i hi
    have:=List.all_eq_true.1 hall z.cells[i] (by simp)
    simpa[hi] using this
  constructor
  · refine a8H (by rw[a1g,hlen];simp) fun i h h'=> ?_
    rw[hlen] at h'
    have hpos:0<z.cells.size:=by
      rcases Nat.eq_zero_or_pos z.cells.size with h0|h0
      · rw[h0] at h';omega
      · exact h0
    have hm:=Nat.mod_lt i hpos
    have h1:=a9K (z.cells.toList.map cv1) n i (by simpa using hpos) (by simpa using h')
    simp only[List.length_map,Array.length_toList] at h1
    have h2:(B4 n (z.cells.toList.map cv1))[i] =cv1 z.cells[i % z.cells.size]! :=by
      rw[List.getElem?_eq_getElem h] at h1
      have:=Option.some.inj (h1.trans (show(z.cells.toList.map cv1)[i % z.cells.size]? =some (cv1 z.cells[i % z.cells.size]!) by simp[hm]))
      exact this
    have h3:(Builtin.zeroCells z.cells n).toList[i] =z.cells[i % z.cells.size]! :=by
      have:=hget i h'
      rw[List.getElem?_eq_getElem (by rw[hlen];exact h')] at this
      exact Option.some.inj this
    rw[h2,h3]
    exact M9 ρ _ (hone _ hm)
  · rw[List.all_eq_true]
    intro v hv
    obtain⟨i,hi,rfl⟩:=List.getElem_of_mem hv
    rw[hlen] at hi
    have hpos:0<z.cells.size:=by
      rcases Nat.eq_zero_or_pos z.cells.size with h0|h0
      · rw[h0] at hi;omega
      · exact h0
    have:=hget i hi
    rw[List.getElem?_eq_getElem (by rw[hlen];exact hi)] at this
    rw[Option.some.inj this]
    exact hone _ (Nat.mod_lt i hpos)
theorem f9P(h:Sim P w0 ρ m w){st xt e ty size bytes:Nat}{ik:IntKind}{zl:List AV}{s x:RO}{fr:Fr}{vs vx:Value}(ht:F6 P st=some e)(hxt:P.underlying xt=some (.int ik))(hs:tsize P e=some size)(hb:N9 P e=some bytes)(hz:E8 P e=some zl)
    (hvs:d6 ρ (ev s fr)=some vs) (hvx:d6 ρ (ev x fr)=some vx):Val P w0 (Builtin.append_ #[st,xt] ty #[vs,vx]) ρ w (a7m e size bytes zl s x fr m):=by
  intro y m' hr
  obtain⟨k,hk,hr⟩:=a2z hr
  obtain⟨hc,hr⟩:=l4 hr
  simp only[Bool.and_eq_true] at hc
  have h1:=Nat.le_of_ble_eq_true hc.1
  have h2:=Nat.le_of_ble_eq_true hc.2
  obtain⟨i,z,hi,hz',hall,hsz,hzl⟩:=R9 hz
  obtain⟨i',hi',rfl⟩:=G5 hs
  rw[hi] at hi';cases hi'
  obtain⟨i',hi',rfl⟩:=a4A hb
  rw[hi] at hi';cases hi'
  rw[hk,F3] at hvx
  cases hvx
  have hrep:=b85 (ρ:=ρ) hall k
  have hlen:(Builtin.zeroCells z.cells k).toList.length=k*i.size:=by simp[Builtin.zeroCells,hsz]
  rw[←hzl] at hrep
  exact b9z (ty:=ty) h ht hs hb hz hvs (.inr ⟨ik,.i64,i,z,hxt,rfl,by omega,hi,hz',by simp,hsz,by omega⟩) hrep.1 hrep.2 hlen y m' hr
theorem f6P{e count off n:Nat}(hc:P.cellsOf e=1)(h:off+n≤count):liesAt P P.depth e count off e n=true:=by
  have hd:P.depth=(2*(P.types.size+Made.depth)+1)+1:=rfl
  rw[hd]
  simp only[liesAt,Bool.or_eq_true]
  left
  rw[hd]
  simp[rowAt,hc,h,sameLayout,Nat.mod_one]
theorem f6f{e s count off:Nat}(hc:P.cellsOf e=s)(hs:s≠0)(hoff:off % s=0)(h:off/s+1≤count):liesAt P P.depth e count off e 1=true:=by
  have hd:P.depth=(2*(P.types.size+Made.depth)+1)+1:=rfl
  rw[hd]
  simp only[liesAt,Bool.or_eq_true]
  left
  rw[hd]
  simp[rowAt,hc,hs,hoff,h,sameLayout]
theorem a4E{e s:Nat}(h:tsize P e=some s):P.cellsOf e=s:=by
  obtain⟨i,hi,rfl⟩:=G5 h
  simp[Program.cellsOf,hi]
theorem Sim.refreeze(h:Sim P w0 ρ m w){b:Nat}{c c1:Cel}{r:RB}{arr:Array Value}{fz:Nat×Nat}(hb:m.cel b=some c)(hr:ρ.loc b=some r)(k:CelOk P w0 ρ m w r c arr fz)(hmv:c.mv=none)(hro:c.ro=false)(off n:Nat)(hn:n≠0)
    (e1:c1.mv=c.mv) (e2:c1.dirty=c.dirty) (e3:c1.n=c.n) (e4:c1.elem=c.elem) (e7:∀i,c1.rd i=c.rd i)
    (hex:c1.exact=true→c.exact=true∧c1.ro=true) (hsp:c1.exact=false→∃size,tsize P c.elem=some size∧r.sh+c.n+r.ext*size≤arr.size)
    (hq:c1.ro=false→∀fz',(w.freeze ⟨r.blk,off,none⟩ n).heap[r.blk]? =some (.cells arr c.elem fz')→a68 fz' arr.size):
    Sim P w0 ρ (m.put b (.cells c1)) (w.freeze ⟨r.blk,off,none⟩ n):=by
  have hown:=k.own hmv hro
  have hfz0:∃fz',(w.freeze ⟨r.blk,off,none⟩ n).heap[r.blk]? =some (.cells arr c.elem fz'):=by
    unfold World.freeze
    rw[if_neg hn]
    simp only[Array.getElem?_modify,k.heap,if_true,Option.map_some]
    exact⟨_,rfl⟩
  obtain⟨fz',hfz'⟩:=hfz0
  have hoth:∀x,x≠r.blk→(w.freeze ⟨r.blk,off,none⟩ n).heap[x]? =w.heap[x]? :=by
    intro x hx
    unfold World.freeze
    rw[if_neg hn]
    simp only[Array.getElem?_modify]
    rw[if_neg (Ne.symm hx)]
  have hos:(w.freeze ⟨r.blk,off,none⟩ n).os=w.os∧(w.freeze ⟨r.blk,off,none⟩ n).tape=w.tape∧(w.freeze ⟨r.blk,off,none⟩ n).output=w.output∧(w.freeze ⟨r.blk,off,none⟩ n).heap.size=w.heap.size:=by
    unfold World.freeze;rw[if_neg hn];simp
  have old:∀z ez,(m.put b (.cells c1)).cel z=some ez→∃ez',m.cel z=some ez'∧ez.mv=ez'.mv∧ez.n=ez'.n:=by
    intro z ez hz
    rw[M.cel_put] at hz
    by_cases hzb:z=b
    · rw[if_pos hzb] at hz;cases hz;exact⟨c,by rw[hzb];exact hb,e1,e3⟩
    · rw[if_neg hzb] at hz;exact⟨ez,hz,rfl,rfl⟩
  refine⟨⟨hos.1.trans h.base.os,hos.2.1.trans h.base.tape,hos.2.2.1.trans h.base.output,by rw[hos.2.2.2];exact h.base.size,fun q hq=>by rw[hoth q (by omega)];exact h.base.block q hq⟩,?_,?_,?_,?_,?_,?_⟩
  · intro x hx
    have:=h.lt (M.cel_some.1 hb)
    rw[M.next_put] at hx
    exact⟨(h.next x hx).1,by rw[M.get_put,if_neg (by omega)];exact(h.next x hx).2⟩
  · intro x B hx
    rw[M.get_put] at hx
    by_cases hxb:x=b
    · rw[if_pos hxb] at hx;cases hx;subst hxb
      refine⟨r,hr,arr,fz',?_,?_,?_,?_,?_,?_,?_⟩
      · rw[hfz',e4]
      · intro _ e;exact⟨hown.1,hq e fz' hfz'⟩
      · intro e;rw[e3];exact k.fit (e1▸e)
      · intro e e';exact k.exact (e1▸e) (hex e').1
      · intro e e' _;rw[e4,e3];exact hsp e'
      · intro _ e e';rw[(hex e).2] at e';cases e'
      · intro _ i hi
        rw[e7]
        exact k.cells (by unfold M.readable;rw[hmv]) i (by omega)
    · rw[if_neg hxb] at hx
      obtain⟨q,hq,kq⟩:=h.blk x B hx
      refine⟨q,hq,?_⟩
      cases B with
      | obj o=>
        obtain⟨O,k1,k2,k3⟩:=kq
        have hne:q.blk≠r.blk:=fun e'=>by rw[e',k.heap] at k1;cases k1;exact k3.notCells
        exact⟨O,(hoth q.blk hne).trans k1,k2,k3⟩
      | cells e=>
        obtain⟨ar2,fz2,kq⟩:=kq
        have hread:(m.put b (.cells c1)).readable e=true→m.readable e=true:=b7z h hb e1 (fun x=>by rw[e2] at x;exact x) (M.cel_some.2 hx)
        by_cases hbk:q.blk=r.blk
        · have hreach:=h.own x e b c q r (M.cel_some.2 hx) hb hmv hq hr hbk (by rw[hbk];exact hown.1)
          have hst:∃y,e.mv=some y:=by
            cases hreach with
            |refl=>exact absurd rfl hxb
            |step hc hm r2=>rw[M.cel_some.2 hx] at hc;cases hc;exact⟨_,hm⟩
          obtain⟨y,hy⟩:=hst
          have hmn:∀{α:Prop},e.mv=none→α:=fun e1=>by rw[hy] at e1;cases e1
          have hkq:=kq.heap
          rw[hbk,k.heap] at hkq
          injection hkq with hkq
          injection hkq with hk1 hk2 hk3
          exact⟨ar2,fz',by rw[hbk,hfz',hk1,hk2],fun e=>hmn e,fun e=>hmn e,fun e=>hmn e,fun e=>hmn e,fun e=>hmn e,fun e1=>kq.cells (hread e1)⟩
        · exact⟨ar2,fz2,kq.keep (Ren.le_refl ρ) (hoth q.blk hbk) hread⟩
  · intro x e y hx hy
    obtain⟨ex,h1,h2,_⟩:=old x e hx
    obtain⟨c',hc'⟩:=h.mvok x ex y h1 (h2▸hy)
    by_cases hyb:y=b
    · exact⟨c1,by rw[M.cel_put,if_pos hyb]⟩
    · exact⟨c',by rw[M.cel_put,if_neg hyb];exact hc'⟩
  · intro x e y e' q q' hx hy hm hq hq' he hg
    obtain⟨ex,h1,_,_⟩:=old x e hx
    obtain⟨ey,h2,h3,_⟩:=old y e' hy
    exact a9l hb e1 (h.own x ex y ey q q' h1 h2 (h3▸hm) hq hq' he hg)
  · intro x e y e' q q' hx hy hm hq hq' he hg
    obtain⟨ex,h1,_,n1⟩:=old x e hx
    obtain⟨ey,h2,h3,n2⟩:=old y e' hy
    rw[n1,n2]
    exact h.ext x ex y ey q q' h1 h2 (h3▸hm) hq hq' he hg
  · intro x es y es' q q' hx hy hq hq' he
    rw[M.get_put] at hx hy
    by_cases hxb:x=b
    · rw[if_pos hxb] at hx;cases hx
    · by_cases hyb:y=b
      · rw[if_pos hyb] at hy;cases hy
      · rw[if_neg hxb] at hx;rw[if_neg hyb] at hy
        exact h.mown x es y es' q q' hx hy hq hq' he
theorem Sim.freeze(h:Sim P w0 ρ m w){b:Nat}{c:Cel}{r:RB}{arr:Array Value}{fz:Nat×Nat}(hb:m.cel b=some c)(hr:ρ.loc b=some r)(k:CelOk P w0 ρ m w r c arr fz)(hmv:c.mv=none)(hro:c.ro=false)(off n:Nat)(hn:n≠0):
    Sim P w0 ρ (m.put b (.cells ⟨c.elem,c.n,c.cs,c.zero,c.mv,c.dirty,c.exact,true⟩)) (w.freeze ⟨r.blk,off,none⟩ n):=
  h.refreeze hb hr k hmv hro off n hn rfl rfl rfl rfl (fun _=>rfl) (fun e=>⟨e,rfl⟩) (fun e=>k.spare hmv e hro) (fun e=>by cases e)
theorem b60:∀(ns:List Nat) (a:Addr) (acc:ByteArray),(∀j u,(ns.map fun(n:Nat)=>Value.int .u8 (Int.ofNat n))[j]? =some u→w.cell? ⟨a.block,a.off+j,none⟩=some u)→a.spot=none→
    (loadBytes a acc ns.length).run P w= .ok ⟨acc.data++(ns.map UInt8.ofNat).toArray⟩ w
  | [],a,acc,_,_=>by simp[loadBytes]
  | n::ns,a,acc,h,hs=>by
    have h0:w.cell? a=some (.int .u8 (Int.ofNat n)):=by
      have:=h 0 _ rfl
      cases a;simp at hs;subst hs;simpa using this
    have ih:=b60 ns (a.add 1) (acc.push (UInt8.ofNat n)) (fun j u hu=>by
      have:=h (j+1) u (by simpa using hu)
      simp only[Addr.add,Nat.one_ne_zero,if_false]
      rw[show a.off+1+j=a.off+(j+1) by omega]
      exact this) (by simp[Addr.add])
    simp only[List.length_cons,loadBytes,Sem.run_bind,run_load,h0,Result.andThen]
    have hx:(Int.ofNat n).toNat.toUInt8=UInt8.ofNat n:=rfl
    rw[hx,ih]
    congr 1
    apply ByteArray.ext
    apply Array.ext'
    simp[ByteArray.push]
theorem f94(h:Sim P w0 ρ m w){pt it ty u:Nat}{x n':RO}{fr:Fr}{vx vn:Value}(hp:P.underlying pt=some (.pointer u))(hs:tsize P u=some 1)(hx:d6 ρ (ev x fr)=some vx)(hn:d6 ρ (ev n' fr)=some vn):
    Val P w0 (Builtin.unsafeString_ #[pt,it] ty #[vx,vn]) ρ w (b4j u x n' fr m):=by
  intro y m' hr
  obtain⟨n,hnv,hr⟩:=a2z hr
  rw[hnv,F3] at hn
  cases hn
  have hdef0:∀p,(Builtin.unsafeString_ #[pt,it] ty #[.pointer p,.int .i64 (Int.ofNat 0)]).run P w= .ok (.string .empty) w:=fun p=>Lib.run_unsafeString_none w pt it ty p
  cases hxv:ev x fr<;>simp only[hxv,elPtr,reduceCtorEq] at hr
  case p v=>
    split at hr
    · rename_i hpv;cases hpv
      obtain⟨h0,hr⟩:=l4 hr
      have h0:=Nat.eq_of_beq_eq_true h0
      cases hr
      subst h0
      rw[hxv,l7 rfl] at hx
      cases hx
      exact⟨ρ,_,w,hdef0 none,l7 rfl,Ren.le_refl ρ,h⟩
    · cases hr
  case ptr b off=>
    rw[hxv] at hx
    obtain⟨r,hr1,rfl⟩:=E5 hx
    rw[A6] at hr
    split at hr
    · rename_i h0
      have h0:=Nat.eq_of_beq_eq_true h0
      cases hr
      subst h0
      exact⟨ρ,_,w,hdef0 _,l7 rfl,Ren.le_refl ρ,h⟩
    · rename_i h0
      have h0:n≠0:=fun e=>by subst e;simp at h0
      obtain⟨l,hl,hr⟩:=d9 hr
      obtain⟨c,hc,hr⟩:=d9 hr
      obtain⟨hcc,hr⟩:=l4 hr
      obtain⟨s,hsb,hr⟩:=d9 hr
      cases hr
      simp only[Bool.and_eq_true,Bool.not_eq_true',Option.isNone_iff_eq_none] at hcc
      obtain⟨c1,c2,c3,c4⟩:=hcc
      have c1:=Nat.eq_of_beq_eq_true c1
      have c4:n≤1099511627776:=Nat.le_of_ble_eq_true c4
      obtain⟨r',us,hr2,q1,q2,q3,q4⟩:=h.rdN hl
      rw[hr1] at hr2;cases hr2
      obtain⟨r',arr,fz,hr2,k⟩:=h.cel hc
      rw[hr1] at hr2;cases hr2
      obtain⟨ns,hus,hsn⟩:=b7I hsb q1
      have hns:ns.length=n:=by rw[←q2,hus];simp
      have hle:off+n≤c.n:=by
        have hl':=hl
        unfold M.rdN at hl'
        obtain⟨c',hc',hl'⟩:=d9 hl'
        rw[hc] at hc';cases hc'
        obtain⟨hb,_⟩:=l4 hl'
        simp only[Bool.and_eq_true] at hb
        exact Nat.le_of_ble_eq_true hb.1
      have hload:=b60 (P:=P) (w:=w) ns ⟨r.blk,r.sh+off,none⟩ .empty (fun j u hj=>by rw[←hus] at hj;exact q4 j u hj) rfl
      rw[hns] at hload
      have hfit:=k.fit c2
      have hsh:w.shape? r.blk=some (c.elem,arr.size):=by simp[World.shape?,k.heap]
      have hlies:liesAt P P.depth c.elem (arr.size/P.cellsOf c.elem) (r.sh+off) u n=true:=by
        rw[c1]
        exact f6P (a4E hs) (by rw[a4E hs];simp;omega)
      refine⟨ρ,.string ⟨s.toArray⟩,w.freeze ⟨r.blk,r.sh+off,none⟩ n,?_,l7 rfl,Ren.le_refl ρ,h.freeze hc hr1 k c2 c3 (r.sh+off) n h0⟩
      obtain⟨q1,q2,q3,hdef⟩:∃q1 q2 q3,Builtin.unsafeString_ #[pt,it] ty #[.pointer (some ⟨r.blk,r.sh+off,none⟩),.int .i64 (Int.ofNat n)] =
          (do
            let n←asInt (.int .i64 (Int.ofNat n))
            if n<0 then runtimePanic (.error q1)
            if n>IntKind.i64.max then unsupported (.unsafePointer q2)
            if n=0 then pure (.string .empty)
            else if←variablesAt ⟨r.blk,r.sh+off,none⟩ (←elemOf pt) n.toNat then do
              let s←loadBytes ⟨r.blk,r.sh+off,none⟩ .empty n.toNat
              Go.freeze ⟨r.blk,r.sh+off,none⟩ n.toNat
              pure (.string s)
            else unsupported (.unsafePointer q3)):=⟨_,_,_,rfl⟩
      rw[hdef]
      have hmax:IntKind.i64.max=9223372036854775807:=rfl
      have hneg:¬(n:Int)<0:=by omega
      have hbig:¬(9223372036854775807:Int)<(n:Int):=by omega
      simp[asInt,asIntOf,hmax,hneg,hbig,h0,variablesAt,hsh,elemOf,run_underlying hp,hlies,hload]
      exact hsn.symm
theorem g1u(h:Sim P w0 ρ m w){src dst t n:Nat}{x:RO}{fr:Fr}{v:Value}(hs:P.underlying src=some (.pointer t))(hd:P.underlying dst=some .unsafePointer)(hn:tsize P t=some n)(h0:Nat.beq n 0=false)(hv:d6 ρ (ev x fr)=some v):
    Val P w0 (convert src dst v) ρ w (a4b x fr m):=by
  intro y m' hr
  obtain⟨b,off,hx,hr⟩:=K4 hr
  obtain⟨c,hc,hr⟩:=d9 hr
  obtain⟨hb,hr⟩:=l4 hr
  cases hr
  simp only[Bool.and_eq_true,Option.isNone_iff_eq_none] at hb
  have hb1:off+1≤c.n:=Nat.le_of_ble_eq_true hb.1
  rw[hx] at hv
  obtain⟨r,hr1,rfl⟩:=E5 hv
  obtain⟨r',arr,fz,hr2,k⟩:=h.cel hc
  rw[hr1] at hr2;cases hr2
  have hfit:=k.fit hb.2
  obtain⟨j,hj,rfl⟩:=G5 hn
  have hsh:w.shape? r.blk=some (c.elem,arr.size):=by simp[World.shape?,k.heap]
  exact⟨ρ,_,w,Lib.run_to_unsafe w ⟨r.blk,r.sh+off,none⟩ hs hd hj (fun e=>by rw[e] at h0;simp at h0) hsh (by show r.sh+off<_;omega),a0N hr1,Ren.le_refl ρ,h⟩
theorem g0e(h:Sim P w0 ρ m w){src dst u n:Nat}{x:RO}{fr:Fr}{v:Value}(hs:P.underlying src=some .unsafePointer)(hd:P.underlying dst=some (.pointer u))(hn:tsize P u=some n)(h0:Nat.beq n 0=false)(hv:d6 ρ (ev x fr)=some v):
    Val P w0 (convert src dst v) ρ w (a3Y u n x fr m):=by
  intro y m' hr
  obtain⟨b,off,hx,hr⟩:=K4 hr
  obtain⟨c,hc,hr⟩:=d9 hr
  obtain⟨hb,hr⟩:=l4 hr
  cases hr
  simp only[Bool.and_eq_true,Option.isNone_iff_eq_none] at hb
  obtain⟨b1,b2,b3,b4,b5⟩:=hb
  have b1:=Nat.eq_of_beq_eq_true b1
  have b4:=Nat.eq_of_beq_eq_true b4
  have b5:off+n≤c.n:=Nat.le_of_ble_eq_true b5
  rw[hx] at hv
  obtain⟨r,hr1,rfl⟩:=E5 hv
  obtain⟨r',arr,fz,hr2,k⟩:=h.cel hc
  rw[hr1] at hr2;cases hr2
  have hfit:=k.fit b3
  have hsh0:=(k.exact b3 b2).2
  have h0:n≠0:=fun e=>by rw[e] at h0;simp at h0
  obtain⟨j,hj,rfl⟩:=G5 hn
  have hsh:w.shape? r.blk=some (c.elem,arr.size):=by simp[World.shape?,k.heap]
  refine⟨ρ,_,w,Lib.run_from_unsafe w ⟨r.blk,r.sh+off,none⟩ hs hd hj hsh ?_,a0N hr1,Ren.le_refl ρ,h⟩
  rw[b1,a4E hn]
  refine f6f (a4E hn) h0 (by rw[hsh0];simpa using b4) ?_
  rw[hsh0,Nat.zero_add]
  have:(off+j.size)/j.size≤arr.size/j.size:=Nat.div_le_div_right (by omega)
  rw[Nat.add_div_right _ (by omega)] at this
  omega
end
end Go.Am
