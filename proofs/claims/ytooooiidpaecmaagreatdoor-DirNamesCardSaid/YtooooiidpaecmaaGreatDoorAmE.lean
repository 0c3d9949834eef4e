import Derived.Test.YtooooiidpaecmaaGreatDoorAmD
/- The abstract machine: its operations and the model's, memory among them. -/
namespace Go.Am
open Go Go.RowKit
section
variable {P:Program} {w0:World} {ρ:Ren} {m:M} {w:World}
theorem b81{t:TypeId}{x y:RO}{fr:Fr}:a7I (d8 P .and t) x y fr m=rto m (d8 P .and t (ev x fr) (ev y fr)):=
 M1 rfl fun a b hx hy=>by
  rw[A6]
  split
  ·rename_i hb
   simp only[Bool.and_eq_true] at hb
   have h1:a≤9223372036854775807:=Nat.le_of_ble_eq_true hb.1
   have h2:b≤9223372036854775807:=Nat.le_of_ble_eq_true hb.2
   refine a1J rfl fun h=> ?_
   rw[hx,hy,I6]
   show some (ofI .i64 (IntKind.i64.wrap ((BitVec.ofInt 64 (Int.ofNat a)&&&BitVec.ofInt 64 (Int.ofNat b)).toNat:Nat)))=_
   have e:(BitVec.ofInt 64 (Int.ofNat a)&&&BitVec.ofInt 64 (Int.ofNat b)).toNat=Nat.land a b:=by
    rw[BitVec.toNat_and]
    have ea:(BitVec.ofInt 64 (Int.ofNat a)).toNat=a:=by simp;omega
    have eb:(BitVec.ofInt 64 (Int.ofNat b)).toNat=b:=by simp;omega
    rw[ea,eb];rfl
   rw[e,a2C h];rfl
  ·rfl
theorem a4A{t n:Nat}(h:N9 P t=some n):∃i,P.info? t=some i∧i.bytes=n:=by
 unfold N9 at h
 simpa[Option.map_eq_some_iff] using h
theorem R9{t:Nat}{l:List AV}(h:E8 P t=some l):∃i z,P.info? t=some i∧i.zero=some z∧z.cells.toList.all Value.oneCell'=true∧z.cells.size=i.size∧l=z.cells.toList.map cv1:=by
 unfold E8 at h
 simp only[Option.bind_eq_some_iff] at h
 obtain⟨i,hi,z,hz,h⟩:=h
 split at h
 ·rename_i hc
  simp only[Bool.and_eq_true] at hc
  cases h
  exact⟨i,z,hi,hz,hc.1,Nat.eq_of_beq_eq_true hc.2,rfl⟩
 ·cases h
theorem M8{t e:Nat}(h:F6 P t=some e):P.underlying t=some (.slice e):=by
 unfold F6 at h
 split at h
 ·cases h;assumption
 ·cases h
theorem f7N(zs:List AV)(i:Nat)(h:0<zs.length):U3 zs i=zs.getD (i % zs.length) .undef:=by
 cases zs with
 |nil=>simp at h
 |cons z t=>
  cases t with
  |nil=>simp[U3,Nat.mod_one]
  |cons y t=>rfl
theorem b9b(ρ:Ren)(z:Value)(hall:z.cells.toList.all Value.oneCell'=true)(h:0<z.cells.size)(i:Nat):
  ∃v,d6 ρ (U3 (z.cells.toList.map cv1) i)=some v∧v.oneCell'=true∧z.cells[i % z.cells.size]? =some v:=by
 have hlt:i % z.cells.size<z.cells.size:=Nat.mod_lt _ h
 refine⟨z.cells[i % z.cells.size],?_,?_,by simp[hlt]⟩
 ·rw[f7N _ _ (by simpa using h)]
  have:(z.cells.toList.map cv1).getD (i % (z.cells.toList.map cv1).length) .undef=cv1 z.cells[i % z.cells.size] :=by simp[List.getD,hlt]
  rw[this]
  exact M9 ρ _ ((List.all_eq_true.1 hall) _ (by simp))
 ·exact(List.all_eq_true.1 hall) _ (by simp)
theorem b2j(c:Cel)(l:List AV)(h:c.cs=v8 l 0 .leaf)(i:Nat):c.rd i=(l[i]?).getD (U3 c.zero i):=by
 rw[V3,h,T4]
 by_cases hi:i<l.length
 ·rw[if_pos (by omega)];simp
 ·rw[if_neg (by omega),X2,List.getElem?_eq_none (by omega)]
theorem c7X(c:Cel)(h:c.cs= .leaf)(i:Nat):c.rd i=U3 c.zero i:=by rw[V3,h,X2];rfl
theorem Sim.newList(h:Sim P w0 ρ m w)(e:TypeId)(l:List AV)(us:List Value)(arr:Array Value)(zero:List AV)(exact:Bool)(x:Nat)(hl:i8 ρ l=some us)(h1:us.all Value.oneCell'=true)
  (harr:∀i,i<us.length→arr[i]? =us[i]?) (hsz:us.length≤arr.size) (hex:exact=true→x=0) (hsp:exact=false→∃size,tsize P e=some size∧us.length+x*size≤arr.size) (n:Nat) (hn:n=l.length):
  Sim P w0 (ρ.put m.next ⟨w.heap.size,0,x⟩) (m.new (.cells ⟨e,n,v8 l 0 .leaf,zero,none,false,exact,false⟩)) (w.alloc (.cells arr e))∧ρ.le (ρ.put m.next ⟨w.heap.size,0,x⟩):=by
 have hlen:=I0 hl
 subst hn
 refine h.newRow ⟨e,l.length,v8 l 0 .leaf,zero,none,false,exact,false⟩ arr x rfl (by show l.length≤_;omega) hex (fun q=>by
  obtain⟨size,q1,q2⟩:=hsp q
  exact⟨size,q1,by show l.length+_≤_;omega⟩) ?_
 intro i hi
 have hi:i<l.length:=hi
 obtain⟨v,q1,q2⟩:=S9 hl i l[i] (by simp[hi])
 refine⟨v,?_,(List.all_eq_true.1 h1) v (List.mem_of_getElem? q1),by rw[harr i (by omega)];exact q1⟩
 rw[b2j _ l rfl]
 simpa[hi] using q2
theorem d4a{x:Nat}:d6 (ρ.put m.next ⟨w.heap.size,0,x⟩) (.ptr m.next 0)=some (.pointer (some ⟨w.heap.size,0,none⟩)):=a0N (Ren.put_same _ _ _)
theorem b3A{x n c:Nat}:d6 (ρ.put m.next ⟨w.heap.size,0,x⟩) (.slice m.next 0 n c false)=some (.slice (some ⟨w.heap.size,0,none⟩) n (c+x)):=by
 rw[O5 (Ren.put_same _ _ _)];rfl
theorem f7J(h:Sim P w0 ρ m w){e n:Nat}{zl:List AV}(hn:tsize P e=some n)(hz:E8 P e=some zl)(x0:Value)(fr:Fr):Val P w0 (Instr.alloc e true x0) ρ w (d9r e n zl fr m):=by
 intro x m' hr
 cases hr
 obtain⟨i,z,hi,hz',hall,hsz,rfl⟩:=R9 hz
 obtain⟨i',hi',rfl⟩:=G5 hn
 rw[hi] at hi';cases hi'
 have hnew:=h.newRow ⟨e,i.size,.leaf,z.cells.toList.map cv1,none,false,true,false⟩ z.cells 0 rfl (by show i.size≤_;omega) (fun _=>rfl) (fun q=>by cases q) (by
  intro j hj
  have hj:j<i.size:=hj
  obtain⟨v,q1,q2,q3⟩:=b9b ρ z hall (by omega) j
  rw[Nat.mod_eq_of_lt (by omega)] at q3
  exact⟨v,by rw[c7X _ rfl];exact q1,q2,q3⟩)
 exact⟨_,_,_,by simp[Instr.alloc,zeroValue,typeInfo,hi,hz',newVar,newRow],d4a,hnew.2,hnew.1⟩
theorem f96(h:Sim P w0 ρ m w){e:Nat}{x:RO}{fr:Fr}{v:Value}(hv:d6 ρ (ev x fr)=some v):Val P w0 (Instr.box e v) ρ w (f2Y e x fr m):=by
 intro y m' hr
 obtain⟨cs,hcs,hr⟩:=d9 hr
 cases hr
 obtain⟨q1,q2⟩:=a8V hv hcs
 have hnew:=h.newList e cs v.cells.toList v.cells [] true 0 q1 q2 (fun i _=>by simp) (by simp) (fun _=>rfl) (fun q=>by cases q) cs.length rfl
 exact⟨_,_,_,by simp[Instr.box,newVar,newRow],d4a,hnew.2,hnew.1⟩
theorem f7P(cs:List Value):∀(off k:Nat) (arr:Array Value),off+k+cs.length≤arr.size→
  ((cs.zipIdx k).foldl (fun a (q:Value×Nat)=>a.setIfInBounds (off+q.2) q.1) arr).toList=arr.toList.take (off+k)++cs++arr.toList.drop (off+k+cs.length):=by
 induction cs with
 |nil=>intro off k arr _;simp
 |cons v cs ih=>
  intro off k arr h
  simp only[List.length_cons] at h
  rw[List.zipIdx_cons,List.foldl_cons,ih off (k+1) _ (by simp;omega)]
  simp only[Array.toList_setIfInBounds]
  have h1:off+(k+1)=off+k+1:=by omega
  rw[h1]
  apply List.ext_getElem?
  intro j
  have hl:off+k<arr.toList.length:=by simp;omega
  have e1:=a1v (arr.toList.set (off+k) v) cs (off+k+1) j (by simp;omega)
  have e2:=a1v arr.toList (v::cs) (off+k) j (by simp;omega)
  rw[show off+k+1+cs.length=off+k+(v::cs).length by simp;omega] at e1
  rw[show off+k+1+cs.length=off+k+(v::cs).length by simp;omega,e1,e2]
  simp only[List.length_cons]
  by_cases hj:j=off+k
  ·subst hj
   rw[if_neg (by omega),if_pos (by omega),List.getElem?_set_self hl]
   simp
  ·by_cases hj2:off+k+1≤j∧j<off+k+(cs.length+1)
   ·rw[if_pos hj2,if_pos (by omega),show j-(off+k)=(j-(off+k+1))+1 by omega,List.getElem?_cons_succ]
   ·rw[if_neg hj2,if_neg (by omega),List.getElem?_set_ne (by omega)]
theorem a5y(place:Nat→Option (Nat×Nat)){a:Operand→Value}{fr:Fr}:∀(ps:List (Nat×Operand)) (qs:List (Nat×Nat×RO)) (cells out:List AV) (cvs:Array Value),
  parts place ps=some qs→(∀q∈ps,d6 ρ (ev (cO q.2) fr)=some (a q.2))→i8 ρ cells=some cvs.toList→cvs.toList.all Value.oneCell'=true→H8 (P5 qs fr) cells=some out→
  ∃outv,Instr.fill place cvs (ps.map fun q=>(q.1,a q.2))=some outv∧i8 ρ out=some outv.toList∧outv.toList.all Value.oneCell'=true
 | [],qs,cells,out,cvs,hp,_,hc,h1,hf=>by
  simp only[parts,Option.some.injEq] at hp
  subst hp
  simp only[P5,List.map_nil,H8,Option.some.injEq] at hf
  subst hf
  exact⟨cvs,rfl,hc,h1⟩
 |(i,x)::ps,qs,cells,out,cvs,hp,ha,hc,h1,hf=>by
  simp only[parts] at hp
  split at hp
  ·rename_i off size r hpl hr
   cases hp
   simp only[P5,List.map_cons,H8] at hf
   obtain⟨cs,hcs,hf⟩:=d9 hf
   obtain⟨hb,hf⟩:=l4 hf
   simp only[Bool.and_eq_true] at hb
   have hb1:cs.length=size:=Nat.eq_of_beq_eq_true hb.1
   have hb2:off+size≤cells.length:=Nat.le_of_ble_eq_true hb.2
   obtain⟨q1,q2⟩:=a8V (ha (i,x) (by simp)) hcs
   have hl1:=I0 q1
   have hl2:=I0 hc
   simp only[Array.length_toList] at hl1 hl2
   have hnew:i8 ρ (cells.take off++cs++cells.drop (off+size))=some (cvs.toList.take off++(a x).cells.toList++cvs.toList.drop (off+(a x).cells.toList.length)):=by
    rw[show(a x).cells.toList.length=size by simp;omega]
    exact M7 (M7 (a88 off hc) q1) (a86 _ hc)
   have hfold:=f7P (a x).cells.toList off 0 cvs (by simp;omega)
   simp only[Nat.add_zero] at hfold
   rw[←hfold] at hnew
   have hall:((((a x).cells.toList.zipIdx 0).foldl (fun a (q:Value×Nat)=>a.setIfInBounds (off+q.2) q.1) cvs)).toList.all Value.oneCell'=true:=by
    rw[hfold,List.all_eq_true]
    intro u hu
    simp only[List.mem_append] at hu
    rcases hu with(hu|hu)|hu
    ·exact(List.all_eq_true.1 h1) u (List.mem_of_mem_take hu)
    ·exact(List.all_eq_true.1 q2) u hu
    ·exact(List.all_eq_true.1 h1) u (List.mem_of_mem_drop hu)
   obtain⟨outv,p1,p2,p3⟩:=a5y place ps r _ out _ hr (fun q hq=>ha q (by simp[hq])) hnew hall hf
   refine⟨outv,?_,p2,p3⟩
   simp only[List.map_cons,Instr.fill,hpl]
   rw[if_neg (by simp;omega)]
   rw[←p1]
   congr 1
   rw[←Array.foldl_toList]
   simp
  ·cases hp
end
end Go.Am
