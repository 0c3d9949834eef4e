import Derived.Test.YtooooiidpaecmaaGreatDoorAmE
import Derived.Great.BuildSlice
/- The abstract machine: its operations and the model's, one by one. -/
namespace Go.Am
open Go Go.RowKit
section
variable {P:Program} {w0:World} {ρ:Ren} {m:M} {w:World}
theorem b7J{p q:Nat→Option (Nat×Nat)}(h:∀i x,p i=some x→q i=some x):∀(l:List (Nat×Operand)) (r:List (Nat×Nat×RO)),parts p l=some r→parts q l=some r
 | [],r,e=>e
 |(i,x)::l,r,e=>by
  simp only[parts] at e⊢
  split at e
  ·rename_i off size r' h1 h2
   rw[h i _ h1,b7J h l r' h2];exact e
  ·cases e
theorem f5w(h:Sim P w0 ρ m w){t e n size:Nat}{zl:List AV}{ps:Array (Nat×Operand)}{qs:List (Nat×Nat×RO)}{a:Operand→Value}{fr:Fr}(hz:E8 P t=some zl)(hu:P.underlying t=some (.array n e))(hs:tsize P e=some size)
  (hp:parts (fun i=>some (i*size,size)) ps.toList=some qs) (ha:∀q∈ps.toList,d6 ρ (ev (cO q.2) fr)=some (a q.2)):
  Val P w0 (Instr.build t (ps.map fun(i,x)=>(i,a x))) ρ w (a3w zl qs fr m):=by
 intro x m' hr
 obtain⟨out,ho,hr⟩:=d9 hr
 cases hr
 obtain⟨i,z,hi,hz',hall,hsz,rfl⟩:=R9 hz
 obtain⟨ie,hie,rfl⟩:=G5 hs
 obtain⟨outv,h1,h2,h3⟩:=a5y _ ps.toList qs _ out z.cells hp ha (a2s ρ _ hall) hall ho
 refine⟨ρ,.agg outv,w,run_build w t _ outv ?_,?_,Ren.le_refl ρ,h⟩
 ·unfold Program.built
  simp only[hi,hu,hz',hie,Array.toList_map]
  exact h1
 ·simp only[d6,h2,Option.bind_some,h3,if_true]
theorem a8W:∀(fs:List Field) (k:Nat) (f:Field) (n:Nat),(∀f∈fs,∃n,tsize P f.type=some n)→fs[k]? =some f→tsize P f.type=some n→
  ∃places,fs.mapM (fun f=>(P.info? f.type).map fun i=>(f.offset,i.size))=some places∧places[k]? =some (f.offset,n)
 | [],k,f,n,_,e,_=>by simp at e
 |g::fs,k,f,n,hall,e,hn=>by
  obtain⟨n0,h0⟩:=hall g (by simp)
  obtain⟨i0,hi0,rfl⟩:=G5 h0
  have htail:∃pl,fs.mapM (fun f=>(P.info? f.type).map fun i=>(f.offset,i.size))=some pl:=by
   clear e hn
   induction fs with
   |nil=>exact⟨[],rfl⟩
   |cons g' fs ih=>
    obtain⟨n1,h1⟩:=hall g' (by simp)
    obtain⟨i1,hi1,_⟩:=G5 h1
    obtain⟨pl,hpl⟩:=ih (fun f hf=>hall f (by simp at hf⊢;rcases hf with rfl|hf<;>simp[*]))
    exact⟨(g'.offset,i1.size)::pl,by simp[List.mapM_cons,hi1,hpl]⟩
  obtain⟨pl,hpl⟩:=htail
  refine⟨(g.offset,i0.size)::pl,by simp[List.mapM_cons,hi0,hpl],?_⟩
  cases k with
  |zero=>
   simp at e;subst e
   obtain⟨i1,hi1,rfl⟩:=G5 hn
   rw[hi0] at hi1;cases hi1
   rfl
  |succ k=>
   simp at e
   obtain⟨pl',h1,h2⟩:=a8W fs k f n (fun f hf=>hall f (by simp[hf])) e hn
   rw[hpl] at h1;cases h1
   simpa using h2
theorem f5F(h:Sim P w0 ρ m w){t:Nat}{fs:Array Field}{zl:List AV}{ps:Array (Nat×Operand)}{qs:List (Nat×Nat×RO)}{a:Operand→Value}{fr:Fr}(hz:E8 P t=some zl)(hu:P.underlying t=some (.struct fs))
  (hall':fs.toList.all (fun f=>(tsize P f.type).isSome)=true) (hp:parts (fun i=>(fs[i]?).bind fun fd=>(tsize P fd.type).map (fd.offset,·)) ps.toList=some qs) (ha:∀q∈ps.toList,d6 ρ (ev (cO q.2) fr)=some (a q.2)):
  Val P w0 (Instr.build t (ps.map fun(i,x)=>(i,a x))) ρ w (a3w zl qs fr m):=by
 intro x m' hr
 obtain⟨out,ho,hr⟩:=d9 hr
 cases hr
 obtain⟨i,z,hi,hz',hall,hsz,rfl⟩:=R9 hz
 have hall2:∀f∈fs.toList,∃n,tsize P f.type=some n:=fun f hf=>Option.isSome_iff_exists.1 ((List.all_eq_true.1 hall') f hf)
 have hex:∃places,fs.toList.mapM (fun f=>(P.info? f.type).map fun i=>(f.offset,i.size))=some places:=by
  cases hl:fs.toList with
  |nil=>exact⟨[],rfl⟩
  |cons f l=>
   obtain⟨n,hn⟩:=hall2 f (by rw[hl];simp)
   obtain⟨pl,h1,_⟩:=a8W (P:=P) fs.toList 0 f n hall2 (by rw[hl];rfl) hn
   rw[hl] at h1
   exact⟨pl,h1⟩
 obtain⟨places,hpl⟩:=hex
 have hp2:=b7J (q:=(places.toArray[·]?)) (fun k q hq=>by
  simp only[Option.bind_eq_some_iff,Option.map_eq_some_iff] at hq
  obtain⟨f,hf,n,hn,rfl⟩:=hq
  obtain⟨pl,h1,h2⟩:=a8W (P:=P) fs.toList k f n hall2 (by simpa using hf) hn
  rw[hpl] at h1;cases h1
  simpa using h2) _ _ hp
 obtain⟨outv,h1,h2,h3⟩:=a5y _ ps.toList qs _ out z.cells hp2 ha (a2s ρ _ hall) hall ho
 refine⟨ρ,.agg outv,w,run_build w t _ outv ?_,?_,Ren.le_refl ρ,h⟩
 ·unfold Program.built
  simp only[hi,hu,hz',hpl,Array.toList_map]
  exact h1
 ·simp only[d6,h2,Option.bind_some,h3,if_true]
theorem a9K(zl:List AV):∀(k i:Nat),0<zl.length→i<k*zl.length→(B4 k zl)[i]? =zl[i % zl.length]?
 |0,i,_,h=>by simp at h
 |k+1,i,h0,h=>by
  simp only[B4]
  by_cases hi:i<zl.length
  ·rw[List.getElem?_append_left hi,Nat.mod_eq_of_lt hi]
  ·rw[List.getElem?_append_right (by omega),a9K zl k _ h0 (by rw[Nat.succ_mul] at h;omega)]
   congr 1
   rw[←Nat.mod_eq_sub_mod (by omega)]
theorem a1g(zl:List AV):∀k,(B4 k zl).length=k*zl.length
 |0=>by simp[B4]
 |k+1=>by simp only[B4,List.length_append,a1g zl k,Nat.succ_mul];omega
theorem f6w(h:Sim P w0 ρ m w){t e len size:Nat}{zl:List AV}{ps:Array (Nat×Operand)}{qs:List (Nat×Nat×RO)}{a:Operand→Value}{fr:Fr}(hu:F6 P t=some e)(hs:tsize P e=some size)(hz:E8 P e=some zl)
  (hb:Nat.ble (len*size) 16777216=true) (hp:parts (fun i=>some (i*size,size)) ps.toList=some qs) (ha:∀q∈ps.toList,d6 ρ (ev (cO q.2) fr)=some (a q.2)):
  Val P w0 (Instr.buildSlice t len (ps.map fun(i,x)=>(i,a x))) ρ w (d2I e len (len*size) zl qs fr m):=by
 intro x m' hr
 obtain⟨out,ho,hr⟩:=d9 hr
 cases hr
 obtain⟨i,z,hi,hz',hall,hsz,rfl⟩:=R9 hz
 obtain⟨i',hi',rfl⟩:=G5 hs
 rw[hi] at hi';cases hi'
 have hb:len*i.size≤16777216:=Nat.le_of_ble_eq_true hb
 have hu:=M8 hu
 have hA:i8 ρ (B4 len (z.cells.toList.map cv1))=some ((Array.range (len*i.size)).map (fun j=>z.cells[j % z.cells.size]!)).toList:=by
  refine a8H (by rw[a1g];simp[hsz]) ?_
  intro j h1 h2
  rw[a1g] at h1
  have hpos:0<z.cells.size:=by
   rcases Nat.eq_zero_or_pos z.cells.size with h0|h0
   ·simp[h0] at h1
   ·exact h0
  have hj:=a9K (z.cells.toList.map cv1) len j (by simpa using hpos) h1
  rw[List.getElem?_eq_getElem (by rw[a1g];exact h1)] at hj
  have hlt:j % z.cells.size<z.cells.size:=Nat.mod_lt _ hpos
  simp only[List.length_map,Array.length_toList,List.getElem?_map,Array.getElem?_toList,Array.getElem?_eq_getElem hlt,Option.map_some,Option.some.injEq] at hj
  rw[hj,M9 ρ _ ((List.all_eq_true.1 hall) _ (by simp))]
  simp[hlt]
 have hAll:((Array.range (len*i.size)).map (fun j=>z.cells[j % z.cells.size]!)).toList.all Value.oneCell'=true:=by
  rw[List.all_eq_true]
  intro u hu'
  simp only[Array.toList_map,List.mem_map] at hu'
  obtain⟨j,hj,rfl⟩:=hu'
  by_cases h0:z.cells.size=0
  ·rw[hsz] at h0;simp[h0] at hj
  ·have hlt:j % z.cells.size<z.cells.size:=Nat.mod_lt _ (by omega)
   simp only[hlt,getElem!_pos]
   exact(List.all_eq_true.1 hall) _ (by simp)
 obtain⟨outv,h1,h2,h3⟩:=a5y _ ps.toList qs _ out _ hp ha hA hAll ho
 have hlen:out.length=len*i.size:=by
  have key:∀(l:List (Nat×Nat×AV)) (c o:List AV),H8 l c=some o→o.length=c.length:=by
   intro l
   induction l with
   |nil=>intro c o e;simp only[H8,Option.some.injEq] at e;rw[e]
   |cons q l ih=>
    obtain⟨off,size,v⟩:=q
    intro c o e
    simp only[H8] at e
    obtain⟨cs,_,e⟩:=d9 e
    obtain⟨hb,e⟩:=l4 e
    simp only[Bool.and_eq_true] at hb
    have b1:=Nat.eq_of_beq_eq_true hb.1
    have b2:=Nat.le_of_ble_eq_true hb.2
    rw[ih _ _ e];simp;omega
  rw[key _ _ _ ho,a1g];simp[hsz]
 have hnew:=h.newList e out outv.toList outv [] true 0 h2 h3 (fun i _=>by simp) (by simp) (fun _=>rfl) (fun q=>by cases q) (len*i.size) hlen.symm
 refine⟨_,_,_,?_,b3A,hnew.2,hnew.1⟩
 have h24:¬(16777216<len*i.size):=by omega
 by_cases h0:len*i.size=0
 ·have hr0:∀f:Nat→Value,Array.map f (Array.range 0)= #[] :=fun f=>by rw[Array.range_zero'];simp
  have h1':Instr.fill (fun k=>some (k*i.size,i.size)) #[] (List.map (fun q=>(q.fst,a q.snd)) ps.toList)=some outv:=by rw[h0,hr0] at h1;exact h1
  simp[Instr.buildSlice,run_underlying hu,sizeOf,typeInfo,zeroValue,hi,h0,hr0,h1',newRow]
 ·simp[Instr.buildSlice,run_underlying hu,sizeOf,typeInfo,zeroValue,hi,hz',h0,h24,h1,newRow]
theorem Addr.add_mk(b o n:Nat):(⟨b,o,none⟩:Addr).add n=⟨b,o+n,none⟩:=by unfold Addr.add;split<;>simp_all
theorem f9u(h:Sim P w0 ρ m w){t:Nat}{x:RO}{fr:Fr}{v:Value}(ht:A8 P t=some false)(hv:d6 ρ (ev x fr)=some v):Val P w0 (Instr.loadAt t v) ρ w (a0a x fr m):=by
 intro y m' hr
 obtain⟨b,off,hx,hr⟩:=K4 hr
 obtain⟨z,hz,hr⟩:=d9 hr
 cases hr
 rw[hx] at hv
 obtain⟨r,hr1,rfl⟩:=E5 hv
 obtain⟨r',u,hr2,q1,_,q2⟩:=h.rd hz
 rw[hr1] at hr2;cases hr2
 exact⟨ρ,u,w,by simp[Instr.loadAt,Instr.sureAddr,loadVar,X3 ht,q2],q1,Ren.le_refl ρ,h⟩
theorem f7I(h:Sim P w0 ρ m w){t n:Nat}{x:RO}{fr:Fr}{v:Value}(ht:A8 P t=some true)(hs:tsize P t=some n)(hv:d6 ρ (ev x fr)=some v):Val P w0 (Instr.loadAt t v) ρ w (Y8 n x fr m):=by
 intro y m' hr
 obtain⟨b,off,hx,hr⟩:=K4 hr
 obtain⟨l,hl,hr⟩:=d9 hr
 cases hr
 rw[hx] at hv
 obtain⟨r,hr1,rfl⟩:=E5 hv
 obtain⟨r',us,hr2,q1,q2,q3,q4⟩:=h.rdN hl
 rw[hr1] at hr2;cases hr2
 have hload:=run_loadCells_list (P:=P) w ⟨r.blk,r.sh+off,none⟩ us (fun j u hj=>by rw[Addr.add_mk];exact q4 j u hj)
 rw[q2] at hload
 exact⟨ρ,.agg us.toArray,w,by simp[Instr.loadAt,Instr.sureAddr,loadVar,X3 ht,H6 hs,hload],by simp only[d6,q1,Option.bind_some,q3,if_true],Ren.le_refl ρ,h⟩
theorem f7B(h:Sim P w0 ρ m w){t n:Nat}{a x:RO}{fr:Fr}{va vx:Value}(hs:tsize P t=some n)(ha:d6 ρ (ev a fr)=some va)(hv:d6 ρ (ev x fr)=some vx){y:AV}{m':M}(hr:e1d n a x fr m=some (y,m')):
  y= .undef∧∃w',(Instr.storeAt t va vx).run P w= .ok () w'∧Sim P w0 ρ m' w':=by
 obtain⟨b,off,hx,hr⟩:=K4 hr
 obtain⟨cs,hcs,hr⟩:=d9 hr
 obtain⟨hb,hr⟩:=l4 hr
 obtain⟨m2,hm,hr⟩:=d9 hr
 cases hr
 refine⟨rfl,?_⟩
 rw[hx] at ha
 obtain⟨r,hr1,rfl⟩:=E5 ha
 obtain⟨q1,q2⟩:=a8V hv hcs
 obtain⟨r',w',hr2,p1,p2⟩:=h.wr hm q1 q2
 rw[hr1] at hr2;cases hr2
 have hlen:=I0 q1
 have hb:=Nat.eq_of_beq_eq_true hb
 simp only[Array.length_toList] at hlen
 have hsz:¬(vx.cells.size≠n):=by omega
 exact⟨w',by simp[Instr.storeAt,Instr.sureAddr,storeVar,H6 hs,hsz,p1],p2⟩
theorem g4y(h:Sim P w0 ρ m w){t i n:Nat}{fd:Field}{x:RO}{fr:Fr}{v:Value}(hf:Z4 P t i=some fd)(hn:tsize P fd.type=some n)(h0:Nat.beq n 0=false)(hv:d6 ρ (ev x fr)=some v):Val P w0 (Instr.fieldAt t v i) ρ w (rFa fd.offset x fr m):=by
 intro y m' hr
 obtain⟨b,off,hx,hr⟩:=K4 hr
 rw[z7] at hr
 cases hr
 rw[hx] at hv
 obtain⟨r,hr1,rfl⟩:=E5 hv
 unfold Z4 at hf
 split at hf
 ·rename_i fs hu
  have h0:n≠0:=fun e=>by subst e;simp at h0
  refine⟨ρ,_,w,?_,a0N hr1,Ren.le_refl ρ,h⟩
  simp[Instr.fieldAt,run_underlying hu,hf,Instr.sureAddr,fieldPlace,H6 hn,h0,Addr.add_mk,Nat.add_assoc]
 ·cases hf
theorem a9A{ρ:Ren}{x:AV}{k:Nat}{v:Value}(h:a1S x=some k)(hv:d6 ρ x=some v):∃q,v= .int q (k:Int):=by
 unfold a1S at h
 by_cases hn:∃a,x= .n a
 ·obtain⟨a,rfl⟩:=hn
  cases h
  rw[F3] at hv
  cases hv
  exact⟨_,rfl⟩
 ·have h2:(match toI x with|some (_,.ofNat a)=>some a|_=>none)=some k:=by
   cases x<;>first|exact absurd ⟨_,rfl⟩ hn|exact h
  split at h2
  ·rename_i q a hq
   cases h2
   exact⟨q,G1 hq hv⟩
  ·cases h2
theorem g1b(h:Sim P w0 ρ m w){t e size:Nat}{x i:RO}{fr:Fr}{v vi:Value}(hu:P.underlying t=some (.slice e))(hs:tsize P e=some size)(hv:d6 ρ (ev x fr)=some v)(hi:d6 ρ (ev i fr)=some vi):Val P w0 (Instr.indexAt t v vi) ρ w (a2i size x i fr m):=by
 intro y m' hr
 obtain⟨b,off,len,cap,lim,hx,hr⟩:=b8q hr
 obtain⟨k,hk,hr⟩:=d9 hr
 obtain⟨hb,hr⟩:=l4 hr
 rw[z7] at hr
 cases hr
 rw[hx] at hv
 obtain⟨q,rfl⟩:=a9A hk hi
 obtain⟨r,hr1,rfl⟩:=G2 hv
 have hb:k+1≤len:=Nat.le_of_ble_eq_true hb
 have hlt:k<len:=by omega
 refine⟨ρ,_,w,?_,a0N hr1,Ren.le_refl ρ,h⟩
 simp[Instr.indexAt,run_underlying hu,asIntOf,hlt,H6 hs,Addr.add_mk,Nat.add_assoc]
theorem g1W(h:Sim P w0 ρ m w){t e len size:Nat}{x i:RO}{fr:Fr}{v vi:Value}(hu:P.underlying t=some (.array len e))(hs:tsize P e=some size)(hv:d6 ρ (ev x fr)=some v)(hi:d6 ρ (ev i fr)=some vi):Val P w0 (Instr.indexAt t v vi) ρ w (a2j len size x i fr m):=by
 intro y m' hr
 obtain⟨b,off,hx,hr⟩:=K4 hr
 obtain⟨k,hk,hr⟩:=d9 hr
 obtain⟨hb,hr⟩:=l4 hr
 rw[z7] at hr
 cases hr
 rw[hx] at hv
 obtain⟨q,rfl⟩:=a9A hk hi
 obtain⟨r,hr1,rfl⟩:=E5 hv
 have hb:k+1≤len:=Nat.le_of_ble_eq_true hb
 have hlt:k<len:=by omega
 refine⟨ρ,_,w,?_,a0N hr1,Ren.le_refl ρ,h⟩
 simp[Instr.indexAt,run_underlying hu,asIntOf,hlt,H6 hs,Addr.add_mk,Nat.add_assoc,Instr.sureAddr]
theorem g03(h:Sim P w0 ρ m w){t i:Nat}{fd:Field}{x:RO}{fr:Fr}{v:Value}(hf:Z4 P t i=some fd)(ha:A8 P fd.type=some false)(hv:d6 ρ (ev x fr)=some v):Val P w0 (Instr.field t v i) ρ w (a7O fd.offset x fr m):=by
 intro y m' hr
 obtain⟨cs,hx,hr⟩:=a4I hr
 obtain⟨z,hz,hr⟩:=d9 hr
 cases hr
 rw[hx] at hv
 simp only[d6,Option.bind_eq_some_iff] at hv
 obtain⟨vs,hvs,hv⟩:=hv
 split at hv
 ·cases hv
  unfold Z4 at hf
  split at hf
  ·rename_i fs hu
   obtain⟨u,q1,q2⟩:=S9 hvs _ _ hz
   exact⟨ρ,u,w,by simp[Instr.field,run_underlying hu,hf,asAgg,part,X3 ha,q1],q2,Ren.le_refl ρ,h⟩
  ·cases hf
 ·cases hv
theorem f8K(h:Sim P w0 ρ m w){t i n:Nat}{fd:Field}{x:RO}{fr:Fr}{v:Value}(hf:Z4 P t i=some fd)(ha:A8 P fd.type=some true)(hn:tsize P fd.type=some n)(hv:d6 ρ (ev x fr)=some v):Val P w0 (Instr.field t v i) ρ w (a61 fd.offset n x fr m):=by
 intro y m' hr
 obtain⟨cs,hx,hr⟩:=a4I hr
 cases hr
 rw[hx] at hv
 simp only[d6,Option.bind_eq_some_iff] at hv
 obtain⟨vs,hvs,hv⟩:=hv
 split at hv
 ·rename_i hall
  cases hv
  unfold Z4 at hf
  split at hf
  ·rename_i fs hu
   refine⟨ρ,.agg ((vs.drop fd.offset).take n).toArray,w,?_,?_,Ren.le_refl ρ,h⟩
   ·simp only[Instr.field,Sem.run_bind,run_underlying hu,Result.andThen_ok,hf,asAgg,part,X3 ha,H6 hn,Sem.run_pure,if_true]
    congr 2
    apply Array.ext'
    simp[List.extract_eq_take_drop,Nat.add_sub_cancel_left]
   ·simp only[d6,a88 n (a86 fd.offset hvs),Option.bind_some]
    rw[if_pos]
    rw[List.all_eq_true] at hall⊢
    exact fun u hu=>hall u (List.mem_of_mem_drop (List.mem_of_mem_take hu))
  ·cases hf
 ·cases hv
theorem g0z(h:Sim P w0 ρ m w){t:Nat}{x i:RO}{fr:Fr}{v vi:Value}(hu:P.underlying t=some .string)(hv:d6 ρ (ev x fr)=some v)(hi:d6 ρ (ev i fr)=some vi):Val P w0 (Instr.index t v vi) ρ w (W6 x i fr m):=by
 intro y m' hr
 obtain⟨k,hk,hr⟩:=d9 hr
 obtain⟨s,hs,hr⟩:=d9 hr
 obtain⟨c,hc,hr⟩:=d9 hr
 cases hr
 have:=J5 hs hv;subst this
 obtain⟨q,rfl⟩:=a9A hk hi
 have hc':s[k]? =some c:=by
  have hlt:k<s.data.size:=by simpa using(List.getElem?_eq_some_iff.1 hc).1
  have hcc:s.data[k] =c:=by simpa using(List.getElem?_eq_some_iff.1 hc).2
  rw[getElem?_pos s k hlt]
  exact congrArg some hcc
 refine⟨ρ,.int .u8 (c.toNat:Int),w,?_,U6 _,Ren.le_refl ρ,h⟩
 simp[Instr.index,run_underlying hu,asIntOf,hc']
theorem g0m(h:Sim P w0 ρ m w){i:Nat}{x:RO}{fr:Fr}{v:Value}(hv:d6 ρ (ev x fr)=some v):Val P w0 (Instr.extract v i) ρ w (a7P i x fr m):=by
 intro y m' hr
 obtain⟨cs,hx,hr⟩:=f6K hr
 obtain⟨z,hz,hr⟩:=d9 hr
 cases hr
 rw[hx] at hv
 simp only[d6,Option.map_eq_some_iff] at hv
 obtain⟨vs,hvs,rfl⟩:=hv
 obtain⟨u,q1,q2⟩:=S9 hvs _ _ hz
 exact⟨ρ,u,w,by simp[Instr.extract,q1],q2,Ren.le_refl ρ,h⟩
end
end Go.Am
