import Derived.Test.YtooooiidpaecmaaGreatDoorAmY
/- The abstract machine: memory and operations, where values are not known. -/
namespace Go.Am
open Go Go.RowKit
def Wf(m:M):Prop:=∀b,m.next≤b→m.get b=none
structure AtR(m:M)(b:Nat)(l:List AV):Prop where
 row:∃c,m.get b=some (.cells c)∧c.n=l.length∧c.mv=none∧∀i v,l[i]? =some v→c.rd i=v
structure At(m:M)(b:Nat)(e:TypeId)(xt:Bool)(l:List AV):Prop where
 row:∃c,m.get b=some (.cells c)∧c.elem=e∧c.n=l.length∧c.mv=none∧c.ro=false∧c.exact=xt∧∀i v,l[i]? =some v→c.rd i=v
theorem At.r{m:M}{b:Nat}{e:TypeId}{xt:Bool}{l:List AV}(h:At m b e xt l):AtR m b l:=by
 obtain⟨c,h1,_,h3,h4,_,_,h7⟩:=h.row
 exact⟨c,h1,h3,h4,h7⟩
theorem At.lt{m:M}{b:Nat}{e:TypeId}{xt:Bool}{l:List AV}(h:At m b e xt l)(hw:Wf m):b<m.next:=by
 obtain⟨c,h1,_⟩:=h.row
 rcases Nat.lt_or_ge b m.next with k|k
 ·exact k
 ·rw[hw b k] at h1;cases h1
theorem At.of_get{m m':M}{b:Nat}{e:TypeId}{xt:Bool}{l:List AV}(h:At m b e xt l)(hg:m'.get b=m.get b):At m' b e xt l:=by
 obtain⟨c,h1,h2⟩:=h.row
 exact⟨c,hg.trans h1,h2⟩
theorem AtR.of_get{m m':M}{b:Nat}{l:List AV}(h:AtR m b l)(hg:m'.get b=m.get b):AtR m' b l:=by
 obtain⟨c,h1,h2⟩:=h.row
 exact⟨c,hg.trans h1,h2⟩
theorem b7p{m:M}{c:Cel}(h:c.mv=none):m.readable c=true:=by unfold M.readable;rw[h]
theorem AtR.rd{m:M}{b:Nat}{l:List AV}(h:AtR m b l)(i:Nat):m.rd b i=l[i]? :=by
 obtain⟨c,h1,h2,h3,h4⟩:=h.row
 unfold M.rd
 rw[M.cel_some.2 h1]
 show bc (Nat.ble (Nat.succ i) c.n&&m.readable c) (some (c.rd i)) none=_
 rw[b7p h3,A1,h2]
 by_cases hi:i<l.length
 ·rw[decide_eq_true (by omega)]
  have e:l[i]? =some l[i] :=List.getElem?_eq_getElem hi
  rw[e,h4 i _ e];rfl
 ·rw[decide_eq_false (by omega),List.getElem?_eq_none (by omega)];rfl
theorem AtR.rdN{m:M}{b:Nat}{l:List AV}(h:AtR m b l){i n:Nat}(hi:i+n≤l.length):m.rdN b i n=some ((l.drop i).take n):=by
 obtain⟨c,h1,h2,h3,h4⟩:=h.row
 unfold M.rdN
 rw[M.cel_some.2 h1]
 show bc (Nat.ble (Nat.add i n) c.n&&m.readable c) (some (rdL c n i)) none=_
 rw[b7p h3,A1,h2,decide_eq_true (show Nat.add i n≤l.length from hi)]
 show some (rdL c n i)=_
 congr 1
 apply List.ext_getElem?
 intro j
 by_cases hj:j<n
 ·rw[b0K c n i j hj,List.getElem?_take,if_pos hj,List.getElem?_drop]
  have hl:i+j<l.length:=by omega
  have e:l[i+j]? =some l[i+j] :=List.getElem?_eq_getElem hl
  rw[e,h4 _ _ e]
 ·rw[List.getElem?_eq_none (by rw[b8l];omega),List.getElem?_eq_none (by simp;omega)]
theorem At.rd{m:M}{b:Nat}{e:TypeId}{xt:Bool}{l:List AV}(h:At m b e xt l)(i:Nat):m.rd b i=l[i]? :=h.r.rd i
theorem At.rdN{m:M}{b:Nat}{e:TypeId}{xt:Bool}{l:List AV}(h:At m b e xt l){i n:Nat}(hi:i+n≤l.length):m.rdN b i n=some ((l.drop i).take n):=h.r.rdN hi
noncomputable def M.upd(m:M)(b i:Nat)(vs:List AV):M:=match m.cel b with
 |some c=>m.put b (.cells ⟨c.elem,c.n,v8 vs i c.cs,c.zero,none,true,c.exact,c.ro⟩)
 |none=>m
def z6(l:List AV)(i:Nat)(vs:List AV):List AV:=l.take i++(vs++l.drop (i+vs.length))
theorem M.next_upd(m:M)(b i:Nat)(vs:List AV):(m.upd b i vs).next=m.next:=by unfold M.upd;split<;>rfl
theorem M.get_upd_ne{m:M}{b b' i:Nat}{vs:List AV}(h:b'≠b):(m.upd b i vs).get b'=m.get b':=by
 unfold M.upd
 split
 ·rw[M.get_put,if_neg h]
 ·rfl
theorem Wf.upd{m:M}(h:Wf m){b i:Nat}{vs:List AV}:Wf (m.upd b i vs):=by
 intro b' hb
 rw[M.next_upd] at hb
 by_cases he:b'=b
 ·subst he
  unfold M.upd
  have:m.cel b'=none:=by unfold M.cel;rw[h b' hb];rfl
  rw[this];exact h b' hb
 ·rw[M.get_upd_ne he];exact h b' hb
theorem At.wr{m:M}{b:Nat}{e:TypeId}{xt:Bool}{l:List AV}(h:At m b e xt l){i:Nat}{vs:List AV}(hi:i+vs.length≤l.length):m.wr b i vs=some (m.upd b i vs):=by
 obtain⟨c,h1,h2,h3,h4,h5,h6,h7⟩:=h.row
 unfold M.wr M.upd
 rw[M.cel_some.2 h1]
 show bc (Nat.ble (Nat.add i vs.length) c.n&&(c.mv.isNone&& !c.ro)) _ none=_
 have e1:(Nat.ble (Nat.add i vs.length) c.n&&(c.mv.isNone&& !c.ro))=true:=by
  rw[A1,h3,h4,h5,decide_eq_true (show Nat.add i vs.length≤l.length from hi)];rfl
 rw[e1]
 rfl
theorem At.upd{m:M}{b:Nat}{e:TypeId}{xt:Bool}{l:List AV}(h:At m b e xt l){i:Nat}{vs:List AV}(hi:i+vs.length≤l.length):At (m.upd b i vs) b e xt (z6 l i vs):=by
 obtain⟨c,h1,h2,h3,h4,h5,h6,h7⟩:=h.row
 unfold M.upd
 rw[M.cel_some.2 h1]
 have hlen:(z6 l i vs).length=l.length:=by unfold z6;simp;omega
 refine⟨⟨c.elem,c.n,v8 vs i c.cs,c.zero,none,true,c.exact,c.ro⟩,by rw[M.get_put,if_pos rfl],h2,by rw[hlen];exact h3,rfl,h5,h6,fun j v hv=> ?_⟩
 rw[a2L c vs i j ⟨c.elem,c.n,v8 vs i c.cs,c.zero,none,true,c.exact,c.ro⟩ rfl rfl]
 have hj:j<l.length:=by rw[←hlen];exact(List.getElem?_eq_some_iff.1 hv).1
 unfold z6 at hv
 by_cases hc:i≤j∧j<i+vs.length
 ·rw[if_pos hc]
  rw[List.getElem?_append_right (by simp;omega),List.getElem?_append_left (by simp;omega)] at hv
  rw[show j-(List.take i l).length=j-i by simp;omega] at hv
  rw[hv];rfl
 ·rw[if_neg hc]
  apply h7
  by_cases hji:j<i
  ·rw[List.getElem?_append_left (by simp;omega),List.getElem?_take,if_pos hji] at hv
   exact hv
  ·rw[List.getElem?_append_right (by simp;omega),List.getElem?_append_right (by simp;omega),List.getElem?_drop] at hv
   rw[←hv]
   congr 1
   simp;omega
noncomputable def M.addZ(m:M)(e n:Nat)(z:List AV):M:=m.new (.cells ⟨e,n,.leaf,z,none,false,true,false⟩)
noncomputable def M.addL(m:M)(e n:Nat)(l:List AV):M:=m.new (.cells ⟨e,n,v8 l (nat_lit 0) .leaf,[],none,false,true,false⟩)
theorem Wf.new{m:M}(h:Wf m){B:Blk}:Wf (m.new B):=by
 intro b hb
 rw[M.next_new] at hb
 rw[M.get_new,if_neg (by omega)]
 exact h b (by omega)
theorem M.get_new_ne{m:M}{B:Blk}{b:Nat}(h:b≠m.next):(m.new B).get b=m.get b:=by rw[M.get_new,if_neg h]
theorem M.get_addZ_ne{m:M}{e n:Nat}{z:List AV}{b:Nat}(h:b≠m.next):(m.addZ e n z).get b=m.get b:=M.get_new_ne h
theorem M.get_addL_ne{m:M}{e n:Nat}{z:List AV}{b:Nat}(h:b≠m.next):(m.addL e n z).get b=m.get b:=M.get_new_ne h
theorem M.next_addZ(m:M)(e n:Nat)(z:List AV):(m.addZ e n z).next=m.next+1:=M.next_new _ _
theorem M.next_addL(m:M)(e n:Nat)(z:List AV):(m.addL e n z).next=m.next+1:=M.next_new _ _
theorem Wf.addZ{m:M}(h:Wf m){e n:Nat}{z:List AV}:Wf (m.addZ e n z):=h.new
theorem Wf.addL{m:M}(h:Wf m){e n:Nat}{z:List AV}:Wf (m.addL e n z):=h.new
theorem f66{z:List AV}{i:Nat}{v:AV}(h:z[i]? =some v):U3 z i=v:=by
 have hi:=(List.getElem?_eq_some_iff.1 h).1
 match z,hi with
 | [x],hi=>
  have:i=0:=by simpa using hi
  subst this
  show x=v
  simpa using h
 |x::y::z,hi=>
  show(x::y::z).getD (i % (x::y::z).length) AV.undef=v
  rw[Nat.mod_eq_of_lt hi,List.getD_eq_getElem?_getD,h];rfl
theorem At.addZ{m:M}{e n:Nat}{z:List AV}(hn:n=z.length):At (m.addZ e n z) m.next e true z:=by
 refine⟨_,by unfold M.addZ;rw[M.get_new,if_pos rfl],rfl,hn,rfl,rfl,rfl,fun i v hv=> ?_⟩
 rw[V3,X2]
 exact f66 hv
theorem At.addL{m:M}{e n:Nat}{l:List AV}(hn:n=l.length):At (m.addL e n l) m.next e true l:=by
 refine⟨_,by unfold M.addL;rw[M.get_new,if_pos rfl],rfl,hn,rfl,rfl,rfl,fun i v hv=> ?_⟩
 have hi:=(List.getElem?_eq_some_iff.1 hv).1
 rw[V3,T4,if_pos ⟨Nat.zero_le _,by omega⟩,Nat.sub_zero,hv];rfl
structure Keep(m m':M)(F:Nat→Prop):Prop where
 next:m.next≤m'.next
 wf:Wf m'
 get:∀b,b<m.next→¬F b→m'.get b=m.get b
theorem Keep.refl{m:M}(h:Wf m)(F:Nat→Prop):Keep m m F:=⟨Nat.le_refl _,h,fun _ _ _=>rfl⟩
theorem Keep.trans{m m' m'':M}{F G:Nat→Prop}(h:Keep m m' F)(k:Keep m' m'' G)(hg:∀b,b<m.next→G b→F b):Keep m m'' F:=
 ⟨Nat.le_trans h.next k.next,k.wf,fun b hb hf=>(k.get b (Nat.lt_of_lt_of_le hb h.next) (fun hx=>hf (hg b hb hx))).trans (h.get b hb hf)⟩
theorem Keep.mono{m m':M}{F G:Nat→Prop}(h:Keep m m' F)(hg:∀b,b<m.next→F b→G b):Keep m m' G:=⟨h.next,h.wf,fun b hb hf=>h.get b hb (fun hx=>hf (hg b hb hx))⟩
theorem Keep.upd{m:M}(hw:Wf m){b i:Nat}{vs:List AV}{F:Nat→Prop}(hb:b<m.next→F b):Keep m (m.upd b i vs) F:=
 ⟨by rw[M.next_upd];exact Nat.le_refl _,hw.upd,fun b' hb' hf=>M.get_upd_ne (fun e=>hf (by subst e;exact hb hb'))⟩
theorem Keep.addZ{m:M}(hw:Wf m){e n:Nat}{z:List AV}{F:Nat→Prop}:Keep m (m.addZ e n z) F:=
 ⟨by rw[M.next_addZ];omega,hw.addZ,fun b hb _=>M.get_addZ_ne (by omega)⟩
theorem Keep.addL{m:M}(hw:Wf m){e n:Nat}{z:List AV}{F:Nat→Prop}:Keep m (m.addL e n z) F:=
 ⟨by rw[M.next_addL];omega,hw.addL,fun b hb _=>M.get_addL_ne (by omega)⟩
theorem At.keep{m m':M}{b:Nat}{e:TypeId}{xt:Bool}{l:List AV}{F:Nat→Prop}(h:At m b e xt l)(hw:Wf m)(k:Keep m m' F)(hf:¬F b):At m' b e xt l:=h.of_get (k.get b (h.lt hw) hf)
theorem AtR.lt{m:M}{b:Nat}{l:List AV}(h:AtR m b l)(hw:Wf m):b<m.next:=by
 obtain⟨c,h1,_⟩:=h.row
 rcases Nat.lt_or_ge b m.next with k|k
 ·exact k
 ·rw[hw b k] at h1;cases h1
theorem AtR.keep{m m':M}{b:Nat}{l:List AV}{F:Nat→Prop}(h:AtR m b l)(hw:Wf m)(k:Keep m m' F)(hf:¬F b):AtR m' b l:=h.of_get (k.get b (h.lt hw) hf)
inductive SlAt(m:M)(e sz:Nat):AV→Nat→List AV→Option Nat→Prop where
 |nil:SlAt m e sz j7 0 [] none
 |row {b len cap:Nat} {cells junk:List AV} {xt:Bool} (h:At m b e xt (cells++junk)) (hl:cells.length=len*sz) (hj:junk.length=(cap-len)*sz) (hc:len≤cap) (h0:0<cap):SlAt m e sz (.slice b 0 len cap false) len cells (some b)
theorem SlAt.of_get{m m':M}{e sz:Nat}{x:AV}{len:Nat}{cells:List AV}{o:Option Nat}(h:SlAt m e sz x len cells o)(hg:∀b,o=some b→m'.get b=m.get b):SlAt m' e sz x len cells o:=by
 cases h with
 |nil=>exact .nil
 |row h hl hj hc h0=>exact .row (h.of_get (hg _ rfl)) hl hj hc h0
theorem SlAt.blk_lt{m:M}{e sz:Nat}{x:AV}{len:Nat}{cells:List AV}{o:Option Nat}(h:SlAt m e sz x len cells o)(hw:Wf m){b:Nat}(hb:o=some b):b<m.next:=by
 cases h with
 |nil=>cases hb
 |row h=>cases hb;exact h.lt hw
theorem SlAt.keep{m m':M}{e sz:Nat}{x:AV}{len:Nat}{cells:List AV}{o:Option Nat}{F:Nat→Prop}(h:SlAt m e sz x len cells o)(hw:Wf m)(k:Keep m m' F)(hf:∀b,o=some b→¬F b):SlAt m' e sz x len cells o:=
 h.of_get fun b hb=>k.get b (h.blk_lt hw hb) (hf b hb)
theorem SlAt.count{m:M}{e sz:Nat}{x:AV}{len:Nat}{cells:List AV}{o:Option Nat}(h:SlAt m e sz x len cells o):cells.length=len*sz:=by
 cases h with
 |nil=>simp
 |row _ hl=>exact hl
theorem SlAt.len{m:M}{e sz:Nat}{x:AV}{len:Nat}{cells:List AV}{o:Option Nat}(h:SlAt m e sz x len cells o):E4 false x=some len:=by cases h<;>rfl
theorem SlAt.lenA{m:M}{e sz:Nat}{x:AV}{len:Nat}{cells:List AV}{o:Option Nat}(h:SlAt m e sz x len cells o):lenA x=some len:=by cases h<;>rfl
def Rds(m:M)(y:AV)(sz k:Nat)(new:List AV):Prop:=lenA y=some k∧G8 m sz k y=some new∧new.length=k*sz
theorem a9h{m:M}{b off len cap sz n:Nat}{lim:Bool}{new:List AV}(h:m.rdN b off (n*sz)=some new)(hz:n=0→new= []):G8 m sz n (.slice b off len cap lim)=some new:=by
 show bc (Nat.beq n 0) (some []) (m.rdN b off (Nat.mul n sz))=_
 by_cases h0:n=0
 ·rw[hz h0];subst h0;rfl
 ·rw[show Nat.beq n 0=false from by rw[←Bool.not_eq_true];exact fun e=>h0 (Nat.eq_of_beq_eq_true e),u7];exact h
theorem SlAt.src{m:M}{e sz:Nat}{x:AV}{len:Nat}{cells:List AV}{o:Option Nat}(h:SlAt m e sz x len cells o):Rds m x sz len cells:=by
 refine⟨h.lenA,?_,h.count⟩
 cases h with
 |nil=>rfl
 |row h hl hj hc h0=>
  refine a9h (by rw[h.rdN (by simp;omega)];simp[hl.symm]) fun e=> ?_
  subst e
  rw[Nat.zero_mul] at hl
  exact List.length_eq_zero_iff.1 hl
theorem O4{k:Nat}{d top:Nat}(h:k≤top):bnd (some (iv (k:Int))) d top=some k:=by
 show bc (Nat.ble k top) (some k) none=some k
 rw[A1,decide_eq_true h];rfl
theorem a2A(d top:Nat):bnd none d top=some d:=rfl
noncomputable def a5G(x:AV)(k:Nat):AV:=elSl x (fun b off _ cap lim=> .slice b off k cap lim) x
theorem SlAt.take{m:M}{e sz:Nat}{x:AV}{len:Nat}{cells:List AV}{o:Option Nat}(h:SlAt m e sz x len cells o){k:Nat}(hk:k≤len):SlAt m e sz (a5G x k) k (cells.take (k*sz)) o:=by
 cases h with
 |nil=>
  have:k=0:=by omega
  subst this
  show SlAt m e sz j7 0 _ none
  rw[Nat.zero_mul]
  exact .nil
 | @row b len cap cells junk xt h hl hj hc h0=>
  have hle:k*sz≤len*sz:=Nat.mul_le_mul_right sz hk
  refine .row (junk:=cells.drop (k*sz)++junk) (by rw[←List.append_assoc,List.take_append_drop];exact h) (by simp;omega) ?_ (by omega) h0
  simp only[List.length_append,List.length_drop,hl,hj,Nat.sub_mul]
  have:=Nat.mul_le_mul_right sz hc
  omega
theorem a3m(sz b off len cap:Nat)(lim:Bool)(lo hi:Option RO)(m:M):rSl sz false (.cst (.slice b off len cap lim)) lo hi none .leaf m=
  ob (bnd (evo hi .leaf) len cap) fun h=>ob (bnd (evo lo .leaf) 0 h) fun l=>bc (Nat.ble h cap) (
   bc (Nat.beq cap l&& !Nat.beq l 0) (fc (Nat.mul l sz) fun adv=>slEnd m b off adv (lim||false))
   (fc (Nat.add off (Nat.mul l sz)) fun o=>fc (Nat.sub h l) fun n=>fc (Nat.sub cap l) fun k=>some (.slice b o n k (lim||false),m))) none:=rfl
theorem P4(x:RO)(fr:Fr):evo (some x) fr=some (ev x fr):=rfl
theorem a1l(fr:Fr):evo none fr=none:=rfl
theorem J4{α β:Type}(a:α)(k:α→Option β):ob (some a) k=k a:=rfl
theorem SlAt.run_take{m:M}{e sz:Nat}{x:AV}{len:Nat}{cells:List AV}{o:Option Nat}(h:SlAt m e sz x len cells o){k:Nat}(hk:k≤len)(m':M):rSl sz false (.cst x) none (some (.cst (iv (k:Int)))) none .leaf m'=some (a5G x k,m'):=by
 cases h with
 |nil=>
  have:k=0:=by omega
  subst this
  rfl
 | @row b len cap cells junk xt h hl hj hc h0=>
  rw[a3m,P4,Q0,O4 (show k≤cap by omega),J4,a1l,a2A,J4,A1,decide_eq_true (show k≤cap by omega)]
  simp only[l9,Nat.beq_refl,Bool.not_true,Bool.and_false,u7,z7]
  show some (AV.slice b (0+0*sz) (k-0) (cap-0) (false||false),m')=_
  simp[a5G,elSl]
theorem SlAt.run_drop{m:M}{e sz:Nat}{x:AV}{len:Nat}{cells:List AV}{o:Option Nat}(h:SlAt m e sz x len cells o){k:Nat}(hk:k≤len):
  ∃y,∀m',(∀b,o=some b→m'.get b=m.get b)→rSl sz false (.cst x) (some (.cst (iv (k:Int)))) none none .leaf m'=some (y,m')∧Rds m' y sz (len-k) (cells.drop (k*sz))∧v6 40 y y=true:=by
 cases h with
 |nil=>
  have:k=0:=by omega
  subst this
  exact⟨j7,fun m' _=>⟨rfl,⟨rfl,by rw[List.drop_nil];rfl,by simp⟩,rfl⟩⟩
 | @row b len cap cells junk xt h hl hj hc h0=>
  have hle:k*sz≤len*sz:=Nat.mul_le_mul_right sz hk
  have e0:∀m',rSl sz false (.cst (.slice b 0 len cap false)) (some (.cst (iv (k:Int)))) none none .leaf m'=
    bc (Nat.beq cap k&& !Nat.beq k 0) (slEnd m' b 0 (k*sz) false) (some (.slice b (k*sz) (len-k) (cap-k) false,m')):=by
   intro m'
   rw[a3m,a1l,a2A,J4,P4,Q0,O4 hk,J4,A1,decide_eq_true hc]
   simp only[l9,z7,Bool.or_self]
   rw[show Nat.add 0 (Nat.mul k sz)=k*sz from Nat.zero_add _]
   rfl
  by_cases hck:cap=k∧k≠0
  ·obtain⟨rfl,hk0⟩:=hck
   have hlc:len=cap:=by omega
   subst hlc
   obtain⟨c,c1,c2,c3,c4,c5,c6,c7⟩:=h.row
   have e1:∀m':M,m'.get b=m.get b→slEnd m' b 0 (len*sz) false=bc c.exact (some (.slice b 0 0 0 false,m')) (some (.sliceE b 0 (len*sz),m')):=by
    intro m' hg
    unfold slEnd
    rw[M.cel_some.2 (hg.trans c1)]
    show bc c.mv.isNone _ none=_
    rw[c4];rfl
   have hd:cells.drop (len*sz)= [] :=List.drop_of_length_le (by omega)
   cases hx:c.exact with
   |true=>
    refine⟨.slice b 0 0 0 false,fun m' hg=>⟨?_,⟨by rw[Nat.sub_self];rfl,?_,by rw[hd,Nat.sub_self];simp⟩,by simp[v6,Nat.beq_refl]⟩⟩
    ·rw[e0,Nat.beq_refl,A4,decide_eq_false hk0,e1 m' (hg _ rfl),hx];rfl
    ·rw[hd,Nat.sub_self];rfl
   |false=>
    refine⟨.sliceE b 0 (len*sz),fun m' hg=>⟨?_,⟨by rw[Nat.sub_self];rfl,by rw[hd,Nat.sub_self];rfl,by rw[hd,Nat.sub_self];simp⟩,by simp[v6,Nat.beq_refl]⟩⟩
    rw[e0,Nat.beq_refl,A4,decide_eq_false hk0,e1 m' (hg _ rfl),hx];rfl
  ·refine⟨.slice b (k*sz) (len-k) (cap-k) false,fun m' hg=>⟨?_,⟨rfl,?_,by simp[hl,Nat.sub_mul]⟩,by simp[v6,Nat.beq_refl]⟩⟩
   ·rw[e0,A4,A4]
    have:(decide (cap=k)&& !decide (k=0))=false:=by
     by_cases h1:cap=k
     ·have:k=0:=by
       by_cases h2:k=0
       ·exact h2
       ·exact absurd ⟨h1,h2⟩ hck
      simp[this]
     ·simp[h1]
    rw[this];rfl
   ·refine a9h ?_ fun e=> ?_
    ·rw[(h.of_get (hg _ rfl)).rdN (by simp only[List.length_append,hl,hj,Nat.sub_mul];omega)]
     congr 1
     rw[List.drop_append_of_le_length (by omega),List.take_append_of_le_length (by simp[hl,Nat.sub_mul]),List.take_of_length_le (by simp[hl,Nat.sub_mul])]
    ·have:k=len:=by omega
     rw[this,List.drop_eq_nil_iff]
     omega
theorem a4K{m:M}{e sz:Nat}{z cs:List AV}{need:Nat}(hc:cs.length=need*sz)(h0:0<need)(hw:Wf m):
  ∃s' m',J0 e sz z m need cs=some (s',m')∧SlAt m' e sz s' need cs (some m.next)∧Keep m m' (fun _=>False)∧m'.next=m.next+1:=by
 unfold J0
 rw[z7]
 refine⟨_,_,rfl,.row (xt:=false) (junk:= []) ?_ hc (by simp) (Nat.le_refl _) h0,⟨by rw[M.next_new];omega,hw.new,fun b hb _=>M.get_new_ne (by omega)⟩,M.next_new _ _⟩
 refine⟨_,by rw[M.get_new,if_pos rfl],rfl,by simp[hc],rfl,rfl,rfl,fun i v hv=> ?_⟩
 rw[List.append_nil] at hv
 have hi:=(List.getElem?_eq_some_iff.1 hv).1
 rw[V3,T4,if_pos ⟨Nat.zero_le _,by omega⟩,Nat.sub_zero,hv];rfl
theorem f6m(e sz bytes:Nat)(z:List AV)(m:M)(b len cap k:Nat)(new:List AV):H7 e sz bytes z m (.slice b 0 len cap false) k new=
  fc (Nat.add len k) fun need=>
   bc (Nat.ble need cap) (bc (Nat.beq k 0) (some (.slice b 0 need cap false,m)) (fc (Nat.add 0 (Nat.mul len sz)) fun at'=>ob (m.wr b at' new) fun m=>some (.slice b 0 need cap false,m)))
   (bc (F9 need bytes) (ob (m.cel b) fun c=>ob (m.rdN b 0 (Nat.mul len sz)) fun old=>
    bc (false||(c.mv.isNone&&c.exact)) (J0 e sz z m need (old++new))
     (bc (c.mv.isNone&&(!c.ro&&(Nat.beq c.elem e&&(Nat.ble len cap&&Nat.beq (0+cap*sz) c.n))))
      (fc (Nat.add 0 (Nat.mul len sz)) fun n'=>N7 e sz z m b 0 n' need c old new) none)) none):=rfl
theorem a89(e sz bytes:Nat)(z:List AV)(m:M)(b len cap k:Nat)(new:List AV):H7 e sz bytes z m (.slice b 0 len cap false) k new=
   bc (Nat.ble (len+k) cap) (bc (Nat.beq k 0) (some (.slice b 0 (len+k) cap false,m)) (ob (m.wr b (len*sz) new) fun m=>some (.slice b 0 (len+k) cap false,m)))
    (bc (F9 (len+k) bytes) (ob (m.cel b) fun c=>ob (m.rdN b 0 (len*sz)) fun old=>
     bc (false||(c.mv.isNone&&c.exact)) (J0 e sz z m (len+k) (old++new))
      (bc (c.mv.isNone&&(!c.ro&&(Nat.beq c.elem e&&(Nat.ble len cap&&Nat.beq (0+cap*sz) c.n)))) (N7 e sz z m b 0 (len*sz) (len+k) c old new) none)) none):=by
 rw[f6m,z7]
 simp only[z7,Nat.add_eq,Nat.mul_eq,Nat.zero_add]
theorem SlAt.append{m:M}{e sz bytes:Nat}{z:List AV}{s:AV}{len:Nat}{cells:List AV}{o:Option Nat}(hs:SlAt m e sz s len cells o)(hw:Wf m){y:AV}{k:Nat}{new:List AV}(hy:Rds m y sz k new)(hroom:F9 (len+k) bytes=true):
  ∃s' m' o',M5 e sz bytes z (.cst s) (.cst y) .leaf m=some (s',m')∧SlAt m' e sz s' (len+k) (cells++new) o'∧Keep m m' (fun b=>o=some b)∧(o'=o∨∃b,o'=some b∧m.next≤b∧b<m'.next):=by
 obtain⟨hy1,hy2,hy3⟩:=hy
 have e0:M5 e sz bytes z (.cst s) (.cst y) .leaf m=H7 e sz bytes z m s k new:=by
  show(ob (Am.lenA y) fun k=>ob (G8 m sz k y) fun new=>H7 e sz bytes z m s k new)=_
  rw[hy1]
  show(ob (G8 m sz k y) fun new=>H7 e sz bytes z m s k new)=_
  rw[hy2];rfl
 rw[e0]
 cases hs with
 |nil=>
  by_cases hk:k=0
  ·subst hk
   have:new= [] :=by simpa using hy3
   subst this
   exact⟨j7,m,none,rfl,by simpa using SlAt.nil,Keep.refl hw _,.inl rfl⟩
  ·obtain⟨s',m',h1,h2,h3,h4⟩:=a4K (e:=e) (z:=z) hy3 (by omega) hw
   refine⟨s',m',some m.next,?_,by simpa using h2,h3.mono (fun _ _ h=>h.elim),.inr ⟨_,rfl,Nat.le_refl _,by omega⟩⟩
   show bc (Nat.beq k 0) (some (j7,m)) (bc (F9 k bytes) (J0 e sz z m k new) none)=_
   rw[A4,decide_eq_false hk,show F9 k bytes=true by simpa using hroom]
   exact h1
 | @row b len cap cells junk xt h hl hj hc h0=>
  obtain⟨c,c1,c2,c3,c4,c5,c6,c7⟩:=h.row
  have hle:=Nat.mul_le_mul_right sz hc
  have e1:=a89 e sz bytes z m b len cap k new
  rw[e1,A1]
  by_cases hfit:len+k≤cap
  ·rw[decide_eq_true hfit,l9,A4]
   have hfit2:=Nat.mul_le_mul_right sz hfit
   rw[Nat.add_mul] at hfit2
   by_cases hk:k=0
   ·subst hk
    have:new= [] :=by simpa using hy3
    subst this
    exact⟨_,m,some b,by rw[decide_eq_true rfl];rfl,by simpa using SlAt.row h hl hj hc h0,Keep.refl hw _,.inl rfl⟩
   ·rw[decide_eq_false hk,u7,h.wr (by rw[List.length_append,hl,hj,hy3,Nat.sub_mul];omega)]
    refine⟨_,_,some b,rfl,.row (xt:=xt) (junk:=junk.drop (k*sz)) ?_ (by simp[hl,hy3,Nat.add_mul]) ?_ hfit h0,Keep.upd hw (fun _=>rfl),.inl rfl⟩
    ·have:=h.upd (i:=len*sz) (vs:=new) (by rw[List.length_append,hl,hj,hy3,Nat.sub_mul];omega)
     unfold z6 at this
     rw[←hl,List.take_left,hy3,←List.drop_drop] at this
     rw[hl] at this
     rw[show(cells++junk).drop (len*sz)=junk by rw[←hl,List.drop_left]] at this
     simpa using this
    ·simp only[List.length_drop,hj,Nat.sub_mul,Nat.add_mul];omega
  ·have hrd:m.rdN b 0 (len*sz)=some cells:=by rw[h.rdN (by simp;omega)];simp[hl.symm]
   rw[decide_eq_false hfit,u7,hroom,l9,M.cel_some.2 c1]
   have e2:(ob (some c) fun c=>ob (m.rdN b 0 (len*sz)) fun old=>
     bc (false||(c.mv.isNone&&c.exact)) (J0 e sz z m (len+k) (old++new))
      (bc (c.mv.isNone&&(!c.ro&&(Nat.beq c.elem e&&(Nat.ble len cap&&Nat.beq (0+cap*sz) c.n)))) (N7 e sz z m b 0 (len*sz) (len+k) c old new) none))=
     bc xt (J0 e sz z m (len+k) (cells++new)) (N7 e sz z m b 0 (len*sz) (len+k) c cells new):=by
    show(ob (m.rdN b 0 (len*sz)) fun old=>bc (false||(c.mv.isNone&&c.exact)) (J0 e sz z m (len+k) (old++new))
      (bc (c.mv.isNone&&(!c.ro&&(Nat.beq c.elem e&&(Nat.ble len cap&&Nat.beq (0+cap*sz) c.n)))) (N7 e sz z m b 0 (len*sz) (len+k) c old new) none))=_
    rw[hrd]
    show bc (false||(c.mv.isNone&&c.exact)) (J0 e sz z m (len+k) (cells++new))
      (bc (c.mv.isNone&&(!c.ro&&(Nat.beq c.elem e&&(Nat.ble len cap&&Nat.beq (0+cap*sz) c.n)))) (N7 e sz z m b 0 (len*sz) (len+k) c cells new) none)=_
    have q1:(false||(c.mv.isNone&&c.exact))=xt:=by rw[c4,c6];simp
    have q2:(c.mv.isNone&&(!c.ro&&(Nat.beq c.elem e&&(Nat.ble len cap&&Nat.beq (0+cap*sz) c.n))))=true:=by
     have hn:0+cap*sz=c.n:=by
      have:len*sz≤cap*sz:=hle
      rw[c3,List.length_append,hl,hj,Nat.sub_mul];omega
     rw[c4,c5,c2,hn,Nat.beq_refl,Nat.beq_refl,A1,decide_eq_true hc];rfl
    rw[q1,q2];rfl
   rw[e2]
   have hcn:(cells++new).length=(len+k)*sz:=by rw[List.length_append,hl,hy3,Nat.add_mul]
   cases xt with
   |true=>
    obtain⟨s',m',h1,h2,h3,h4⟩:=a4K (e:=e) (z:=z) hcn (by omega) hw
    exact⟨s',m',some m.next,h1,h2,h3.mono (fun _ _ h=>h.elim),.inr ⟨_,rfl,Nat.le_refl _,by omega⟩⟩
   |false=>
    rw[u7]
    unfold N7
    rw[z7]
    have hbn:=h.lt hw
    refine⟨_,_,some m.next,rfl,.row (xt:=false) (junk:= []) ?_ hcn (by simp) (Nat.le_refl _) (by omega),⟨?_,?_,?_⟩,.inr ⟨_,rfl,Nat.le_refl _,by rw[M.next_new,M.next_put];omega⟩⟩
    ·refine⟨_,by rw[M.get_new,M.next_put,if_pos rfl],rfl,by rw[List.append_nil,hcn];rfl,rfl,rfl,rfl,fun i v hv=> ?_⟩
     rw[List.append_nil] at hv
     rw[a2L c new (len*sz) i ⟨e,Nat.mul (len+k) sz,bc (Nat.beq 0 0) (v8 new (len*sz) c.cs) (v8 (cells++new) 0 .leaf),bc (Nat.beq 0 0) c.zero z,none,false,false,false⟩ rfl rfl]
     have hi:=(List.getElem?_eq_some_iff.1 hv).1
     by_cases hx:len*sz≤i∧i<len*sz+new.length
     ·rw[if_pos hx]
      rw[List.getElem?_append_right (by omega),hl] at hv
      rw[hv];rfl
     ·rw[if_neg hx]
      rw[List.length_append] at hi
      apply c7
      rw[List.getElem?_append_left (by omega)] at hv⊢
      ·exact hv
    ·rw[M.next_new,M.next_put];omega
    ·refine Wf.new fun b' hb'=> ?_
     rw[M.next_put] at hb'
     rw[M.get_put,if_neg (by omega)]
     exact hw b' hb'
    ·intro b' hb' hf
     rw[M.get_new,M.next_put,if_neg (by omega),M.get_put,if_neg (fun e=>hf (by rw[e]))]
end Go.Am
