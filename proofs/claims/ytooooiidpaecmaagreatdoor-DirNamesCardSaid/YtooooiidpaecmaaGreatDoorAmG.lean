import Derived.Test.YtooooiidpaecmaaGreatDoorAmF
import Derived.Laws.MakeOwn
import Derived.Laws.BytesString
import Derived.Lib.UnsafeStr
import Derived.Laws.Slices
/- The abstract machine: its operations and the model's, one by one (2). -/
namespace Go.Am
open Go Go.RowKit
section
variable {P:Program} {w0:World} {ρ:Ren} {m:M} {w:World}
theorem g35(h:Sim P w0 ρ m w){op:UnOp}{x:RO}{fr:Fr}{v:Value}(hv:d6 ρ (ev x fr)=some v):Val P w0 (Op.unary op v) ρ w (rUn op x fr m):=by
 refine Val.pureO h fun z hz=> ?_
 unfold unS at hz
 split at hz
 ·rename_i c hx
  rw[hx,C2] at hv
  cases hv;cases hz
  exact⟨_,rfl,C2 _⟩
 ·split at hz
  ·rename_i k n hk
   have:=G1 hk hv;subst this
   cases hz
   exact⟨_,by simp[Op.unary,Op.intArith],G0 ρ _ _⟩
  ·cases hz
 ·split at hz
  ·rename_i k n hk
   have:=G1 hk hv;subst this
   cases hz
   exact⟨_,by simp only[Op.unary,Op.intBits,Sem.run_pure],G0 ρ _ _⟩
  ·cases hz
 ·cases hz
theorem f79(h:Sim P w0 ρ m w){s d:TypeId}{k j:IntKind}{x:RO}{fr:Fr}{v:Value}(hs:P.underlying s=some (.int j))(hd:P.underlying d=some (.int k))(hv:d6 ρ (ev x fr)=some v):
  Val P w0 (convert s d v) ρ w (Z8 k x fr m):=by
 intro y m' hr
 obtain⟨q,hq,hr⟩:=d9 hr
 cases hr
 obtain⟨k',n⟩:=q
 have:=G1 hq hv;subst this
 exact⟨ρ,_,w,by simp[convert,run_underlying hs,run_underlying hd,Conv.intToInt],G0 ρ _ _,Ren.le_refl ρ,h⟩
theorem f7r(h:Sim P w0 ρ m w){s d:TypeId}{k:FloatKind}{j:IntKind}{x:RO}{fr:Fr}{v:Value}(hs:P.underlying s=some (.int j))(hd:P.underlying d=some (.float k))(hv:d6 ρ (ev x fr)=some v):
  Val P w0 (convert s d v) ρ w (a6J k x fr m):=by
 intro y m' hr
 obtain⟨q,hq,hr⟩:=d9 hr
 cases hr
 obtain⟨k',n⟩:=q
 have:=G1 hq hv;subst this
 exact⟨ρ,_,w,by simp only[convert,Sem.run_bind,run_underlying hs,run_underlying hd,Result.andThen_ok,Conv.intToFloat,Sem.run_pure],l7 rfl,Ren.le_refl ρ,h⟩
theorem f7g(h:Sim P w0 ρ m w){s d:TypeId}{k:IntKind}{j:FloatKind}{x:RO}{fr:Fr}{v:Value}(hs:P.underlying s=some (.float j))(hd:P.underlying d=some (.int k))(hv:d6 ρ (ev x fr)=some v):
  Val P w0 (convert s d v) ρ w (a2K k x fr m):=by
 intro y m' hr
 unfold a2K at hr
 split at hr
 ·rename_i i a e1
  obtain⟨u,hu,hr⟩:=d9 hr
  obtain⟨h1,hr⟩:=l4 hr
  cases hr
  rw[e1,l7 rfl] at hv
  cases hv
  have h2:=a43 (P:=P) (w:=w) hu
  exact⟨ρ,_,w,by simp only[convert,Sem.run_bind,run_underlying hs,run_underlying hd,Result.andThen_ok,h2],M9 ρ u h1,Ren.le_refl ρ,h⟩
 ·cases hr
theorem f9f(h:Sim P w0 ρ m w){ts:Array TypeId}{ty:Nat}{x y:RO}{fr:Fr}{vx vy:Value}(hx:d6 ρ (ev x fr)=some vx)(hy:d6 ρ (ev y fr)=some vy):Val P w0 (Builtin.complex_ ts ty #[vx,vy]) ρ w (a3M x y fr m):=by
 intro z m' hr
 unfold a3M at hr
 split at hr
 ·rename_i k a k' b e1 e2
  by_cases hk:k=k'
  ·subst hk
   rw[decide_eq_true rfl,l9] at hr
   cases hr
   rw[e1,l7 rfl] at hx
   rw[e2,l7 rfl] at hy
   cases hx;cases hy
   have e:Builtin.complex_ ts ty #[.float k a,.float k b] =pure (.complex k a b):=if_pos rfl
   exact⟨ρ,_,w,by rw[e];rfl,l7 rfl,Ren.le_refl ρ,h⟩
  ·rw[decide_eq_false hk,u7] at hr
   cases hr
 ·cases hr
theorem f9t(h:Sim P w0 ρ m w){ts:Array TypeId}{ty:Nat}{x:RO}{fr:Fr}{vx:Value}(hx:d6 ρ (ev x fr)=some vx):Val P w0 (Builtin.real_ ts ty #[vx]) ρ w (a3D x fr m):=by
 intro z m' hr
 unfold a3D at hr
 split at hr
 ·rename_i k a b e1
  cases hr
  rw[e1,l7 rfl] at hx
  cases hx
  have e:Builtin.real_ ts ty #[.complex k a b] =pure (.float k a):=rfl
  exact⟨ρ,_,w,by rw[e];rfl,l7 rfl,Ren.le_refl ρ,h⟩
 ·cases hr
theorem f8D(h:Sim P w0 ρ m w){ts:Array TypeId}{ty:Nat}{x:RO}{fr:Fr}{vx:Value}(hx:d6 ρ (ev x fr)=some vx):Val P w0 (Builtin.imag_ ts ty #[vx]) ρ w (a3y x fr m):=by
 intro z m' hr
 unfold a3y at hr
 split at hr
 ·rename_i k a b e1
  cases hr
  rw[e1,l7 rfl] at hx
  cases hx
  have e:Builtin.imag_ ts ty #[.complex k a b] =pure (.float k b):=rfl
  exact⟨ρ,_,w,by rw[e];rfl,l7 rfl,Ren.le_refl ρ,h⟩
 ·cases hr
theorem b7I{l:List AV}{s:List UInt8}{us:List Value}(h:P7 l=some s)(hu:i8 ρ l=some us):∃ns:List Nat,us=ns.map (fun(n:Nat)=>Value.int .u8 (Int.ofNat n))∧s=ns.map UInt8.ofNat:=by
 induction l generalizing s us with
 |nil=>
  simp only[P7,Option.some.injEq] at h
  rw[o0] at hu;cases hu
  exact⟨[],rfl,by simp[←h]⟩
 |cons x l ih=>
  obtain⟨v,vs,hv,hvs,rfl⟩:=o9.1 hu
  cases x<;>simp only[P7,reduceCtorEq,Option.map_eq_some_iff] at h
  obtain⟨s',hs',rfl⟩:=h
  obtain⟨ns,rfl,rfl⟩:=ih hs' hvs
  rw[U6] at hv;cases hv
  exact⟨_::ns,rfl,rfl⟩
theorem f8o{l:List AV}{us:List Value}(h:l.all a4c=true)(hu:i8 ρ l=some us):∃ns:List Nat,us=ns.map (fun(n:Nat)=>Value.int .u8 (Int.ofNat n)):=by
 induction l generalizing us with
 |nil=>rw[o0] at hu;cases hu;exact⟨[],rfl⟩
 |cons x l ih=>
  obtain⟨v,vs,hv,hvs,rfl⟩:=o9.1 hu
  simp only[List.all_cons,Bool.and_eq_true] at h
  obtain⟨ns,rfl⟩:=ih h.2 hvs
  have h1:=h.1
  cases x<;>simp only[a4c,Bool.false_eq_true] at h1
  ·rw[U6] at hv;cases hv
   exact⟨_::ns,rfl⟩
  ·have h1:=Nat.eq_of_beq_eq_true h1
   obtain⟨hs,_⟩:=a9C hv
   unfold a1T at hs
   rw[h1] at hs
   split at hs<;>first
    |exact⟨_::ns,rfl⟩
    |(rename_i h0 _;omega)
    |(rename_i h0;omega)
    |cases hs
theorem f6l(ns:List Nat):bytesOf (ns.map fun(n:Nat)=>Value.int .u8 (Int.ofNat n))=some (ns.map UInt8.ofNat):=by
 induction ns with
 |nil=>rfl
 |cons n ns ih=>rw[List.map_cons,bytesOf,ih];rfl
theorem g1m(h:Sim P w0 ρ m w){s d e:TypeId}{x:RO}{fr:Fr}{v:Value}(hs:P.underlying s=some (.slice e))(he:P.underlying e=some (.int .u8))(hd:P.underlying d=some .string)(hv:d6 ρ (ev x fr)=some v):
  Val P w0 (convert s d v) ρ w (a1b x fr m):=by
 intro y m' hr
 unfold a1b at hr
 cases hx:ev x fr<;>simp only[hx,elSl,reduceCtorEq] at hr
 case p u=>
  split at hr
  ·rename_i hu
   cases hu
   rw[hx,l7 rfl] at hv
   cases hv;cases hr
   exact⟨ρ,_,w,by rw[run_convert_bytes_string w s d e _ _ _ hs he hd];rfl,l7 rfl,Ren.le_refl ρ,h⟩
  ·rename_i hu;cases hu
  ·cases hr
 case sliceE b off adv=>
  cases hr
  rw[hx] at hv
  obtain⟨r,hr1,rfl⟩:=N0 hv
  refine⟨ρ,_,w,?_,l7 rfl,Ren.le_refl ρ,h⟩
  rw[run_convert_bytes_string w s d e _ _ _ hs he hd,run_bytesToString w _ 0 _ [] (by simp[loadCells,loadCellsFrom])]
  rfl
 case slice b off len cap lim=>
  by_cases h0:len=0
  ·subst h0
   cases hr
   rw[hx] at hv
   obtain⟨r,hr1,rfl⟩:=G2 hv
   refine⟨ρ,_,w,?_,l7 rfl,Ren.le_refl ρ,h⟩
   rw[run_convert_bytes_string w s d e _ _ _ hs he hd,run_bytesToString w _ 0 _ [] (by simp[loadCells,loadCellsFrom])]
   rfl
  rw[show Nat.beq len 0=false from by cases len with|zero=>exact absurd rfl h0|succ n=>rfl] at hr
  obtain⟨l,hl,hr⟩:=d9 hr
  rw[hx] at hv
  obtain⟨r,hr1,rfl⟩:=G2 hv
  obtain⟨r',us,hr2,q1,q2,q3,q4⟩:=h.rdN hl
  rw[hr1] at hr2;cases hr2
  have hns:∃ns:List Nat,us=ns.map (fun(n:Nat)=>Value.int .u8 (Int.ofNat n))∧m'=m∧d6 ρ y=some (.string ⟨(ns.map UInt8.ofNat).toArray⟩):=by
   cases hbs:P7 l with
   |some bs=>
    rw[hbs] at hr
    cases hr
    obtain⟨ns,rfl,rfl⟩:=b7I hbs q1
    exact⟨ns,rfl,rfl,l7 rfl⟩
   |none=>
    rw[hbs] at hr
    obtain⟨hall,hr⟩:=l4 (show bc (l.all a4c) (some (AV.txt l,m)) none=some (y,m') from hr)
    cases hr
    obtain⟨ns,rfl⟩:=f8o hall q1
    refine⟨ns,rfl,rfl,?_⟩
    simp only[d6,q1,Option.bind_some,f6l,Option.map_some]
  obtain⟨ns,rfl,hm,hy⟩:=hns
  subst hm
  have hload:=run_loadCells_list (P:=P) w ⟨r.blk,r.sh+off,none⟩ _ (fun j u hj=>by rw[Addr.add_mk];exact q4 j u hj)
  rw[q2] at hload
  refine⟨ρ,.string ⟨(ns.map UInt8.ofNat).toArray⟩,w,?_,hy,Ren.le_refl ρ,h⟩
  rw[run_convert_bytes_string w s d e _ _ _ hs he hd,run_bytesToString w _ len _ (ns.map fun(n:Nat)=>Int.ofNat n) (by rw[hload];simp)]
  congr 2
  have key:∀(ns:List Nat) (acc:ByteArray),(ns.map fun(n:Nat)=>Int.ofNat n).foldl (fun r n=>r.push (UInt8.ofNat n.toNat)) acc=⟨acc.data++(ns.map UInt8.ofNat).toArray⟩:=by
   intro ns
   induction ns with
   |nil=>intro acc;simp
   |cons n ns ih=>
    intro acc
    simp only[List.map_cons,List.foldl_cons,ih]
    apply ByteArray.ext
    apply Array.ext'
    simp[ByteArray.push]
  rw[key]
  apply ByteArray.ext
  apply Array.ext'
  have e0:ByteArray.empty.data= #[] :=rfl
  rw[e0]
  simp
theorem f9p(h:Sim P w0 ρ m w){t e size bytes:Nat}{zl:List AV}{l c:RO}{fr:Fr}{vl vc:Value}(hu:F6 P t=some e)(hs:tsize P e=some size)(hb:N9 P e=some bytes)(hz:E8 P e=some zl)
  (hl:d6 ρ (ev l fr)=some vl) (hc:d6 ρ (ev c fr)=some vc):Val P w0 (Instr.makeSlice t vl vc) ρ w (a0X e size bytes zl l c fr m):=by
 intro y m' hr
 obtain⟨ln,hln,hr⟩:=a2z hr
 obtain⟨cn,hcn,hr⟩:=a2z hr
 obtain⟨hbb,hr⟩:=l4 hr
 rw[z7] at hr
 cases hr
 rw[hln,F3] at hl
 rw[hcn,F3] at hc
 cases hl;cases hc
 simp only[Bool.and_eq_true] at hbb
 have b1:ln≤cn:=Nat.le_of_ble_eq_true hbb.1
 have b2:cn≤1099511627776:=Nat.le_of_ble_eq_true hbb.2.1
 have b3:cn*bytes≤1099511627776:=Nat.le_of_ble_eq_true hbb.2.2
 obtain⟨i,z,hi,hz',hall,hsz,rfl⟩:=R9 hz
 obtain⟨i',hi',rfl⟩:=G5 hs
 rw[hi] at hi';cases hi'
 obtain⟨i',hi',rfl⟩:=a4A hb
 rw[hi] at hi';cases hi'
 have hrun:=run_make (P:=P) w t e i z (M8 hu) hi hz' .i64 .i64 (ln:Int) (cn:Int) (by omega) (by omega) (by
  have e1:((cn*i.bytes:Nat):Int)=(i.bytes:Int)*(cn:Int):=by rw[Int.natCast_mul,Int.mul_comm]
  omega) (by omega)
 simp only[Int.toNat_natCast] at hrun
 have hnew:=h.newRow ⟨e,Nat.mul cn i.size,.leaf,z.cells.toList.map cv1,none,false,true,false⟩ (madeCells z.cells (cn*i.size)) 0 rfl (by rw[size_madeCells];exact Nat.le_refl _) (fun _=>rfl) (fun q=>by cases q) (by
  intro j hj
  have hj:j<cn*i.size:=hj
  have hpos:0<z.cells.size:=by
   rcases Nat.eq_zero_or_pos z.cells.size with h0|h0
   ·rw[←hsz,h0] at hj;simp at hj
   ·exact h0
  obtain⟨v,q1,q2,q3⟩:=b9b ρ z hall hpos j
  refine⟨v,by rw[c7X _ rfl];exact q1,q2,?_⟩
  have hlt:j % z.cells.size<z.cells.size:=Nat.mod_lt _ hpos
  rw[Array.getElem?_eq_getElem hlt] at q3
  simp only[madeCells,Array.getElem?_map]
  rw[Array.getElem?_eq_getElem (by simpa using hj)]
  simpa[hlt] using q3)
 exact⟨_,_,_,hrun,b3A,hnew.2,hnew.1⟩
theorem Q4{x:Option RO}{fr:Fr}{d top n:Nat}{a:Option Value}(h:bnd (evo x fr) d top=some n)(ha:∀y,x=some y→∃v,a=some v∧d6 ρ (ev y fr)=some v)(hn:x=none→a=none):
  (x=none∧a=none∧n=d)∨(∃v,a=some v∧v= .int .i64 (n:Int)∧n≤top):=by
 cases x with
 |none=>simp only[evo,bnd,Option.some.injEq] at h;exact .inl ⟨rfl,hn rfl,h.symm⟩
 |some y=>
  right
  obtain⟨v,hv,hc⟩:=ha y rfl
  have h':elN none (fun n=>bc (Nat.ble n top) (some n) none) (ev y fr)=some n:=h
  obtain⟨k,hk,h'⟩:=a2z h'
  obtain⟨hb,h'⟩:=l4 h'
  cases h'
  rw[hk,F3] at hc
  cases hc
  exact⟨_,hv,rfl,Nat.le_of_ble_eq_true hb⟩
theorem H5{n y:Nat}(h:n≤y)(c:BoundsCode):(Instr.sliceBound (.int .i64 (n:Int)) y c).run P w= .ok n w:=by
 rw[run_sliceBound w .i64 (n:Int) y c (by omega) (by omega)];simp
theorem b8Y{sl:Bool}{len cap:Nat}{lo hi mx:Option RO}{vlo vhi vmx:Option Value}{fr:Fr}{l h c ccap:Nat}
  (hc:bnd (evo mx fr) cap cap=some c) (hh:bnd (evo hi fr) (bc mx.isSome 0 len) c=some h) (hl:bnd (evo lo fr) 0 h=some l)
  (ea:∀y,lo=some y→∃v,vlo=some v∧d6 ρ (ev y fr)=some v) (na:lo=none→vlo=none) (eb:∀y,hi=some y→∃v,vhi=some v∧d6 ρ (ev y fr)=some v) (nb:hi=none→vhi=none)
  (ec:∀y,mx=some y→∃v,vmx=some v∧d6 ρ (ev y fr)=some v) (nc:mx=none→vmx=none) (hcap:cap≤ccap) (hmx:mx.isSome=true→hi.isSome=true) (_hle:h≤c):
  (Instr.sliceBounds sl len ccap vlo vhi vmx).run P w= .ok (l,h,if mx.isSome then c else ccap) w∧l≤h∧(mx.isSome=false→c=cap):=by
 have h1:=Q4 hc ec nc
 have h2:=Q4 hh eb nb
 have h3:=Q4 hl ea na
 rcases h1 with⟨rfl,rfl,rfl⟩|⟨v1,rfl,rfl,b1⟩
 ·rcases h2 with⟨rfl,rfl,e2⟩|⟨v2,rfl,rfl,b2⟩
  ·simp only[Option.isSome_none,u7] at e2
   subst e2
   rcases h3 with⟨rfl,rfl,rfl⟩|⟨v3,rfl,rfl,b3⟩
   ·exact⟨by simp[Instr.sliceBounds],by omega,by simp_all⟩
   ·exact⟨by simp[Instr.sliceBounds,H5 b3],by omega,by simp_all⟩
  ·rcases h3 with⟨rfl,rfl,rfl⟩|⟨v3,rfl,rfl,b3⟩
   ·exact⟨by simp[Instr.sliceBounds,H5 (Nat.le_trans b2 hcap)],by omega,by simp_all⟩
   ·exact⟨by simp[Instr.sliceBounds,H5 b3,H5 (Nat.le_trans b2 hcap)],by omega,by simp_all⟩
 ·have hms:mx.isSome=true:=by
   cases mx with
   |none=>have:=nc rfl;cases this
   |some _=>rfl
  rcases h2 with⟨rfl,rfl,e2⟩|⟨v2,rfl,rfl,b2⟩
  ·have:=hmx hms;cases this
  ·rcases h3 with⟨rfl,rfl,rfl⟩|⟨v3,rfl,rfl,b3⟩
   ·exact⟨by simp[Instr.sliceBounds,hms,H5 b2,H5 (Nat.le_trans b1 hcap)],by omega,by simp_all⟩
   ·exact⟨by simp[Instr.sliceBounds,hms,H5 b3,H5 b2,H5 (Nat.le_trans b1 hcap)],by omega,by simp_all⟩
theorem a9O{a:Operand→Value}{fr:Fr}(x:Option Operand)(h:∀y,x=some y→d6 ρ (ev (cO y) fr)=some (a y)):(∀y,x.map cO=some y→∃v,x.map a=some v∧d6 ρ (ev y fr)=some v)∧(x.map cO=none→x.map a=none):=by
 cases x with
 |none=>exact⟨fun y e=>(by cases e),fun _=>rfl⟩
 |some q=>exact⟨fun y e=>(by cases e;exact⟨a q,rfl,h q rfl⟩),fun e=>(by cases e)⟩
theorem f9T(h:Sim P w0 ρ m w){t:Nat}{x:RO}{lo hi:Option RO}{vlo vhi:Option Value}{fr:Fr}{v:Value}(hu:P.underlying t=some .string)(hv:d6 ρ (ev x fr)=some v)
  (ea:∀y,lo=some y→∃v,vlo=some v∧d6 ρ (ev y fr)=some v) (na:lo=none→vlo=none) (eb:∀y,hi=some y→∃v,vhi=some v∧d6 ρ (ev y fr)=some v) (nb:hi=none→vhi=none):
  Val P w0 (Instr.sliceAt t v vlo vhi none) ρ w (a7N x lo hi fr m):=by
 intro y m' hr
 obtain⟨s,hs,hr⟩:=d9 hr
 obtain⟨hh,h1,hr⟩:=d9 hr
 obtain⟨l,h2,hr⟩:=d9 hr
 cases hr
 have:=J5 hs hv;subst this
 have q1:=Q4 h1 eb nb
 have q2:=Q4 h2 ea na
 have hb:(Instr.sliceBounds false s.size s.size vlo vhi none).run P w= .ok (l,hh,s.size) w:=by
  rcases q1 with⟨_,rfl,rfl⟩|⟨v2,rfl,rfl,b2⟩<;>rcases q2 with⟨_,rfl,rfl⟩|⟨v3,rfl,rfl,b3⟩
  ·simp[Instr.sliceBounds]
  ·simp[Instr.sliceBounds,H5 b3]
  ·simp[Instr.sliceBounds,H5 b2]
  ·simp[Instr.sliceBounds,H5 b3,H5 b2]
 refine⟨ρ,.string (s.extract l hh),w,?_,?_,Ren.le_refl ρ,h⟩
 ·rw[run_sliceAt_string w t _ _ _ _ hu]
  simp[Instr.slice,run_underlying hu,hb]
 ·rw[l7 rfl]
  congr 2
  apply ByteArray.ext
  apply Array.ext'
  simp[List.extract_eq_take_drop,List.drop_take]
theorem g2D(h:Sim P w0 ρ m w){t e size:Nat}{x:RO}{lo hi mx:Option RO}{vlo vhi vmx:Option Value}{fr:Fr}{v:Value}(hu:P.underlying t=some (.slice e))(hs:tsize P e=some size)(hmx:(!mx.isSome||hi.isSome)=true)(hv:d6 ρ (ev x fr)=some v)
  (ea:∀y,lo=some y→∃v,vlo=some v∧d6 ρ (ev y fr)=some v) (na:lo=none→vlo=none) (eb:∀y,hi=some y→∃v,vhi=some v∧d6 ρ (ev y fr)=some v) (nb:hi=none→vhi=none)
  (ec:∀y,mx=some y→∃v,vmx=some v∧d6 ρ (ev y fr)=some v) (nc:mx=none→vmx=none):
  Val P w0 (Instr.sliceAt t v vlo vhi vmx) ρ w (rSl size mx.isSome x lo hi mx fr m):=by
 have hmx':mx.isSome=true→hi.isSome=true:=by cases mx<;>cases hi<;>simp_all
 have hpe:P.elem t=e:=by simp[Program.elem,hu]
 have hu':P.underlying t=some (.slice (P.elem t)):=by rw[hpe];exact hu
 intro y m' hr
 unfold rSl at hr
 cases hx:ev x fr<;>simp only[hx,elSl,reduceCtorEq] at hr
 case p u=>
  split at hr
  ·rename_i hu2
   cases hu2
   obtain⟨c,q1,hr⟩:=d9 hr
   obtain⟨hh,q2,hr⟩:=d9 hr
   obtain⟨l,q3,hr⟩:=d9 hr
   cases hr
   rw[hx,l7 rfl] at hv
   cases hv
   have b1:=Q4 q1 ec nc
   have b2:=Q4 q2 eb nb
   have b3:=Q4 q3 ea na
   refine⟨ρ,.slice none 0 0,w,?_,l7 rfl,Ren.le_refl ρ,h⟩
   have hrun:(Instr.sliceBounds true 0 0 vlo vhi vmx).run P w= .ok (0,0,0) w:=by
    have e3:vlo=none∨vlo=some (.int .i64 ((0:Nat):Int)):=by
     rcases b3 with⟨_,rfl,_⟩|⟨v,rfl,rfl,b⟩
     ·exact .inl rfl
     ·right;rw[show l=0 by omega]
    have e2:(vhi=none∧hi=none)∨vhi=some (.int .i64 ((0:Nat):Int)):=by
     rcases b2 with⟨rfl,rfl,_⟩|⟨v,rfl,rfl,b⟩
     ·exact .inl ⟨rfl,rfl⟩
     ·right;rw[show hh=0 by omega]
    have e1:(vmx=none∧mx=none)∨(vmx=some (.int .i64 ((0:Nat):Int))∧mx.isSome=true):=by
     rcases b1 with⟨rfl,rfl,_⟩|⟨v,rfl,rfl,b⟩
     ·exact .inl ⟨rfl,rfl⟩
     ·right
      refine⟨by rw[show c=0 by omega],?_⟩
      cases mx with
      |none=>have:=nc rfl;cases this
      |some _=>rfl
    have z:∀c,(Instr.sliceBound (.int .i64 ((0:Nat):Int)) 0 c).run P w= .ok 0 w:=fun c=>H5 (Nat.le_refl 0) c
    rcases e1 with⟨rfl,rfl⟩|⟨rfl,hms⟩
    ·rcases e2 with⟨rfl,rfl⟩|rfl<;>rcases e3 with rfl|rfl<;>simp only[Instr.sliceBounds,Sem.run_bind,Sem.run_pure,Result.andThen_ok,z]
    ·rcases e2 with⟨rfl,rfl⟩|rfl
     ·have:=hmx' hms;cases this
     ·rcases e3 with rfl|rfl<;>simp only[Instr.sliceBounds,Sem.run_bind,Sem.run_pure,Result.andThen_ok,z]
   rw[run_sliceAt_slice w t _ _ _ _ hu',run_slice_any w t none 0 0 hu' vlo vhi vmx,hrun]
   simp[hpe,H6 hs,sliced]
  ·rename_i hu2;cases hu2
  ·cases hr
 case sliceE b off adv=>
  obtain⟨hm0,hr⟩:=b0B hr
  obtain⟨hh,q2,hr⟩:=d9 hr
  obtain⟨l,q3,hr⟩:=d9 hr
  cases hr
  rw[hx] at hv
  obtain⟨r,hr1,rfl⟩:=N0 hv
  have hmn:mx=none:=by cases mx<;>simp_all
  have hvm:vmx=none:=nc hmn
  subst hvm
  have b2:=Q4 q2 eb nb
  have b3:=Q4 q3 ea na
  have hrun:(Instr.sliceBounds true 0 r.ext vlo vhi none).run P w= .ok (0,0,r.ext) w:=by
   have z:∀n c,(Instr.sliceBound (.int .i64 ((0:Nat):Int)) n c).run P w= .ok 0 w:=fun n c=>H5 (Nat.zero_le n) c
   have e3:vlo=none∨vlo=some (.int .i64 ((0:Nat):Int)):=by
    rcases b3 with⟨_,rfl,_⟩|⟨v,rfl,rfl,b⟩
    ·exact .inl rfl
    ·right
     have:hh≤0:=by rcases b2 with⟨_,_,e⟩|⟨_,_,_,e⟩<;>omega
     rw[show l=0 by omega]
   have e2:vhi=none∨vhi=some (.int .i64 ((0:Nat):Int)):=by
    rcases b2 with⟨rfl,rfl,_⟩|⟨v,rfl,rfl,b⟩
    ·exact .inl rfl
    ·right;rw[show hh=0 by omega]
   rcases e2 with rfl|rfl<;>rcases e3 with rfl|rfl<;>simp only[Instr.sliceBounds,Sem.run_bind,Sem.run_pure,Result.andThen_ok,z]
  refine⟨ρ,_,w,?_,by rw[hx] at*;exact hv,Ren.le_refl ρ,h⟩
  rw[run_sliceAt_slice w t _ _ _ _ hu',run_slice_any w t _ 0 r.ext hu' vlo vhi none,hrun]
  by_cases h0:r.ext=0<;>simp[hpe,H6 hs,sliced,h0,Addr.add_mk]
 case slice b off len cap lim=>
  obtain⟨c,q1,hr⟩:=d9 hr
  obtain⟨hh,q2,hr⟩:=d9 hr
  obtain⟨l,q3,hr⟩:=d9 hr
  obtain⟨hle,hr⟩:=l4 hr
  have hle:hh≤c:=Nat.le_of_ble_eq_true hle
  rw[hx] at hv
  obtain⟨r,hr1,rfl⟩:=G2 hv
  obtain⟨hrun,b1,b2⟩:=b8Y (P:=P) (w:=w) (sl:=true) (ccap:=if lim then cap else cap+r.ext) q1 q2 q3 ea na eb nb ec nc (by split<;>omega) hmx' hle
  rw[run_sliceAt_slice w t _ _ _ _ hu',run_slice_any w t _ len _ hu' vlo vhi vmx,hrun]
  simp only[Result.andThen_ok,hpe,H6 hs,sliced]
  rw[A6] at hr
  split at hr
  ·rename_i hcl
   simp only[Bool.and_eq_true,Bool.not_eq_true'] at hcl
   have e1:c=l:=Nat.eq_of_beq_eq_true hcl.1
   have e2:l≠0:=fun e=>by subst e;simp at hcl
   rw[z7] at hr
   unfold slEnd at hr
   rw[A6] at hr
   split at hr
   ·rename_i hlm
    cases hr
    refine⟨ρ,_,w,rfl,?_,Ren.le_refl ρ,h⟩
    rw[O5 hr1]
    have em:(if mx.isSome then c else if lim then cap else cap+r.ext)=l:=by
     cases hms:mx.isSome with
     |true=>simpa using e1
     |false=>
      rw[hms] at hlm
      simp only[Bool.or_false] at hlm
      simp only[hlm,if_true,Bool.false_eq_true,if_false]
      rw[←b2 hms];exact e1
    rw[em]
    simp
    omega
   ·rename_i hlm
    simp only[Bool.or_eq_true,not_or,Bool.not_eq_true] at hlm
    obtain⟨hl0,hm0⟩:=hlm
    obtain⟨cc,hcc,hr⟩:=d9 hr
    obtain⟨hmv,hr⟩:=l4 hr
    have hmv:cc.mv=none:=by simpa using hmv
    obtain⟨r',arr,fz,hr2,k⟩:=h.cel hcc
    rw[hr1] at hr2;cases hr2
    have ecap:c=cap:=b2 hm0
    rw[A6] at hr
    split at hr
    ·rename_i hexact
     cases hr
     obtain⟨hx0,_⟩:=k.exact hmv hexact
     refine⟨ρ,_,w,rfl,?_,Ren.le_refl ρ,h⟩
     rw[O5 hr1]
     simp only[hl0,hm0,hx0,Bool.false_eq_true,if_false,Nat.add_zero]
     rw[if_pos (by omega)]
     congr 2<;>omega
    ·cases hr
     refine⟨ρ,_,w,rfl,?_,Ren.le_refl ρ,h⟩
     simp only[d6,hr1,Option.map_some,hl0,hm0,Bool.false_eq_true,if_false]
     by_cases h0:r.ext=0
     ·rw[if_pos h0,if_pos (by omega),h0]
      congr 2<;>omega
     ·rw[if_neg h0,if_neg (by omega)]
      simp only[Addr.add_mk]
      congr 2<;>first|rfl|omega
  ·rename_i hcl
   rw[z7,z7,z7] at hr
   cases hr
   refine⟨ρ,_,w,rfl,?_,Ren.le_refl ρ,h⟩
   rw[O5 hr1]
   have hcl':c≠l∨l=0:=by
    by_cases e1:c=l
    ·right
     cases l with
     |zero=>rfl
     |succ l=>exfalso;apply hcl;simp[e1,A4]
    ·exact .inl e1
   have hm':(if mx.isSome then c else if lim then cap else cap+r.ext)-l=(if(lim||mx.isSome)=true then Nat.sub c l else Nat.sub c l+r.ext):=by
    cases hms:mx.isSome with
    |true=>simp
    |false=>
     have:=b2 hms;subst this
     cases lim<;>simp<;>(show _=c-l+r.ext;omega)
   rw[hm']
   by_cases heq:(if mx.isSome then c else if lim then cap else cap+r.ext)=l
   ·have hl0:l=0:=by
     rcases hcl' with hne|h0
     ·exfalso
      cases hms:mx.isSome with
      |true=>rw[hms,if_pos rfl] at heq;exact hne heq
      |false=>
       have:=b2 hms;subst this
       rw[hms,if_neg (by simp)] at heq
       cases lim
       ·rw[if_neg (by simp)] at heq
        omega
       ·rw[if_pos rfl] at heq;exact hne heq
     ·exact h0
    subst hl0
    rw[if_pos heq]
    show some (Value.slice (some ⟨r.blk,r.sh+(off+0*size),none⟩) (hh-0) _)=_
    simp
   ·rw[if_neg heq]
    simp only[Option.map_some,Addr.add_mk,Nat.add_assoc]
    rfl
theorem d2f{x:AV}{k:Nat}{v:Value}(h:lenA x=some k)(hv:d6 ρ x=some v):(∃a c,v= .slice a k c)∨(∃s,v= .string s∧s.size=k):=by
 unfold lenA at h
 cases x<;>simp only[elSl,reduceCtorEq,Option.some.injEq] at h
 case p u=>
  split at h
  ·rename_i hu;cases hu;cases h;rw[l7 rfl] at hv;cases hv;exact .inl ⟨_,_,rfl⟩
  ·rename_i s hu;cases hu;cases h;rw[l7 rfl] at hv;cases hv;exact .inr ⟨s,rfl,rfl⟩
  ·rename_i hu;cases hu
  ·cases h
 case sliceE b off adv=>
  cases h
  obtain⟨r,_,rfl⟩:=N0 hv
  exact .inl ⟨_,_,rfl⟩
 case slice b off len cap lim=>
  cases h
  obtain⟨r,_,rfl⟩:=G2 hv
  exact .inl ⟨_,_,rfl⟩
theorem g0j(h:Sim P w0 ρ m w){t ty:Nat}{x:RO}{fr:Fr}{v:Value}(hu:T6 P t=true)(hv:d6 ρ (ev x fr)=some v):
  Val P w0 (Builtin.len_ #[t] ty #[v]) ρ w (a7E (a0Y P t) x fr m):=by
 intro y m' hr
 obtain⟨k,hl,hr⟩:=d9 hr
 cases hr
 refine⟨ρ,.int .i64 (k:Int),w,?_,F3 k,Ren.le_refl ρ,h⟩
 unfold T6 at hu
 unfold a0Y E4 at hl
 split at hu
 ·rename_i hs
  rw[hs] at hl
  simp only[l9] at hl
  cases hx:ev x fr<;>simp only[hx,elSl,reduceCtorEq] at hl
  split at hl
  ·rename_i s hp;cases hp;cases hl
   rw[hx,l7 rfl] at hv;cases hv
   simp[Builtin.len_,run_underlying hs,goInt]
  ·cases hl
 ·rename_i e hs
  rw[hs] at hl
  simp only[u7] at hl
  cases hx:ev x fr<;>simp only[hx,elSl,reduceCtorEq,Option.some.injEq] at hl
  case p u=>
   split at hl
   ·rename_i hp;cases hp;cases hl
    rw[hx,l7 rfl] at hv;cases hv
    simp[Builtin.len_,run_underlying hs,goInt]
   ·rename_i hp;cases hp
   ·cases hl
  case sliceE b off adv=>
   cases hl
   rw[hx] at hv
   obtain⟨r,_,rfl⟩:=N0 hv
   simp[Builtin.len_,run_underlying hs,goInt]
  case slice b off len cap lim=>
   cases hl
   rw[hx] at hv
   obtain⟨r,_,rfl⟩:=G2 hv
   simp[Builtin.len_,run_underlying hs,goInt]
 ·cases hu
theorem g0r(h:Sim P w0 ρ m w){ts:Array TypeId}{ty:Nat}{x y:RO}{fr:Fr}{vx vy:Value}(hx:d6 ρ (ev x fr)=some vx)(hy:d6 ρ (ev y fr)=some vy):Val P w0 (Builtin.min_ ts ty #[vx,vy]) ρ w (a2c x y fr m):=by
 intro z m' hr
 obtain⟨⟨k,a⟩,h1,hr⟩:=d9 hr
 obtain⟨⟨k',b⟩,h2,hr⟩:=d9 hr
 cases hr
 have:=G1 h1 hx;subst this
 have:=G1 h2 hy;subst this
 exact⟨ρ,_,w,by simp[Builtin.min_,Builtin.min2],G0 ρ _ _,Ren.le_refl ρ,h⟩
theorem g07(h:Sim P w0 ρ m w){ts:Array TypeId}{ty:Nat}{x y:RO}{fr:Fr}{vx vy:Value}(hx:d6 ρ (ev x fr)=some vx)(hy:d6 ρ (ev y fr)=some vy):Val P w0 (Builtin.max_ ts ty #[vx,vy]) ρ w (a2g x y fr m):=by
 intro z m' hr
 obtain⟨⟨k,a⟩,h1,hr⟩:=d9 hr
 obtain⟨⟨k',b⟩,h2,hr⟩:=d9 hr
 cases hr
 have:=G1 h1 hx;subst this
 have:=G1 h2 hy;subst this
 exact⟨ρ,_,w,by simp[Builtin.max_,Builtin.max2],G0 ρ _ _,Ren.le_refl ρ,h⟩
theorem g0i(h:Sim P w0 ρ m w){ts:Array TypeId}{ty:Nat}{x:RO}{fr:Fr}{v:Value}(hv:d6 ρ (ev x fr)=some v):Val P w0 (Builtin.unsafeSliceData_ ts ty #[v]) ρ w (a2d x fr m):=by
 intro y m' hr
 unfold a2d at hr
 cases hx:ev x fr<;>simp only[hx,elSl,reduceCtorEq] at hr
 case p u=>
  split at hr
  ·rename_i hu;cases hu;cases hr;rw[hx,l7 rfl] at hv;cases hv
   exact⟨ρ,_,w,rfl,l7 rfl,Ren.le_refl ρ,h⟩
  ·cases hr
 case slice b off len cap lim=>
  obtain⟨hb,hr⟩:=b0B hr
  cases hr
  rw[hx] at hv
  obtain⟨r,hr1,rfl⟩:=G2 hv
  have h0:cap≠0:=fun e=>by subst e;simp at hb
  have h1:(if lim=true then cap else cap+r.ext)≠0:=by split<;>omega
  generalize (if lim=true then cap else cap+r.ext)=c at h1
  have hdef:∀(a:Addr),Builtin.unsafeSliceData_ ts ty #[.slice (some a) len c] =(if c≠0 then pure (Value.pointer (some a)) else(do if(←viewAt a.block).isSome then pure (Value.pointer (some a)) else pure (Value.pointer (some ⟨←newObj (.view a (←elemOf ty)),0,none⟩)))):=fun a=>rfl
  exact⟨ρ,_,w,by rw[hdef,if_pos h1];rfl,a0N hr1,Ren.le_refl ρ,h⟩
theorem f7D(h:Sim P w0 ρ m w){size n:Nat}{x:AV}{new:List AV}{vx:Value}(hn:lenA x=some n)(hf:G8 m size n x=some new)(hv:d6 ρ x=some vx):
  ∃us,i8 ρ new=some us∧us.all Value.oneCell'=true∧us.length=n*size∧(Builtin.lenOf vx).run P w= .ok n w∧∀w',(∀a,w'.cell? a=w.cell? a)→(Builtin.firstCells size n vx).run P w'= .ok us.toArray w':=by
 unfold G8 at hf
 unfold lenA at hn
 cases x<;>simp only[elSl,reduceCtorEq,Option.some.injEq] at hf hn
 case p u=>
  split at hf
  ·rename_i c hp
   cases hp
   obtain⟨hb,hf⟩:=l4 hf
   have hb:=Nat.eq_of_beq_eq_true hb
   subst hb
   cases hf
   rw[l7 rfl] at hv;cases hv
   exact⟨[],o0 ρ,rfl,by simp,rfl,fun w' _=>rfl⟩
  ·rename_i hp;cases hp
  ·rename_i s hp
   cases hp
   obtain⟨hb,hf⟩:=l4 hf
   have hb:=Nat.eq_of_beq_eq_true hb
   subst hb
   cases hf
   simp only[Option.some.injEq] at hn
   subst hn
   rw[l7 rfl] at hv;cases hv
   refine⟨(s.data.toList.take s.data.size).map fun c=>Value.int .u8 (c.toNat:Int),?_,?_,?_,rfl,?_⟩
   ·generalize s.data.toList.take s.data.size=l
    induction l with
    |nil=>exact o0 ρ
    |cons c l ih=>exact o9.2 ⟨_,_,U6 _,ih,rfl⟩
   ·rw[List.all_eq_true];intro u hu;simp only[List.mem_map] at hu;obtain⟨_,_,rfl⟩:=hu;rfl
   ·simp
   ·intro w' _
    simp only[Builtin.firstCells,Sem.run_pure]
    congr 1
    apply Array.ext'
    rw[ByteArray.data_extract,Array.extract_size,Array.toList_map,List.take_of_length_le (by simp)]
  ·cases hf
 case sliceE b off adv=>
  obtain⟨hb,hf⟩:=l4 hf
  cases hf;subst hn
  obtain⟨r,_,rfl⟩:=N0 hv
  exact⟨[],o0 ρ,rfl,by simp,rfl,fun w' _=>by simp[Builtin.firstCells,loadCells,loadCellsFrom]⟩
 case slice b off len cap lim=>
  subst hn
  obtain⟨r,hr1,rfl⟩:=G2 hv
  by_cases hz:len=0
  ·subst hz
   rw[Nat.beq_refl,l9] at hf
   cases hf
   exact⟨[],o0 ρ,rfl,by simp,rfl,fun w' _=>by simp[Builtin.firstCells,loadCells,loadCellsFrom]⟩
  rw[show Nat.beq len 0=false from by rw[←Bool.not_eq_true];exact fun e=>hz (Nat.eq_of_beq_eq_true e),u7] at hf
  obtain⟨r',us,hr2,q1,q2,q3,q4⟩:=h.rdN hf
  rw[hr1] at hr2;cases hr2
  refine⟨us,q1,q3,q2,rfl,fun w' hw=> ?_⟩
  have hload:=run_loadCells_list (P:=P) w' ⟨r.blk,r.sh+off,none⟩ us (fun j u hj=>by rw[hw,Addr.add_mk];exact q4 j u hj)
  rw[q2] at hload
  exact hload
def Src(P:Program)(w:World)(xt e:TypeId)(size n:Nat)(x:Value)(us:List Value):Prop:=
 (T6 P xt=true∧(Builtin.lenOf x).run P w= .ok n w∧∀w',(∀a,w'.cell? a=w.cell? a)→(Builtin.firstCells size n x).run P w'= .ok us.toArray w')∨
 (∃k k' i z,P.underlying xt=some (.int k)∧x= .int k' (n:Int)∧n≤4611686018427387904∧P.info? e=some i∧i.zero=some z∧us.toArray=Builtin.zeroCells z.cells n∧z.cells.size=size∧n*i.bytes≤281474976710656)
theorem b9m{e:TypeId}{i:TypeInfo}{z:Value}(hi:P.info? e=some i)(hz:i.zero=some z)(w:World):(zeroValue e).run P w= .ok z w:=by simp[zeroValue,typeInfo,hi,hz]
theorem b9i{z:Value}{n size:Nat}{us:List Value}(hu:us.toArray=Builtin.zeroCells z.cells n)(hs:z.cells.size=size)(h0:n*size=0):us= [] :=by
 have:us.toArray.size=0:=by rw[hu];simp[Builtin.zeroCells,hs,h0]
 simpa using this
theorem a84{n:Nat}(h:n≤4611686018427387904):IntKind.i64.wrap (n:Int)=(n:Int):=IntWalk.i64_in _ (by omega)
theorem b7v{st xt e ty:TypeId}{i:TypeInfo}(ht:P.underlying st=some (.slice e))(hi:P.info? e=some i){a:Addr}{sLen sCap n:Nat}{x:Value}{news:List Value}{w':World}
  (hsrc:Src P w xt e i.size n x news) (hfit:sLen+n≤sCap) (hst:(storeCells (a.add (sLen*i.size)) news).run P w= .ok () w'):
  (Builtin.append_ #[st,xt] ty #[.slice (some a) sLen sCap,x]).run P w= .ok (.slice (some a) (sLen+n) sCap) w':=by
 rcases hsrc with⟨hx,hlen,hnew⟩|⟨k,k',i',z,hu,rfl,hn,hi',hz,hus,hsz,hb⟩
 ·have hnew:=hnew w (fun _=>rfl)
  unfold T6 at hx
  split at hx
  ·rename_i hu;simp[Builtin.append_,run_underlying ht,run_underlying hu,sizeOf,typeInfo,hi,hlen,hfit,hnew,hst]
  ·rename_i hu;simp[Builtin.append_,run_underlying ht,run_underlying hu,sizeOf,typeInfo,hi,hlen,hfit,hnew,hst]
  ·cases hx
 ·rw[hi] at hi';cases hi'
  have hw:=a84 hn
  have hneg:¬((n:Int)<0):=by omega
  have hbig:¬(281474976710656<(n:Int)*(i.bytes:Int)):=by
   have:((n*i.bytes:Nat):Int)=(n:Int)*(i.bytes:Int):=Int.natCast_mul _ _
   omega
  have hzv:=b9m (P:=P) hi hz
  have hfit':sLen+(n:Int).toNat≤sCap:=by simpa using hfit
  by_cases h0:n*i.size=0
  ·have hnil:=b9i hus hsz h0
   subst hnil
   simp[Builtin.append_,run_underlying ht,run_underlying hu,sizeOf,typeInfo,hi,asInt,asIntOf,hw,hneg,hbig,hfit,h0,hst]
  ·simp[Builtin.append_,run_underlying ht,run_underlying hu,sizeOf,typeInfo,hi,asInt,asIntOf,hw,hneg,hbig,hfit,h0,hzv,←hus,hst]
theorem f6Z(need old:Nat)(h:old<need):Builtin.nextslicecap need old≤need+need/4+512:=by
 unfold Builtin.nextslicecap
 split
 ·omega
 ·split
  ·omega
  ·have key:∀(k c:Nat),c≤need+need/4+512→Builtin.growBy need k c≤need+need/4+512:=by
    intro k
    induction k with
    |zero=>intro c hc;exact hc
    |succ k ih=>
     intro c hc
     simp only[Builtin.growBy]
     split
     ·exact hc
     ·exact ih _ (by omega)
   exact key _ _ (by omega)
theorem b7C{st xt e ty:TypeId}{i:TypeInfo}{z:Value}(ht:P.underlying st=some (.slice e))(hi:P.info? e=some i)(hz:i.zero=some z){base:Option Addr}{sLen sCap n:Nat}{x:Value}{olds news:List Value}
  (hsrc:Src P w xt e i.size n x news) (hfit:sCap<sLen+n) (hbytes:(sLen+n)*i.bytes≤140737488355328) (hbb:i.bytes≤68719476736) (h63:sLen+n≤9223372036854775807) (hold:(Builtin.firstCells i.size sLen (.slice base sLen sCap)).run P w.drew= .ok olds.toArray w.drew):
  (Builtin.append_ #[st,xt] ty #[.slice base sLen sCap,x]).run P w= .ok (.slice (some ⟨w.heap.size,0,none⟩) (sLen+n) (grownCap w (sLen+n) sCap e))
   (w.drew.alloc (.cells (olds.toArray++news.toArray++Builtin.zeroCells z.cells (grownCap w (sLen+n) sCap e-(sLen+n))) e)):=by
 have hn:¬(sLen+n≤sCap):=by omega
 have h63':¬(9223372036854775807<((sLen:Int)+(n:Int))):=by omega
 have hcap:=f6Z (sLen+n) sCap hfit
 have h48':¬(281474976710656<Builtin.nextslicecap (sLen+n) sCap*i.bytes):=by
  have h1:Builtin.nextslicecap (sLen+n) sCap*i.bytes≤((sLen+n)+(sLen+n)/4+512)*i.bytes:=Nat.mul_le_mul_right _ hcap
  have h2:((sLen+n)+(sLen+n)/4+512)*i.bytes=(sLen+n)*i.bytes+(sLen+n)/4*i.bytes+512*i.bytes:=by rw[Nat.add_mul,Nat.add_mul]
  have h3:(sLen+n)/4*i.bytes*4≤(sLen+n)*i.bytes:=by
   rw[Nat.mul_right_comm]
   exact Nat.mul_le_mul_right _ (Nat.div_mul_le_self _ _)
  omega
 rcases hsrc with⟨hx,hlen,hnew⟩|⟨k,k',i',z',hu,rfl,hnn,hi',hz',hus,hsz,hb⟩
 ·have hnew:=hnew w.drew (fun _=>rfl)
  unfold T6 at hx
  split at hx
  ·rename_i hu;simp[Builtin.append_,run_underlying ht,run_underlying hu,sizeOf,typeInfo,zeroValue,hi,hz,hlen,hn,h63',h48',Question.forced,hnew,hold,newRow,grownCap];congr 2;apply Array.ext';simp[List.append_assoc]
  ·rename_i hu;simp[Builtin.append_,run_underlying ht,run_underlying hu,sizeOf,typeInfo,zeroValue,hi,hz,hlen,hn,h63',h48',Question.forced,hnew,hold,newRow,grownCap];congr 2;apply Array.ext';simp[List.append_assoc]
  ·cases hx
 ·rw[hi] at hi';cases hi'
  rw[hz] at hz';cases hz'
  have hw:=a84 hnn
  have hneg:¬((n:Int)<0):=by omega
  have hbig:¬(281474976710656<(n:Int)*(i.bytes:Int)):=by
   have:((n*i.bytes:Nat):Int)=(n:Int)*(i.bytes:Int):=Int.natCast_mul _ _
   omega
  have hzv:=b9m (P:=P) hi hz
  by_cases h0:n*i.size=0
  ·have hnil:=b9i hus hsz h0
   subst hnil
   simp[Builtin.append_,run_underlying ht,run_underlying hu,sizeOf,typeInfo,hi,asInt,asIntOf,hw,hneg,hbig,hn,h63',h48',Question.forced,h0,hzv,hold,newRow,grownCap]
  ·simp[Builtin.append_,run_underlying ht,run_underlying hu,sizeOf,typeInfo,hi,asInt,asIntOf,hw,hneg,hbig,hn,h63',h48',Question.forced,h0,hzv,hold,←hus,newRow,grownCap];congr 2;apply Array.ext';simp[List.append_assoc]
end
end Go.Am
