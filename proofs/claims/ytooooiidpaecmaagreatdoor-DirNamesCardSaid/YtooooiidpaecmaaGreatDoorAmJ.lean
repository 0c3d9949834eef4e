import Derived.Test.YtooooiidpaecmaaGreatDoorAmT
/- The abstract machine: an operation made ready, and the model's. -/
namespace Go.Am
open Go Go.RowKit
def g4A(ρ:Ren)(nx:Next)(x:AV):Prop:=(∃v,nx= .value v∧d6 ρ x=some v)∨(nx= .skip∧d6 ρ x=some undef)
def OpRes(P:Program)(w0:World)(s:Sem Next)(ρ:Ren)(w:World)(r:R):Prop:=
 ∀x m',r=some (x,m')→∃ρ' nx w',s.run P w= .ok nx w'∧g4A ρ' nx x∧ρ.le ρ'∧Sim P w0 ρ' m' w'
section
variable {P:Program} {w0:World} {ρ:Ren} {m:M} {w:World}
theorem OpRes.val{s:Sem Value}{s':Sem Next}{r:R}(h:Val P w0 s ρ w r)(e:s'=(do pure (.value (←s)))):OpRes P w0 s' ρ w r:=by
 intro x m' hr
 obtain⟨ρ',v,w',h1,h2,h3,h4⟩:=h x m' hr
 subst e
 exact⟨ρ',.value v,w',by simp[h1],.inl ⟨v,rfl,h2⟩,h3,h4⟩
theorem OpRes.none{s:Sem Next}{fr:Fr}:OpRes P w0 s ρ w (run .none fr m):=by intro x m' hr;cases hr
theorem g0E(h:Sim P w0 ρ m w){op:BinOp}{t:TypeId}{x y:Operand}{a:Operand→Value}{fr:Fr}(hx:d6 ρ (ev (cO x) fr)=some (a x))(hy:d6 ρ (ev (cO y) fr)=some (a y)):
  Val P w0 (do eqGuard op t x y (a x) (a y);binOp op t (a x) (a y)) ρ w (run (a2l P op t (cO x) (cO y)) fr m):=by
 by_cases hp:(op= .eql∨op= .neq)∧a0e P t=true
 ·obtain⟨ho,hp⟩:=hp
  rcases ho with rfl|rfl
  ·have:=e9y (neg:=false) h hp hx hy
   simp only[a2l,hp,l9]
   exact this
  ·have:=e9y (neg:=true) h hp hx hy
   simp only[a2l,hp,l9]
   exact this
 have e:run (a2l P op t (cO x) (cO y)) fr m=rto m (d8 P op t (ev (cO x) fr) (ev (cO y) fr)):=by
  have hpf:op= .eql∨op= .neq→a0e P t=false:=fun ho=>by
   cases hq:a0e P t with
   |false=>rfl
   |true=>exact absurd ⟨ho,hq⟩ hp
  cases op<;>simp only[a2l] <;>(try rw[hpf (by simp),u7])<;>first
   |exact b80
   |exact b8U
   |exact b83
   |exact b8w
   |exact b8N
   |exact b81
   |exact b9t
   |exact b9G
   |exact b9A
   |exact b9y
   |exact c0l
   |exact b98
   |rfl
 rw[e]
 refine Val.pureO h fun z hz=> ?_
 obtain⟨⟨u,h1,h2⟩,h3⟩:=c7b (w:=w) hz hx hy
 exact⟨u,by simp[h3 x y,h1],h2⟩
theorem T9{α:Type}{a:Array α}{x:α}(h:a.toList= [x]):a= #[x] :=by cases a;simp at h;rw[h]
theorem T7{α:Type}{a:Array α}{x y:α}(h:a.toList= [x,y]):a= #[x,y] :=by cases a;simp at h;rw[h]
theorem c4O{α:Type}{a:Array α}(h:a.toList= []):a= #[] :=by cases a;simp at h;rw[h]
theorem b9H{α:Type}{a:Array α}{x:α}{l:List α}(h:a.toList=x::l):a=(x::l).toArray:=by cases a;simp at h;rw[h]
theorem f51{o:Oper}{c:Call}{b:Builtin}{a:Operand→Value}(ho:o.op= .call c)(hb:c.callee= .builtin b):∃cs,execOp a o=builtin b c.argTypes o.type cs (c.args.map a):=
 ⟨_,by simp only[execOp,ho,resolve,hb];rfl⟩
theorem f6e(h:Sim P w0 ρ m w){o:Oper}{c:Call}{b:Builtin}{a:Operand→Value}{fr:Fr}(ho:o.op= .call c)(hb:c.callee= .builtin b)(ha:∀x∈c.args.toList,d6 ρ (ev (cO x) fr)=some (a x)):
  OpRes P w0 (execOp a o) ρ w (run (a9t P b c.argTypes.toList c.args.toList) fr m):=by
 obtain⟨cs,hbi⟩:=f51 (a:=a) ho hb
 unfold a9t
 split
 ·rename_i x hx
  split
  ·rename_i t ht
   have e1:=T9 hx
   have e2:=T9 ht
   rw[A6]
   split
   ·rename_i hs
    refine OpRes.val (g0j (ty:=o.type) h hs (ha x (by rw[hx];simp))) ?_
    rw[hbi,e1,e2];simp only[List.map_toArray,List.map_cons,List.map_nil];rfl
   ·split
    ·rename_i q hq
     refine OpRes.val (f9n (ty:=o.type) h hq (ha x (by rw[hx];simp))) ?_
     rw[hbi,e1,e2];simp only[List.map_toArray,List.map_cons,List.map_nil];rfl
    ·exact OpRes.none
  ·exact OpRes.none
 ·rename_i x k hx
  have e1:=T7 hx
  split
  ·rename_i t l ht
   have e2:=b9H ht
   split
   ·rename_i kd e he
    refine OpRes.val (f8s (ts:=l) (ty:=o.type) h he (ha x (by rw[hx];simp)) (ha k (by rw[hx];simp))) ?_
    rw[hbi,e1,e2];simp only[List.map_toArray,List.map_cons,List.map_nil];rfl
   ·exact OpRes.none
  ·exact OpRes.none
 ·rename_i x hx
  have e1:=T9 hx
  split
  ·rename_i t ht
   have e2:=T9 ht
   split
   ·rename_i q hq
    refine OpRes.val (f9m (ty:=o.type) h hq (ha x (by rw[hx];simp))) ?_
    rw[hbi,e1,e2];simp only[List.map_toArray,List.map_cons,List.map_nil];rfl
   ·split
    ·rename_i e he
     split
     ·rename_i z hz
      refine OpRes.val (f9v (ty:=o.type) h he hz (ha x (by rw[hx];simp))) ?_
      rw[hbi,e1,e2];simp only[List.map_toArray,List.map_cons,List.map_nil];rfl
     ·exact OpRes.none
    ·exact OpRes.none
  ·exact OpRes.none
 ·rename_i d x hx
  have e1:=T7 hx
  split
  ·rename_i t l ht
   have e2:=b9H ht
   split
   ·rename_i e he
    split
    ·rename_i size hs
     refine OpRes.val (f9q (ts:=l) (ty:=o.type) h he hs (ha d (by rw[hx];simp)) (ha x (by rw[hx];simp))) ?_
     rw[hbi,e1,e2];simp only[List.map_toArray,List.map_cons,List.map_nil];rfl
    ·exact OpRes.none
   ·exact OpRes.none
  ·exact OpRes.none
 ·rename_i s x hx
  split
  ·rename_i st xt ht
   have e1:=T7 hx
   have e2:=T7 ht
   split
   ·rename_i e he hs
    split
    ·rename_i size bytes z h1 h2 h3
     refine OpRes.val (f98 (ty:=o.type) h he hs h1 h2 h3 (ha s (by rw[hx];simp)) (ha x (by rw[hx];simp))) ?_
     rw[hbi,e1,e2];simp only[List.map_toArray,List.map_cons,List.map_nil];rfl
    ·exact OpRes.none
   ·rename_i e he hs
    split
    ·rename_i ik size bytes z h0 h1 h2 h3
     refine OpRes.val (f9P (ty:=o.type) h he h0 h1 h2 h3 (ha s (by rw[hx];simp)) (ha x (by rw[hx];simp))) ?_
     rw[hbi,e1,e2];simp only[List.map_toArray,List.map_cons,List.map_nil];rfl
    ·exact OpRes.none
   ·exact OpRes.none
  ·exact OpRes.none
 ·rename_i x hx
  have e1:=T9 hx
  split
  ·rename_i t ht
   have e2:=T9 ht
   split
   ·rename_i e he
    refine OpRes.val (g0J (ty:=o.type) h he (ha x (by rw[hx];simp))) ?_
    rw[hbi,e1,e2];simp only[List.map_toArray,List.map_cons,List.map_nil];rfl
   ·exact OpRes.none
  ·exact OpRes.none
 ·rename_i x y hx
  have e1:=T7 hx
  refine OpRes.val (f9f (ts:=c.argTypes) (ty:=o.type) h (ha x (by rw[hx];simp)) (ha y (by rw[hx];simp))) ?_
  rw[hbi,e1];simp only[List.map_toArray,List.map_cons,List.map_nil];rfl
 ·rename_i x hx
  have e1:=T9 hx
  refine OpRes.val (f9t (ts:=c.argTypes) (ty:=o.type) h (ha x (by rw[hx];simp))) ?_
  rw[hbi,e1];simp only[List.map_toArray,List.map_cons,List.map_nil];rfl
 ·rename_i x hx
  have e1:=T9 hx
  refine OpRes.val (f8D (ts:=c.argTypes) (ty:=o.type) h (ha x (by rw[hx];simp))) ?_
  rw[hbi,e1];simp only[List.map_toArray,List.map_cons,List.map_nil];rfl
 ·rename_i x y hx
  have e1:=T7 hx
  refine OpRes.val (g0r (ts:=c.argTypes) (ty:=o.type) h (ha x (by rw[hx];simp)) (ha y (by rw[hx];simp))) ?_
  rw[hbi,e1];simp only[List.map_toArray,List.map_cons,List.map_nil];rfl
 ·rename_i x y hx
  have e1:=T7 hx
  refine OpRes.val (g07 (ts:=c.argTypes) (ty:=o.type) h (ha x (by rw[hx];simp)) (ha y (by rw[hx];simp))) ?_
  rw[hbi,e1];simp only[List.map_toArray,List.map_cons,List.map_nil];rfl
 ·rename_i x hx
  have e1:=T9 hx
  refine OpRes.val (g0i (ts:=c.argTypes) (ty:=o.type) h (ha x (by rw[hx];simp))) ?_
  rw[hbi,e1];simp only[List.map_toArray,List.map_cons,List.map_nil];rfl
 ·rename_i x n hx
  have e1:=T7 hx
  split
  ·rename_i pt it ht
   have e2:=T7 ht
   split
   ·rename_i u hu
    split
    ·rename_i s hs
     rw[A6]
     split
     ·rename_i hs1
      have hs1:=Nat.eq_of_beq_eq_true hs1
      subst hs1
      refine OpRes.val (f94 (it:=it) (ty:=o.type) h hu hs (ha x (by rw[hx];simp)) (ha n (by rw[hx];simp))) ?_
      rw[hbi,e1,e2];simp only[List.map_toArray,List.map_cons,List.map_nil];rfl
     ·exact OpRes.none
    ·exact OpRes.none
   ·exact OpRes.none
  ·exact OpRes.none
 ·exact OpRes.none
theorem g4d(h:Sim P w0 ρ m w)(o:Oper){a:Operand→Value}{fr:Fr}(ha:∀x∈o.op.operands.toList,d6 ρ (ev (cO x) fr)=some (a x)):
  OpRes P w0 (execOp a o) ρ w (run (cOp P o.op) fr m):=by
 obtain⟨dst,op,type,pos,after,guard⟩:=o
 cases op<;>simp only[cOp,Op.operands] at ha⊢
 case move x=>exact OpRes.val (s:=pure (a x)) (Val.pure h rfl (ha x (by simp))) rfl
 case assign x=>exact OpRes.val (s:=pure (a x)) (Val.pure h rfl (ha x (by simp))) rfl
 case pick c x y=>
  intro z m' hr
  obtain⟨t,ht,hr⟩:=a9I hr
  have hc:=ha c (by simp)
  rw[ht,C2] at hc
  have hc:a c= .bool t:=(Option.some.inj hc).symm
  cases t
  ·cases hr;exact⟨ρ,.value (a y),w,by simp[execOp,hc,asBool],.inl ⟨_,rfl,ha y (by simp)⟩,Ren.le_refl ρ,h⟩
  ·cases hr;exact⟨ρ,.value (a x),w,by simp[execOp,hc,asBool],.inl ⟨_,rfl,ha x (by simp)⟩,Ren.le_refl ρ,h⟩
 case alloc e=>
  split
  ·rename_i n z h1 h2;exact OpRes.val (f7J h h1 h2 _ fr) rfl
  ·exact OpRes.none
 case box e x=>exact OpRes.val (f96 h (ha x (by simp))) rfl
 case build t ps=>
  have ha':∀q∈ps.toList,d6 ρ (ev (cO q.2) fr)=some (a q.2):=fun q hq=>ha q.2 (by simp at hq⊢;exact⟨q.1,hq⟩)
  split
  ·rename_i z fs h1 h2
   split
   ·rename_i qs h3 h4;exact OpRes.val (f5F h h1 h2 h3 h4 ha') rfl
   ·exact OpRes.none
  ·rename_i z n e h1 h2
   split
   ·rename_i size h3
    split
    ·rename_i qs h4;exact OpRes.val (f5w h h1 h2 h3 h4 ha') rfl
    ·exact OpRes.none
   ·exact OpRes.none
  ·exact OpRes.none
 case buildSlice t len ps=>
  have ha':∀q∈ps.toList,d6 ρ (ev (cO q.2) fr)=some (a q.2):=fun q hq=>ha q.2 (by simp at hq⊢;exact⟨q.1,hq⟩)
  split
  ·rename_i e h1
   split
   ·rename_i size z h2 h3
    rw[A6]
    split
    ·rename_i hb
     split
     ·rename_i qs h4;exact OpRes.val (f6w h h1 h2 h3 hb h4 ha') rfl
     ·exact OpRes.none
    ·exact OpRes.none
   ·exact OpRes.none
  ·exact OpRes.none
 case load t x=>
  split
  ·rename_i n h1 h2;exact OpRes.val (f7I h h1 h2 (ha x (by simp))) rfl
  ·rename_i n h1 h2;exact OpRes.val (f9u h h1 (ha x (by simp))) rfl
  ·exact OpRes.none
 case store t x y=>
  split
  ·rename_i n h1
   intro z m' hr
   obtain⟨rfl,w',p1,p2⟩:=f7B h h1 (ha x (by simp)) (ha y (by simp)) hr
   exact⟨ρ,.skip,w',by simp[execOp,p1],.inr ⟨rfl,I1⟩,Ren.le_refl ρ,p2⟩
  ·exact OpRes.none
 case nilCheck x=>
  intro z m' hr
  have hx:=ha x (by simp)
  have hr:elPtr (elFunc (elBnd none (fun _ _=>some (ev (cO x) fr,m)) (ev (cO x) fr)) (fun _ _=>some (ev (cO x) fr,m)) (ev (cO x) fr)) (fun _ _=>some (ev (cO x) fr,m)) (ev (cO x) fr)=some (z,m'):=hr
  cases hv:ev (cO x) fr<;>simp only[hv,elPtr,elFunc,elBnd,reduceCtorEq,Option.some.injEq,Prod.mk.injEq] at hr
  case ptr b off=>
   obtain⟨rfl,rfl⟩:=hr
   rw[hv] at hx
   obtain⟨r,hr1,he⟩:=E5 hx
   exact⟨ρ,.value (a x),w,by simp[execOp,he],.inl ⟨_,rfl,hx⟩,Ren.le_refl ρ,h⟩
  case func g caps=>
   obtain⟨rfl,rfl⟩:=hr
   rw[hv] at hx
   have hx':=hx
   simp only[d6,Option.map_eq_some_iff] at hx'
   obtain⟨vs,_,he⟩:=hx'
   exact⟨ρ,.value (a x),w,by simp[execOp,←he],.inl ⟨_,rfl,hx⟩,Ren.le_refl ρ,h⟩
  case bnd g first=>
   obtain⟨rfl,rfl⟩:=hr
   rw[hv] at hx
   have hx':=hx
   simp only[d6,Option.map_eq_some_iff] at hx'
   obtain⟨vs,_,he⟩:=hx'
   exact⟨ρ,.value (a x),w,by simp[execOp,←he],.inl ⟨_,rfl,hx⟩,Ren.le_refl ρ,h⟩
 case binOp op t x y yt=>exact OpRes.val (g0E h (ha x (by simp)) (ha y (by simp))) rfl
 case unOp op t x=>exact OpRes.val (g35 h (ha x (by simp))) rfl
 case convert s d x=>
  split
  ·rename_i j k h1 h2;exact OpRes.val (f79 h h1 h2 (ha x (by simp))) rfl
  ·rename_i j k h1 h2;exact OpRes.val (f7r h h1 h2 (ha x (by simp))) rfl
  ·rename_i j k h1 h2;exact OpRes.val (f7g h h1 h2 (ha x (by simp))) rfl
  ·rename_i e h1 h2
   split
   ·rename_i h3;exact OpRes.val (g1m h h1 h3 h2 (ha x (by simp))) rfl
   ·exact OpRes.none
  ·rename_i _ e _ h2
   split
   ·rename_i h3
    rw[A6]
    split
    ·rename_i hsd
     have hsd:=Nat.eq_of_beq_eq_true hsd
     subst hsd
     exact OpRes.val (f9o h h2 h3 (ha x (by simp))) rfl
    ·exact OpRes.none
   ·exact OpRes.none
  ·rename_i e h1 h2
   split
   ·rename_i h3 h4;exact OpRes.val (g1G h h1 h2 h3 h4 (ha x (by simp))) rfl
   ·exact OpRes.none
  ·rename_i t h1 h2
   split
   ·rename_i n h3
    rw[A6]
    split
    ·exact OpRes.none
    ·rename_i h4;exact OpRes.val (g1u h h1 h2 h3 (Bool.eq_false_iff.2 h4) (ha x (by simp))) rfl
   ·exact OpRes.none
  ·rename_i u h1 h2
   split
   ·rename_i n h3
    rw[A6]
    split
    ·exact OpRes.none
    ·rename_i h4;exact OpRes.val (g0e h h1 h2 h3 (Bool.eq_false_iff.2 h4) (ha x (by simp))) rfl
   ·exact OpRes.none
  ·exact OpRes.none
 case range t x=>
  split
  ·rename_i q hq;exact OpRes.val (f77 h hq (ha x (by simp))) rfl
  ·rw[A6]
   split
   ·rename_i hs;exact OpRes.val (f6v h hs (ha x (by simp))) rfl
   ·exact OpRes.none
 case next x str=>
  rw[A6]
  split
  ·rename_i hs
   have hs:str=true:=by simpa using hs
   subst hs
   exact OpRes.val (f7x (ty:=type) h (ha x (by simp))) rfl
  ·rename_i hs
   have hs:str=false:=by simpa using hs
   subst hs
   exact OpRes.val (f9E (ty:=type) h (ha x (by simp))) rfl
 case makeInterface t x=>
  split
  ·exact OpRes.none
  ·rename_i d hd1 hd2;exact OpRes.val (f9V h hd2 (fun l e=>by subst e;exact hd1 _ rfl) (ha x (by simp))) rfl
  ·exact OpRes.none
 case typeAssert x s t ok=>
  split
  ·exact OpRes.none
  ·rename_i d hd1 hd2;exact OpRes.val (g0G h hd2 (fun l e=>by subst e;exact hd1 _ rfl) (ha x (by simp))) rfl
  ·exact OpRes.none
 case makeFunc fn first caps=>
  cases fn<;>try exact OpRes.none
  rename_i g
  have key:∀l:List Operand,(∀x∈l,d6 ρ (ev (cO x) fr)=some (a x))→i8 ρ (evs (cOl l) fr)=some (l.map a):=by
   intro l
   induction l with
   |nil=>intro _;exact o0 ρ
   |cons x l ih=>intro hl;exact o9.2 ⟨a x,l.map a,hl x (by simp),ih (fun y hy=>hl y (by simp[hy])),rfl⟩
  simp only
  split
  ·rename_i hf
   have e0:=c4O hf
   intro z m' hr
   cases hr
   refine⟨ρ,.value (.func (.func g) #[] (caps.map a)),w,by simp[execOp,e0,Instr.makeFunc],.inl ⟨_,rfl,?_⟩,Ren.le_refl ρ,h⟩
   simp only[d6,key caps.toList (fun x hx=>ha x (by simp at hx⊢;exact .inr hx)),Option.map_some]
   exact congrArg (fun z=>some (Value.func (.func g) #[] z)) (Array.ext' (by simp))
  ·rename_i hf _
   have e0:=c4O hf
   intro z m' hr
   cases hr
   refine⟨ρ,.value (.func (.func g) (first.map a) #[]),w,by simp[execOp,e0,Instr.makeFunc],.inl ⟨_,rfl,?_⟩,Ren.le_refl ρ,h⟩
   simp only[d6,key first.toList (fun x hx=>ha x (by simp at hx⊢;exact .inl hx)),Option.map_some]
   exact congrArg (fun z=>some (Value.func (.func g) z #[])) (Array.ext' (by simp))
  ·exact OpRes.none
 case makeSlice t l k=>
  split
  ·rename_i e h1
   split
   ·rename_i size bytes z h2 h3 h4;exact OpRes.val (f9p h h1 h2 h3 h4 (ha l (by simp)) (ha k (by simp))) rfl
   ·exact OpRes.none
  ·exact OpRes.none
 case slice t x lo hi mx=>
  have hlo:=a9O (ρ:=ρ) (a:=a) (fr:=fr) lo (fun y hy=>ha y (by simp[hy]))
  have hhi:=a9O (ρ:=ρ) (a:=a) (fr:=fr) hi (fun y hy=>ha y (by simp[hy]))
  have hmx:=a9O (ρ:=ρ) (a:=a) (fr:=fr) mx (fun y hy=>ha y (by simp[hy]))
  split
  ·rename_i h1
   split
   ·rename_i hm;exact OpRes.val (f9T h h1 (ha x (by simp)) hlo.1 hlo.2 hhi.1 hhi.2) rfl
   ·exact OpRes.none
  ·rename_i e h1
   split
   ·rename_i size h2
    rw[A6]
    split
    ·rename_i hb
     have:=g2D (lo:=lo.map cO) (hi:=hi.map cO) (mx:=mx.map cO) h h1 h2 (by simpa using hb) (ha x (by simp)) hlo.1 hlo.2 hhi.1 hhi.2 hmx.1 hmx.2
     rw[Option.isSome_map] at this
     exact OpRes.val this rfl
    ·exact OpRes.none
   ·exact OpRes.none
  ·rename_i n e h1
   split
   ·rename_i size h2
    rw[A6]
    split
    ·rename_i hb
     exact OpRes.val (g1O (lo:=lo.map cO) (hi:=hi.map cO) (mx:=mx.map cO) h h1 h2 (by simpa using hb) (ha x (by simp)) hlo.1 hlo.2 hhi.1 hhi.2 hmx.1 hmx.2) rfl
    ·exact OpRes.none
   ·exact OpRes.none
  ·exact OpRes.none
 case fieldAddr s x i=>
  split
  ·rename_i fd h1
   split
   ·rename_i n h2
    rw[A6]
    split
    ·exact OpRes.none
    ·rename_i h3;exact OpRes.val (g4y h h1 h2 (Bool.eq_false_iff.2 h3) (ha x (by simp))) rfl
   ·exact OpRes.none
  ·exact OpRes.none
 case field t x i=>
  split
  ·rename_i fd h1
   split
   ·rename_i n h2 h3;exact OpRes.val (f8K h h1 h2 h3 (ha x (by simp))) rfl
   ·rename_i n h2 h3;exact OpRes.val (g03 h h1 h2 (ha x (by simp))) rfl
   ·exact OpRes.none
  ·exact OpRes.none
 case indexAddr t x i=>
  split
  ·rename_i e h1
   split
   ·rename_i size h2;exact OpRes.val (g1b h h1 h2 (ha x (by simp)) (ha i (by simp))) rfl
   ·exact OpRes.none
  ·rename_i len e h1
   split
   ·rename_i size h2;exact OpRes.val (g1W h h1 h2 (ha x (by simp)) (ha i (by simp))) rfl
   ·exact OpRes.none
  ·exact OpRes.none
 case index t x i=>
  split
  ·rename_i h1;exact OpRes.val (g0z h h1 (ha x (by simp)) (ha i (by simp))) rfl
  ·exact OpRes.none
 case extract x i=>exact OpRes.val (g0m h (ha x (by simp))) rfl
 case makeMap t hh=>
  split
  ·rename_i q hq
   exact OpRes.val (f7S h hq (fun x hx=>by subst hx;exact ha x (by simp))) rfl
  ·exact OpRes.none
 case lookup t x i ok=>
  split
  ·rename_i kd e hq
   split
   ·rename_i z hz;exact OpRes.val (f80 (ok:=ok) h hq hz (ha x (by simp)) (ha i (by simp))) rfl
   ·exact OpRes.none
  ·exact OpRes.none
 case mapUpdate t x k v=>
  split
  ·rename_i kd e hq
   intro z m' hr
   obtain⟨rfl,w',p1,p2⟩:=b97 h hq (ha x (by simp)) (ha k (by simp)) (ha v (by simp)) hr
   exact⟨ρ,.skip,w',by simp[execOp,p1],.inr ⟨rfl,I1⟩,Ren.le_refl ρ,p2⟩
  ·exact OpRes.none
 case insert t x k v=>
  split
  ·rename_i kd e hq
   intro z m' hr
   obtain⟨rfl,w',p1,p2⟩:=b97 h hq (ha x (by simp)) (ha k (by simp)) (ha v (by simp)) hr
   exact⟨ρ,.skip,w',by simp[execOp,p1],.inr ⟨rfl,I1⟩,Ren.le_refl ρ,p2⟩
  ·exact OpRes.none
 case call c=>
  split
  ·rename_i b hb
   exact f6e h (o:=⟨dst,.call c,type,pos,after,guard⟩) rfl hb (fun x hx=>ha x (by simp[Call.operands,hb];simpa using hx))
  ·exact OpRes.none
 all_goals exact OpRes.none
end
end Go.Am
