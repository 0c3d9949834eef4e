import Derived.Test.YtooooiidpaecmaaGreatDoorAmZ
/- The abstract machine: how each operation goes, where values are not known. -/
namespace Go.Am
open Go Go.RowKit
section
variable {P:Program} {T:Tb} {fr:Fr} {m:M}
theorem i9{g:FuncId}{fn:Func}{c:Code}{cc:CC}{nt:Nat}{rs:List ResultVar}(hT:T.fs=M4 P)(hf:P.funcs[g]? =some fn)(hb:fn.body=some c)(hc:i8 P c=cc)(hs:u6 fn.ntmps c=true)(hn:fn.ntmps=nt)(hr:fn.results.toList=rs):FnAt P T g cc nt rs:=
 ⟨fn,c,by rw[hT];exact X7 hf,hb,hc,hs,hn,hr⟩
theorem e0j{β:Type}(d:β)(k:Bool→β)(c:Bool):elB d k (.b c)=k c:=rfl
theorem X6{β:Type}(d:β)(k:Nat→Nat→β)(b o:Nat):elPtr d k (.ptr b o)=k b o:=rfl
theorem c2Y{β:Type}(d:β)(k:List AV→β)(l:List AV):elTup d k (.tuple l)=k l:=rfl
theorem b8L{β:Type}(d:β)(k:List AV→β)(l:List AV):elAgg d k (.agg l)=k l:=rfl
theorem B8{α β:Type}(a:α)(k:α→Option β):ob (some a) k=k a:=rfl
theorem d92(v:AV):rto m (some v)=some (v,m):=rfl
theorem b6V(i:Int):A8 (iv i)=some [iv i] :=by cases i<;>rfl
theorem b6K(l:List UInt8):A8 (tv l)=some [tv l] :=rfl
theorem a7l(l:List AV):A8 (.agg l)=some l:=rfl
theorem b5x(b o:Nat):A8 (.ptr b o)=some [.ptr b o] :=rfl
theorem c4c(c:Bool):A8 (.b c)=some [.b c] :=rfl
theorem b4N:A8 l9=some [l9] :=rfl
theorem c8a(w c:Bool):C2 w (.b c)=some (bc c w (!w)):=rfl
theorem b45(w:Bool):C2 w AV.undef=some false:=rfl
theorem b57(v:AV)(fr:Fr):l0 none v fr=fr:=rfl
theorem a1m(t:Nat)(v:AV)(fr:Fr):l0 (some (pth t)) v fr=C0 t v fr:=rfl
theorem e2x(x:RO):run (.mv x) fr m=some (ev x fr,m):=rfl
theorem c82(c x y:RO):run (.pick c x y) fr m=elB none (fun c=>bc c (some (ev x fr,m)) (some (ev y fr,m))) (ev c fr):=rfl
theorem a74(e n:Nat)(z:List AV):run (.alloc e n z) fr m=some (.ptr m.next 0,m.addZ e n z):=rfl
theorem d96(e:TypeId)(x:RO):run (.box e x) fr m=ob (A8 (ev x fr)) fun cs=>some (.ptr m.next 0,m.addL e cs.length cs):=rfl
theorem c4y(z:List AV)(ps:List (Nat×Nat×RO)):run (.build z ps) fr m=ob (H0 (K7 ps fr) z) fun l=>some (.agg l,m):=rfl
theorem b7f(e len n:Nat)(z:List AV)(ps:List (Nat×Nat×RO)):run (.bslice e len n z ps) fr m=ob (H0 (K7 ps fr) (A1 len z)) fun l=>some (.slice m.next 0 len len false,m.addL e n l):=rfl
theorem d3y:K7 [] fr= [] :=rfl
theorem c5I(a b:Nat)(x:RO)(l:List (Nat×Nat×RO)):K7 ((a,b,x)::l) fr=(a,b,ev x fr)::K7 l fr:=rfl
theorem b5G(l:List AV):H0 [] l=some l:=rfl
theorem b4S(off size:Nat)(v:AV)(rest:List (Nat×Nat×AV))(cells:List AV):H0 ((off,size,v)::rest) cells=ob (A8 v) fun cs=>bc (Nat.beq cs.length size&&Nat.ble (off+size) cells.length) (H0 rest (cells.take off++cs++cells.drop (off+size))) none:=rfl
theorem d4Z(z:List AV):A1 1 z=z:=by show z++ [] =z;simp
theorem c63(z:List AV):A1 2 z=z++z:=by show z++(z++ [])=_;simp
theorem d5a(x:RO):run (.load x) fr m=elPtr none (fun b off=>rto m (m.rd b off)) (ev x fr):=rfl
theorem c1E(n:Nat)(x:RO):run (.loadN n x) fr m=elPtr none (fun b off=>ob (m.rdN b off n) fun l=>some (.agg l,m)) (ev x fr):=rfl
theorem a8j(n:Nat)(a x:RO):run (.store n a x) fr m=elPtr none (fun b off=>ob (A8 (ev x fr)) fun cs=>bc (Nat.beq cs.length n) (ob (m.wr b off cs) fun m=>some (.undef,m)) none) (ev a fr):=rfl
theorem d9G(x:RO):run (.nil x) fr m=a2z (.cst (ev x fr)) .leaf m:=rfl
theorem d9t(b o:Nat):a2z (.cst (.ptr b o)) .leaf m=some (.ptr b o,m):=rfl
theorem e0q(t:TypeId)(x y:RO):run (.add (d8 P .add t) x y) fr m=rto m (d8 P .add t (ev x fr) (ev y fr)):=b5t
theorem e0k(t:TypeId)(x y:RO):run (.sub (d8 P .sub t) x y) fr m=rto m (d8 P .sub t (ev x fr) (ev y fr)):=b5V
theorem e0g(t:TypeId)(x y:RO):run (.mul (d8 P .mul t) x y) fr m=rto m (d8 P .mul t (ev x fr) (ev y fr)):=b5l
theorem e0y(t:TypeId)(x y:RO):run (.quo (d8 P .quo t) x y) fr m=rto m (d8 P .quo t (ev x fr) (ev y fr)):=b5z
theorem e0w(t:TypeId)(x y:RO):run (.rem (d8 P .rem t) x y) fr m=rto m (d8 P .rem t (ev x fr) (ev y fr)):=b56
theorem e2m(t:TypeId)(x y:RO):run (.lt (d8 P .lss t) x y) fr m=rto m (d8 P .lss t (ev x fr) (ev y fr)):=b6w
theorem e2v(t:TypeId)(x y:RO):run (.le (d8 P .leq t) x y) fr m=rto m (d8 P .leq t (ev x fr) (ev y fr)):=b6O
theorem e1M(t:TypeId)(x y:RO):run (.gt (d8 P .gtr t) x y) fr m=rto m (d8 P .gtr t (ev x fr) (ev y fr)):=b62
theorem e1p(t:TypeId)(x y:RO):run (.ge (d8 P .geq t) x y) fr m=rto m (d8 P .geq t (ev x fr) (ev y fr)):=b7e
theorem e08(t:TypeId)(x y:RO):run (.eq (d8 P .eql t) x y) fr m=rto m (d8 P .eql t (ev x fr) (ev y fr)):=b69
theorem e18(t:TypeId)(x y:RO):run (.ne (d8 P .neq t) x y) fr m=rto m (d8 P .neq t (ev x fr) (ev y fr)):=b6y
theorem d9M(neg:Bool)(sl:SL)(x y:RO):run (.eqp neg sl x y) fr m=J3 neg sl (.cst (ev x fr)) (.cst (ev y fr)) .leaf m:=rfl
theorem b9x(neg:Bool)(sl:SL)(b o:Nat):J3 neg sl (.cst (.ptr b o)) (.cst l9) .leaf m=rto m (sl (.ptr b o) l9):=rfl
theorem b7b(neg:Bool)(sl:SL):J3 neg sl (.cst l9) (.cst l9) .leaf m=rto m (sl l9 l9):=rfl
theorem b4V(neg:Bool)(sl:SL)(b o o':Nat):J3 neg sl (.cst (.ptr b o)) (.cst (.ptr b o')) .leaf m=rto m (sl (.ptr b o) (.ptr b o')):=by
 show bc (Nat.beq b b) _ _=_
 rw[Nat.beq_refl];rfl
theorem e2D(op:UnOp)(x:RO):run (.un op x) fr m=rto m (unS op (ev x fr)):=rfl
theorem d9w(c:Bool):unS .not (.b c)=some (.b (!c)):=rfl
noncomputable def a2x(x:AV)(lo hi:Option AV)(m:M):R:=ob (toS x) fun s=>ob (bnd hi s.size s.size) fun h=>ob (bnd lo 0 h) fun l=>some (.p (.string ⟨((s.data.toList.take h).drop l).toArray⟩),m)
theorem e0m(x:RO)(lo hi:Option RO):run (.sls x lo hi) fr m=a2x (ev x fr) (evo lo fr) (evo hi fr) m:=rfl
theorem c4f(l:List UInt8):(ByteArray.mk l.toArray).size=l.length:=by show l.toArray.size=l.length;simp
theorem b6l(l:List UInt8){b:Nat}(h2:b≤l.length):a2x (tv l) none (some (iv (b:Int))) m=some (tv (l.take b),m):=by
 unfold a2x
 rw[d6d,B8,c4f,O8 h2,B8];rfl
theorem e68(l:List UInt8){a:Nat}(h1:a≤l.length):a2x (tv l) (some (iv (a:Int))) none m=some (tv (l.drop a),m):=by
 unfold a2x
 rw[d6d,B8,c4f,a7A,B8,O8 h1]
 show some (AV.p (.string ⟨((l.take l.length).drop a).toArray⟩),m)=_
 rw[List.take_length];rfl
theorem d6t(sz:Nat)(x h:RO):run (.sl sz false x none (some h) none) fr m=rSl sz false (.cst (ev x fr)) none (some (.cst (ev h fr))) none .leaf m:=rfl
theorem d15(sz:Nat)(x l:RO):run (.sl sz false x (some l) none none) fr m=rSl sz false (.cst (ev x fr)) (some (.cst (ev l fr))) none none .leaf m:=rfl
noncomputable def faV(off:Nat)(x:AV)(m:M):R:=elPtr none (fun b o=>fc (Nat.add o off) fun o=>some (.ptr b o,m)) x
theorem e1I(off:Nat)(x:RO):run (.fa off x) fr m=faV off (ev x fr) m:=rfl
theorem e06(off b o:Nat):faV off (.ptr b o) m=some (.ptr b (o+off),m):=by unfold faV;rw[X6,v6];rfl
theorem d9u(sz:Nat)(x i:RO):run (.iaS sz x i) fr m=a1f sz (.cst (ev x fr)) (.cst (ev i fr)) .leaf m:=rfl
theorem B5(sz b off len cap:Nat)(lim:Bool){k:Nat}(h:k<len):a1f sz (.cst (.slice b off len cap lim)) (.cst (iv (k:Int))) .leaf m=some (.ptr b (off+k*sz),m):=by
 show bc (Nat.ble (Nat.succ k) len) (fc (Nat.add off (Nat.mul k sz)) fun o=>some (AV.ptr b o,m)) none=_
 rw[v8,decide_eq_true (by omega),l7,v6];rfl
theorem d9T(i:Nat)(x:RO):run (.ext i x) fr m=elTup none (fun vs=>rto m vs[i]?) (ev x fr):=rfl
theorem e0e(s:Bool)(x:RO):run (.len s x) fr m=ob (I0 s (ev x fr)) fun n=>some (iv (n:Int),m):=rfl
theorem d4M(l:List UInt8):I0 true (tv l)=some l.length:=by
 show some (ByteArray.mk l.toArray).data.size=_
 simp
theorem a8J(b off len cap:Nat)(lim:Bool):I0 false (.slice b off len cap lim)=some len:=rfl
theorem b6U:I0 false i7=some 0:=rfl
theorem d9P(e sz bytes:Nat)(z:List AV)(s x:RO):run (.app e sz bytes z s x) fr m=a0g e sz bytes z (.cst (ev s fr)) (.cst (ev x fr)) .leaf m:=rfl
theorem e0h(x y:RO):run (.min x y) fr m=a1c (.cst (ev x fr)) (.cst (ev y fr)) .leaf m:=rfl
theorem e0d(x y:RO):run (.max x y) fr m=a1d (.cst (ev x fr)) (.cst (ev y fr)) .leaf m:=rfl
theorem d9y(a b:Int):a1c (.cst (iv a)) (.cst (iv b)) .leaf m=some (iv (min a b),m):=by
 show(ob (toI (iv a)) fun a=>ob (toI (iv b)) fun b=>some (ofI a.1 (if b.2<a.2 then b.2 else a.2),m))=_
 rw[U0,U0]
 show some (iv (if b<a then b else a),m)=_
 congr 3
 omega
theorem d9Q(a b:Int):a1d (.cst (iv a)) (.cst (iv b)) .leaf m=some (iv (max a b),m):=by
 show(ob (toI (iv a)) fun a=>ob (toI (iv b)) fun b=>some (ofI a.1 (if b.2>a.2 then b.2 else a.2),m))=_
 rw[U0,U0]
 show some (iv (if b>a then b else a),m)=_
 congr 3
 omega
theorem G6(op:BinOp)(t:TypeId)(a b:Int):d8 P op t (iv a) (iv b)=a1R op .i64 a .i64 b:=by
 unfold d8
 rw[U0,U0]
theorem d99(t:TypeId){a b:Int}(h1: -9223372036854775808≤a+b)(h2:a+b≤9223372036854775807):d8 P .add t (iv a) (iv b)=some (iv (a+b)):=by
 rw[G6]
 show some (iv (IntKind.i64.wrap (a+b)))=_
 rw[IntWalk.i64_in _ ⟨h1,h2⟩]
theorem d9J(t:TypeId){a b:Int}(h1: -9223372036854775808≤a-b)(h2:a-b≤9223372036854775807):d8 P .sub t (iv a) (iv b)=some (iv (a-b)):=by
 rw[G6]
 show some (iv (IntKind.i64.wrap (a-b)))=_
 rw[IntWalk.i64_in _ ⟨h1,h2⟩]
theorem a0M(t:TypeId){a b:Nat}(h:0<b)(h2:a≤9223372036854775807):d8 P .quo t (iv (a:Int)) (iv (b:Int))=some (iv ((a/b:Nat):Int)):=by
 rw[G6]
 show(if(b:Int)=0 then none else some (iv (IntKind.i64.wrap ((a:Int).tdiv (b:Int)))))=_
 rw[if_neg (by omega)]
 have e:(a:Int).tdiv (b:Int)=((a/b:Nat):Int):=rfl
 have hle:a/b≤a:=Nat.div_le_self a b
 rw[e]
 generalize a/b=q at hle
 rw[IntWalk.i64_in _ (by omega)]
theorem e0H(t:TypeId)(a b:Int):d8 P .lss t (iv a) (iv b)=some (.b (decide (a<b))):=by rw[G6];rfl
theorem e0P(t:TypeId)(a b:Int):d8 P .leq t (iv a) (iv b)=some (.b (decide (a≤b))):=by rw[G6];rfl
theorem e2g(t:TypeId)(a b:Int):d8 P .gtr t (iv a) (iv b)=some (.b (decide (b<a))):=by rw[G6];rfl
theorem e1n(t:TypeId)(a b:Int):d8 P .geq t (iv a) (iv b)=some (.b (decide (b≤a))):=by rw[G6];rfl
theorem e0U(t:TypeId)(a b:Int):d8 P .eql t (iv a) (iv b)=some (.b (decide (a=b))):=by
 rw[G6]
 show some (AV.b (a==b))=_
 congr 2
theorem e0Y(t:TypeId)(a b:Int):d8 P .neq t (iv a) (iv b)=some (.b (!decide (a=b))):=by
 rw[G6]
 show some (AV.b (a !=b))=_
 congr 2
theorem a0o:∀(a b:List UInt8),E1 a b=decide (a=b)
 | [],[] =>rfl
 | [],_::_=>rfl
 |_::_,[] =>rfl
 |x::a,y::b=>by
  show(Nat.beq x.toNat y.toNat&&E1 a b)=_
  rw[a0o a b,y4]
  by_cases h:x=y
  ·subst h;simp
  ·have:¬x.toNat=y.toNat:=fun e=>h (UInt8.toNat_inj.1 e)
   simp[h,this]
theorem a3s(op:BinOp)(t:TypeId)(a b:List UInt8):d8 P op t (tv a) (tv b)=a4X op ⟨a.toArray⟩ ⟨b.toArray⟩:=rfl
theorem d9B(t:TypeId)(a b:List UInt8):d8 P .eql t (tv a) (tv b)=some (.b (decide (a=b))):=by
 rw[a3s]
 show some (AV.b (E1 a b))=_
 rw[a0o]
theorem e0A(t:TypeId)(a b:List UInt8):d8 P .neq t (tv a) (tv b)=some (.b (!decide (a=b))):=by
 rw[a3s]
 show some (AV.b (!E1 a b))=_
 rw[a0o]
theorem d9Y(i:Int):t8 40 (iv i) (iv i)=true:=by cases i<;>simp[iv,cv1,t8,veq]
theorem d9S(l:List UInt8):t8 40 (tv l) (tv l)=true:=by
 show E1 l l=true
 rw[a0o];simp
theorem f5a{n:Nat}{i:Int}:t8 (n+1) (iv i) (iv i)=true:=by cases i<;>simp[iv,cv1,t8,veq]
theorem f4J{n:Nat}{l:List UInt8}:t8 (n+1) (tv l) (tv l)=true:=by
 show E1 l l=true
 rw[a0o];simp
theorem SlAt.aq{e sz:Nat}{x:AV}{len:Nat}{cells:List AV}{o:Option Nat}(h:SlAt m e sz x len cells o):t8 40 x x=true:=by
 cases h with
 |nil=>rfl
 |row=>simp[t8,Nat.beq_refl]
theorem f3A{t:Nat}{fr:Fr}{m:M}:C5 P ⟨fr,m,[],none⟩ [.tmp t] =some [ev (tm t) fr] :=rfl
theorem d94{t u:Nat}{fr:Fr}{m:M}:C5 P ⟨fr,m,[],none⟩ [.tmp t,.tmp u] =some [ev (tm t) fr,ev (tm u) fr] :=rfl
theorem d9Z:one [] = .tuple [] :=rfl
theorem e0a(v:AV):one [v] =v:=rfl
theorem b0y(u v:AV):one [u,v] = .tuple [u,v] :=rfl
theorem a0v{need bytes:Nat}(h:need≤4000000000000)(hb:bytes≤35):E5 need bytes=true:=by
 unfold E5
 rw[v8,v8,v8,decide_eq_true,decide_eq_true (by omega),decide_eq_true (by omega)]
 ·rfl
 ·have:=Nat.mul_le_mul h hb
  show need*bytes≤140737488355328
  omega
theorem WpOC.to{g:FuncId}{args:List AV}{m:M}{d:Option (List Bool)}{l:List CO}{fr:Fr}{Q:Fr→M→Prop}(h:WpF P T g args m fun v m1=>WpO P T l (l0 d v fr) m1 Q):WpOC P T g args m d l fr Q:=WpOC.of h fun _ _ h=>h
theorem WpTC.to{g:FuncId}{args:List AV}{m:M}{d:Option (List Bool)}{l:List CO}{fr:Fr}{H:List T3}{Q:List T3→Prop}(h:WpF P T g args m fun v m1=>WpT P T l (l0 d v fr) m1 (H++ [⟨fr,m,v⟩]) Q):WpTC P T g args m d l fr H Q:=WpTC.of h fun _ _ h=>h
theorem b55:H1 none fr=some true:=rfl
theorem e0c(x:RO):run (.toU x) fr m=a2D (.cst (ev x fr)) .leaf m:=rfl
theorem d9A(u s:Nat)(x:RO):run (.frU u s x) fr m=a2F u s (.cst (ev x fr)) .leaf m:=rfl
theorem d9s(x:RO):run (.usd x) fr m=a1a (.cst (ev x fr)) .leaf m:=rfl
theorem d95(u:TypeId)(x n:RO):run (.ust u x n) fr m=b07 u (.cst (ev x fr)) (.cst (ev n fr)) .leaf m:=rfl
noncomputable def g7(l:List UInt8):List AV:=l.map fun c=> .y c.toNat
theorem e6C(l:List UInt8):K9 (g7 l)=some l:=by
 induction l with
 |nil=>rfl
 |cons c l ih=>
  show(K9 (g7 l)).map (UInt8.ofNat c.toNat::·)=_
  rw[ih]
  simp
theorem c9S(m:M)(l:List UInt8):Rds m (tv l) 1 l.length (g7 l):=by
 refine⟨?_,?_,by simp[g7]⟩
 ·show some (ByteArray.mk l.toArray).data.size=_
  simp
 ·show bc (Nat.beq 1 1) (some ((l.toArray.toList.take l.length).map fun c=>AV.y c.toNat)) none=_
  simp[l7,g7]
end
end Go.Am
