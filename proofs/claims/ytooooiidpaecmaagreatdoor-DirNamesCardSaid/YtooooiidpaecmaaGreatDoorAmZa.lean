import Derived.Test.YtooooiidpaecmaaGreatDoorAmZ
/- The abstract machine: how each operation goes, where values are not known. -/
namespace Go.Am
open Go Go.RowKit
section
variable {P:Program} {T:Tb} {fr:Fr} {m:M}
theorem j6{g:FuncId}{fn:Func}{c:Code}{cc:CC}{nt:Nat}{rs:List ResultVar}(hT:T.fs=Q7 P)(hf:P.funcs[g]? =some fn)(hb:fn.body=some c)(hc:j9 P c=cc)(hs:y9 fn.ntmps c=true)(hn:fn.ntmps=nt)(hr:fn.results.toList=rs):FnAt P T g cc nt rs:=
 ⟨fn,c,by rw[hT];exact a0H hf,hb,hc,hs,hn,hr⟩
theorem f0l{β:Type}(d:β)(k:Bool→β)(c:Bool):elB d k (.b c)=k c:=rfl
theorem a0G{β:Type}(d:β)(k:Nat→Nat→β)(b o:Nat):elPtr d k (.ptr b o)=k b o:=rfl
theorem c7x{β:Type}(d:β)(k:List AV→β)(l:List AV):elTup d k (.tuple l)=k l:=rfl
theorem c8u{β:Type}(d:β)(k:List AV→β)(l:List AV):elAgg d k (.agg l)=k l:=rfl
theorem C5{α β:Type}(a:α)(k:α→Option β):ob (some a) k=k a:=rfl
theorem f0w(v:AV):rto m (some v)=some (v,m):=rfl
theorem c0g(i:Int):C1 (iv i)=some [iv i] :=by cases i<;>rfl
theorem c0c(l:List UInt8):C1 (tv l)=some [tv l] :=rfl
theorem a9p(l:List AV):C1 (.agg l)=some l:=rfl
theorem b8L(b o:Nat):C1 (.ptr b o)=some [.ptr b o] :=rfl
theorem d2g(c:Bool):C1 (.b c)=some [.b c] :=rfl
theorem b8e:C1 s9=some [s9] :=rfl
theorem d7f(w c:Bool):D9 w (.b c)=some (bc c w (!w)):=rfl
theorem b76(w:Bool):D9 w AV.undef=some false:=rfl
theorem b8V(v:AV)(fr:Fr):l5 none v fr=fr:=rfl
theorem a2r(t:Nat)(v:AV)(fr:Fr):l5 (some (pth t)) v fr=D5 t v fr:=rfl
theorem f3y(x:RO):run (.mv x) fr m=some (ev x fr,m):=rfl
theorem d4N(c x y:RO):run (.pick c x y) fr m=elB none (fun c=>bc c (some (ev x fr,m)) (some (ev y fr,m))) (ev c fr):=rfl
theorem b0k(e n:Nat)(z:List AV):run (.alloc e n z) fr m=some (.ptr m.next 0,m.addZ e n z):=rfl
theorem f1c(e:TypeId)(x:RO):run (.box e x) fr m=ob (C1 (ev x fr)) fun cs=>some (.ptr m.next 0,m.addL e cs.length cs):=rfl
theorem c1I(z:List AV)(ps:List (Nat×Nat×RO)):run (.build z ps) fr m=ob (H8 (P5 ps fr) z) fun l=>some (.agg l,m):=rfl
theorem b9O(e len n:Nat)(z:List AV)(ps:List (Nat×Nat×RO)):run (.bslice e len n z ps) fr m=ob (H8 (P5 ps fr) (B4 len z)) fun l=>some (.slice m.next 0 len len false,m.addL e n l):=rfl
theorem e1A:P5 [] fr= [] :=rfl
theorem c2e(a b:Nat)(x:RO)(l:List (Nat×Nat×RO)):P5 ((a,b,x)::l) fr=(a,b,ev x fr)::P5 l fr:=rfl
theorem b8E(l:List AV):H8 [] l=some l:=rfl
theorem b7R(off size:Nat)(v:AV)(rest:List (Nat×Nat×AV))(cells:List AV):H8 ((off,size,v)::rest) cells=ob (C1 v) fun cs=>bc (Nat.beq cs.length size&&Nat.ble (off+size) cells.length) (H8 rest (cells.take off++cs++cells.drop (off+size))) none:=rfl
theorem e2n(z:List AV):B4 1 z=z:=by show z++ [] =z;simp
theorem e4K(z:List AV):B4 2 z=z++z:=by show z++(z++ [])=_;simp
theorem d8j(x:RO):run (.load x) fr m=elPtr none (fun b off=>rto m (m.rd b off)) (ev x fr):=rfl
theorem d1R(n:Nat)(x:RO):run (.loadN n x) fr m=elPtr none (fun b off=>ob (m.rdN b off n) fun l=>some (.agg l,m)) (ev x fr):=rfl
theorem b1a(n:Nat)(a x:RO):run (.store n a x) fr m=elPtr none (fun b off=>ob (C1 (ev x fr)) fun cs=>bc (Nat.beq cs.length n) (ob (m.wr b off cs) fun m=>some (.undef,m)) none) (ev a fr):=rfl
theorem f0K(x:RO):run (.nil x) fr m=a3X (.cst (ev x fr)) .leaf m:=rfl
theorem f08(b o:Nat):a3X (.cst (.ptr b o)) .leaf m=some (.ptr b o,m):=rfl
theorem f02(t:TypeId)(x y:RO):run (.add (d8 P .add t) x y) fr m=rto m (d8 P .add t (ev x fr) (ev y fr)):=b80
theorem f0n(t:TypeId)(x y:RO):run (.sub (d8 P .sub t) x y) fr m=rto m (d8 P .sub t (ev x fr) (ev y fr)):=b8U
theorem f04(t:TypeId)(x y:RO):run (.mul (d8 P .mul t) x y) fr m=rto m (d8 P .mul t (ev x fr) (ev y fr)):=b83
theorem f0j(t:TypeId)(x y:RO):run (.quo (d8 P .quo t) x y) fr m=rto m (d8 P .quo t (ev x fr) (ev y fr)):=b8w
theorem f0r(t:TypeId)(x y:RO):run (.rem (d8 P .rem t) x y) fr m=rto m (d8 P .rem t (ev x fr) (ev y fr)):=b8N
theorem f3z(t:TypeId)(x y:RO):run (.lt (d8 P .lss t) x y) fr m=rto m (d8 P .lss t (ev x fr) (ev y fr)):=b9t
theorem f1l(t:TypeId)(x y:RO):run (.le (d8 P .leq t) x y) fr m=rto m (d8 P .leq t (ev x fr) (ev y fr)):=b9G
theorem f3g(t:TypeId)(x y:RO):run (.gt (d8 P .gtr t) x y) fr m=rto m (d8 P .gtr t (ev x fr) (ev y fr)):=b9A
theorem f1n(t:TypeId)(x y:RO):run (.ge (d8 P .geq t) x y) fr m=rto m (d8 P .geq t (ev x fr) (ev y fr)):=b9y
theorem f2V(t:TypeId)(x y:RO):run (.eq (d8 P .eql t) x y) fr m=rto m (d8 P .eql t (ev x fr) (ev y fr)):=c0l
theorem f2f(t:TypeId)(x y:RO):run (.ne (d8 P .neq t) x y) fr m=rto m (d8 P .neq t (ev x fr) (ev y fr)):=b98
theorem f0c(neg:Bool)(sl:SL)(x y:RO):run (.eqp neg sl x y) fr m=M4 neg sl (.cst (ev x fr)) (.cst (ev y fr)) .leaf m:=rfl
theorem c8N(neg:Bool)(sl:SL)(b o:Nat):M4 neg sl (.cst (.ptr b o)) (.cst s9) .leaf m=rto m (sl (.ptr b o) s9):=rfl
theorem b9u(neg:Bool)(sl:SL):M4 neg sl (.cst s9) (.cst s9) .leaf m=rto m (sl s9 s9):=rfl
theorem b8a(neg:Bool)(sl:SL)(b o o':Nat):M4 neg sl (.cst (.ptr b o)) (.cst (.ptr b o')) .leaf m=rto m (sl (.ptr b o) (.ptr b o')):=by
 show bc (Nat.beq b b) _ _=_
 rw[Nat.beq_refl];rfl
theorem f2t(op:UnOp)(x:RO):run (.un op x) fr m=rto m (unS op (ev x fr)):=rfl
theorem f1a(c:Bool):unS .not (.b c)=some (.b (!c)):=rfl
noncomputable def a38(x:AV)(lo hi:Option AV)(m:M):R:=ob (toS x) fun s=>ob (bnd hi s.size s.size) fun h=>ob (bnd lo 0 h) fun l=>some (.p (.string ⟨((s.data.toList.take h).drop l).toArray⟩),m)
theorem f0N(x:RO)(lo hi:Option RO):run (.sls x lo hi) fr m=a38 (ev x fr) (evo lo fr) (evo hi fr) m:=rfl
theorem c1C(l:List UInt8):(ByteArray.mk l.toArray).size=l.length:=by show l.toArray.size=l.length;simp
theorem b99(l:List UInt8){b:Nat}(h2:b≤l.length):a38 (tv l) none (some (iv (b:Int))) m=some (tv (l.take b),m):=by
 unfold a38
 rw[e4b,C5,c1C,O4 h2,C5];rfl
theorem f9y(l:List UInt8){a:Nat}(h1:a≤l.length):a38 (tv l) (some (iv (a:Int))) none m=some (tv (l.drop a),m):=by
 unfold a38
 rw[e4b,C5,c1C,a2A,C5,O4 h1]
 show some (AV.p (.string ⟨((l.take l.length).drop a).toArray⟩),m)=_
 rw[List.take_length];rfl
theorem e9V(sz:Nat)(x h:RO):run (.sl sz false x none (some h) none) fr m=rSl sz false (.cst (ev x fr)) none (some (.cst (ev h fr))) none .leaf m:=rfl
theorem e8K(sz:Nat)(x l:RO):run (.sl sz false x (some l) none none) fr m=rSl sz false (.cst (ev x fr)) (some (.cst (ev l fr))) none none .leaf m:=rfl
noncomputable def faV(off:Nat)(x:AV)(m:M):R:=elPtr none (fun b o=>fc (Nat.add o off) fun o=>some (.ptr b o,m)) x
theorem f1t(off:Nat)(x:RO):run (.fa off x) fr m=faV off (ev x fr) m:=rfl
theorem f3f(off b o:Nat):faV off (.ptr b o) m=some (.ptr b (o+off),m):=by unfold faV;rw[a0G,z7];rfl
theorem f0B(sz:Nat)(x i:RO):run (.iaS sz x i) fr m=a2i sz (.cst (ev x fr)) (.cst (ev i fr)) .leaf m:=rfl
theorem x9(sz b off len cap:Nat)(lim:Bool){k:Nat}(h:k<len):a2i sz (.cst (.slice b off len cap lim)) (.cst (iv (k:Int))) .leaf m=some (.ptr b (off+k*sz),m):=by
 show bc (Nat.ble (Nat.succ k) len) (fc (Nat.add off (Nat.mul k sz)) fun o=>some (AV.ptr b o,m)) none=_
 rw[A1,decide_eq_true (by omega),l9,z7];rfl
theorem f0G(i:Nat)(x:RO):run (.ext i x) fr m=elTup none (fun vs=>rto m vs[i]?) (ev x fr):=rfl
theorem f0o(s:Bool)(x:RO):run (.len s x) fr m=ob (E4 s (ev x fr)) fun n=>some (iv (n:Int),m):=rfl
theorem e07(l:List UInt8):E4 true (tv l)=some l.length:=by
 show some (ByteArray.mk l.toArray).data.size=_
 simp
theorem b2w(b off len cap:Nat)(lim:Bool):E4 false (.slice b off len cap lim)=some len:=rfl
theorem b96:E4 false j7=some 0:=rfl
theorem f0P(e sz bytes:Nat)(z:List AV)(s x:RO):run (.app e sz bytes z s x) fr m=M5 e sz bytes z (.cst (ev s fr)) (.cst (ev x fr)) .leaf m:=rfl
theorem f09(x y:RO):run (.min x y) fr m=a2c (.cst (ev x fr)) (.cst (ev y fr)) .leaf m:=rfl
theorem f0u(x y:RO):run (.max x y) fr m=a2g (.cst (ev x fr)) (.cst (ev y fr)) .leaf m:=rfl
theorem f0C(a b:Int):a2c (.cst (iv a)) (.cst (iv b)) .leaf m=some (iv (min a b),m):=by
 show(ob (toI (iv a)) fun a=>ob (toI (iv b)) fun b=>some (ofI a.1 (if b.2<a.2 then b.2 else a.2),m))=_
 rw[Y7,Y7]
 show some (iv (if b<a then b else a),m)=_
 congr 3
 omega
theorem f0I(a b:Int):a2g (.cst (iv a)) (.cst (iv b)) .leaf m=some (iv (max a b),m):=by
 show(ob (toI (iv a)) fun a=>ob (toI (iv b)) fun b=>some (ofI a.1 (if b.2>a.2 then b.2 else a.2),m))=_
 rw[Y7,Y7]
 show some (iv (if b>a then b else a),m)=_
 congr 3
 omega
theorem I8(op:BinOp)(t:TypeId)(a b:Int):d8 P op t (iv a) (iv b)=a3e op .i64 a .i64 b:=by
 unfold d8
 rw[Y7,Y7]
theorem f0b(t:TypeId){a b:Int}(h1: -9223372036854775808≤a+b)(h2:a+b≤9223372036854775807):d8 P .add t (iv a) (iv b)=some (iv (a+b)):=by
 rw[I8]
 show some (iv (IntKind.i64.wrap (a+b)))=_
 rw[IntWalk.i64_in _ ⟨h1,h2⟩]
theorem f0X(t:TypeId){a b:Int}(h1: -9223372036854775808≤a-b)(h2:a-b≤9223372036854775807):d8 P .sub t (iv a) (iv b)=some (iv (a-b)):=by
 rw[I8]
 show some (iv (IntKind.i64.wrap (a-b)))=_
 rw[IntWalk.i64_in _ ⟨h1,h2⟩]
theorem V8(t:TypeId){a b:Nat}(h:0<b)(h2:a≤9223372036854775807):d8 P .quo t (iv (a:Int)) (iv (b:Int))=some (iv ((a/b:Nat):Int)):=by
 rw[I8]
 show(if(b:Int)=0 then none else some (iv (IntKind.i64.wrap ((a:Int).tdiv (b:Int)))))=_
 rw[if_neg (by omega)]
 have e:(a:Int).tdiv (b:Int)=((a/b:Nat):Int):=rfl
 have hle:a/b≤a:=Nat.div_le_self a b
 rw[e]
 generalize a/b=q at hle
 rw[IntWalk.i64_in _ (by omega)]
theorem f3e(t:TypeId)(a b:Int):d8 P .lss t (iv a) (iv b)=some (.b (decide (a<b))):=by rw[I8];rfl
theorem f2j(t:TypeId)(a b:Int):d8 P .leq t (iv a) (iv b)=some (.b (decide (a≤b))):=by rw[I8];rfl
theorem f1P(t:TypeId)(a b:Int):d8 P .gtr t (iv a) (iv b)=some (.b (decide (b<a))):=by rw[I8];rfl
theorem f2m(t:TypeId)(a b:Int):d8 P .geq t (iv a) (iv b)=some (.b (decide (b≤a))):=by rw[I8];rfl
theorem f1E(t:TypeId)(a b:Int):d8 P .eql t (iv a) (iv b)=some (.b (decide (a=b))):=by
 rw[I8]
 show some (AV.b (a==b))=_
 congr 2
theorem f2R(t:TypeId)(a b:Int):d8 P .neq t (iv a) (iv b)=some (.b (!decide (a=b))):=by
 rw[I8]
 show some (AV.b (a !=b))=_
 congr 2
theorem a1n:∀(a b:List UInt8),F8 a b=decide (a=b)
 | [],[] =>rfl
 | [],_::_=>rfl
 |_::_,[] =>rfl
 |x::a,y::b=>by
  show(Nat.beq x.toNat y.toNat&&F8 a b)=_
  rw[a1n a b,A4]
  by_cases h:x=y
  ·subst h;simp
  ·have:¬x.toNat=y.toNat:=fun e=>h (UInt8.toNat_inj.1 e)
   simp[h,this]
theorem a2P(op:BinOp)(t:TypeId)(a b:List UInt8):d8 P op t (tv a) (tv b)=a7i op ⟨a.toArray⟩ ⟨b.toArray⟩:=rfl
theorem f0E(t:TypeId)(a b:List UInt8):d8 P .eql t (tv a) (tv b)=some (.b (decide (a=b))):=by
 rw[a2P]
 show some (AV.b (F8 a b))=_
 rw[a1n]
theorem f0U(t:TypeId)(a b:List UInt8):d8 P .neq t (tv a) (tv b)=some (.b (!decide (a=b))):=by
 rw[a2P]
 show some (AV.b (!F8 a b))=_
 rw[a1n]
theorem f07(i:Int):v6 40 (iv i) (iv i)=true:=by cases i<;>simp[iv,cv1,v6,veq]
theorem f0q(l:List UInt8):v6 40 (tv l) (tv l)=true:=by
 show F8 l l=true
 rw[a1n];simp
theorem g6O{n:Nat}{i:Int}:v6 (n+1) (iv i) (iv i)=true:=by cases i<;>simp[iv,cv1,v6,veq]
theorem g7m{n:Nat}{l:List UInt8}:v6 (n+1) (tv l) (tv l)=true:=by
 show F8 l l=true
 rw[a1n];simp
theorem SlAt.aq{e sz:Nat}{x:AV}{len:Nat}{cells:List AV}{o:Option Nat}(h:SlAt m e sz x len cells o):v6 40 x x=true:=by
 cases h with
 |nil=>rfl
 |row=>simp[v6,Nat.beq_refl]
theorem g5P{t:Nat}{fr:Fr}{m:M}:E3 P ⟨fr,m,[],none⟩ [.tmp t] =some [ev (tm t) fr] :=rfl
theorem f1i{t u:Nat}{fr:Fr}{m:M}:E3 P ⟨fr,m,[],none⟩ [.tmp t,.tmp u] =some [ev (tm t) fr,ev (tm u) fr] :=rfl
theorem f0p:one [] = .tuple [] :=rfl
theorem f0s(v:AV):one [v] =v:=rfl
theorem b3E(u v:AV):one [u,v] = .tuple [u,v] :=rfl
theorem U1{need bytes:Nat}(h:need≤4000000000000)(hb:bytes≤35):F9 need bytes=true:=by
 unfold F9
 rw[A1,A1,A1,decide_eq_true,decide_eq_true (by omega),decide_eq_true (by omega)]
 ·rfl
 ·have:=Nat.mul_le_mul h hb
  show need*bytes≤140737488355328
  omega
theorem WpOC.to{g:FuncId}{args:List AV}{m:M}{d:Option (List Bool)}{l:List CO}{fr:Fr}{Q:Fr→M→Prop}(h:WpF P T g args m fun v m1=>WpO P T l (l5 d v fr) m1 Q):WpOC P T g args m d l fr Q:=WpOC.of h fun _ _ h=>h
theorem WpTC.to{g:FuncId}{args:List AV}{m:M}{d:Option (List Bool)}{l:List CO}{fr:Fr}{H:List T3}{Q:List T3→Prop}(h:WpF P T g args m fun v m1=>WpT P T l (l5 d v fr) m1 (H++ [⟨fr,m,v⟩]) Q):WpTC P T g args m d l fr H Q:=WpTC.of h fun _ _ h=>h
theorem b9a:J1 none fr=some true:=rfl
theorem f0i(x:RO):run (.toU x) fr m=a4b (.cst (ev x fr)) .leaf m:=rfl
theorem f0V(u s:Nat)(x:RO):run (.frU u s x) fr m=a3Y u s (.cst (ev x fr)) .leaf m:=rfl
theorem f0m(x:RO):run (.usd x) fr m=a2d (.cst (ev x fr)) .leaf m:=rfl
theorem f0h(u:TypeId)(x n:RO):run (.ust u x n) fr m=b4j u (.cst (ev x fr)) (.cst (ev n fr)) .leaf m:=rfl
noncomputable def i9(l:List UInt8):List AV:=l.map fun c=> .y c.toNat
theorem f8f(l:List UInt8):P7 (i9 l)=some l:=by
 induction l with
 |nil=>rfl
 |cons c l ih=>
  show(P7 (i9 l)).map (UInt8.ofNat c.toNat::·)=_
  rw[ih]
  simp
theorem e4H(m:M)(l:List UInt8):Rds m (tv l) 1 l.length (i9 l):=by
 refine⟨?_,?_,by simp[i9]⟩
 ·show some (ByteArray.mk l.toArray).data.size=_
  simp
 ·show bc (Nat.beq 1 1) (some ((l.toArray.toList.take l.length).map fun c=>AV.y c.toNat)) none=_
  simp[l9,i9]
end
end Go.Am
