import Derived.Test.YtooooiidpaecmaaGreatDoorAmU
import Derived.LaidEqlPtr
import Derived.Laws.Append
import Derived.Laws.Strings
import Derived.IntWalk
import Derived.Lib.Builder
/- The abstract machine: its operations and the model's. -/
namespace Go.Am
open Go Go.RowKit
section
variable {β:Type} {r:β} {x:AV}
theorem a2z{k:Nat→Option β}(h:elN none k x=some r):∃a,x= .n a∧k a=some r:=by cases x<;>simp[elN] at h<;>exact⟨_,rfl,h⟩
theorem a9I{k:Bool→Option β}(h:elB none k x=some r):∃a,x= .b a∧k a=some r:=by cases x<;>simp[elB] at h<;>exact⟨_,rfl,h⟩
theorem K4{k:Nat→Nat→Option β}(h:elPtr none k x=some r):∃a b,x= .ptr a b∧k a b=some r:=by cases x<;>simp[elPtr] at h<;>exact⟨_,_,rfl,h⟩
theorem b8q{k:Nat→Nat→Nat→Nat→Bool→Option β}(h:elSl none k x=some r):∃b o l c m,x= .slice b o l c m∧k b o l c m=some r:=by cases x<;>simp[elSl] at h<;>exact⟨_,_,_,_,_,rfl,h⟩
theorem a4I{k:List AV→Option β}(h:elAgg none k x=some r):∃a,x= .agg a∧k a=some r:=by cases x<;>simp[elAgg] at h<;>exact⟨_,rfl,h⟩
theorem f6K{k:List AV→Option β}(h:elTup none k x=some r):∃a,x= .tuple a∧k a=some r:=by cases x<;>simp[elTup] at h<;>exact⟨_,rfl,h⟩
end
def Val(P:Program)(w0:World)(s:Sem Value)(ρ:Ren)(w:World)(r:R):Prop:=
  ∀x m',r=some (x,m')→∃ρ' v w',s.run P w= .ok v w'∧d6 ρ' x=some v∧ρ.le ρ'∧Sim P w0 ρ' m' w'
section
variable {P:Program} {w0:World} {ρ:Ren} {m:M} {w:World}
theorem Val.pure{s:Sem Value}{x:AV}{v:Value}(h:Sim P w0 ρ m w)(hs:s.run P w= .ok v w)(hc:d6 ρ x=some v):Val P w0 s ρ w (some (x,m)):=by
  intro y m' e;cases e;exact⟨ρ,v,w,hs,hc,Ren.le_refl ρ,h⟩
theorem Val.pureO{s:Sem Value}{z:Option AV}(h:Sim P w0 ρ m w)(hs:∀x,z=some x→∃v,s.run P w= .ok v w∧d6 ρ x=some v):Val P w0 s ρ w (rto m z):=by
  intro y m' e
  obtain⟨x,hx,e⟩:=d9 e
  obtain⟨v,h1,h2⟩:=hs x hx
  cases e;exact⟨ρ,v,w,h1,h2,Ren.le_refl ρ,h⟩
theorem F3(a:Nat):d6 ρ (.n a)=some (.int .i64 (.ofNat a)):=by simp[d6]
theorem U6(a:Nat):d6 ρ (.y a)=some (.int .u8 (.ofNat a)):=by simp[d6]
theorem C2(c:Bool):d6 ρ (.b c)=some (.bool c):=by simp[d6]
theorem l7{v:Value}(h:v.oneCell'=true):d6 ρ (.p v)=some v:=by simp[d6,h]
theorem I1:d6 ρ AV.undef=some undef:=by simp[AV.undef,d6,i8,undef]
theorem E5{b off:Nat}{v:Value}(h:d6 ρ (.ptr b off)=some v):∃r,ρ.loc b=some r∧v= .pointer (some ⟨r.blk,r.sh+off,none⟩):=by
  simp only[d6,Option.map_eq_some_iff] at h
  obtain⟨r,h1,h2⟩:=h;exact⟨r,h1,h2.symm⟩
theorem G2{b off len cap:Nat}{lim:Bool}{v:Value}(h:d6 ρ (.slice b off len cap lim)=some v):∃r,ρ.loc b=some r∧v= .slice (some ⟨r.blk,r.sh+off,none⟩) len (if lim then cap else cap+r.ext):=by
  simp only[d6,Option.map_eq_some_iff] at h
  obtain⟨r,h1,h2⟩:=h;exact⟨r,h1,h2.symm⟩
theorem N0{b off adv:Nat}{v:Value}(h:d6 ρ (.sliceE b off adv)=some v):∃r,ρ.loc b=some r∧v= .slice (some ⟨r.blk,r.sh+off+(if r.ext=0 then 0 else adv),none⟩) 0 r.ext:=by
  simp only[d6,Option.map_eq_some_iff] at h
  obtain⟨r,h1,h2⟩:=h;exact⟨r,h1,h2.symm⟩
theorem a0N{b off:Nat}{r:RB}(h:ρ.loc b=some r):d6 ρ (.ptr b off)=some (.pointer (some ⟨r.blk,r.sh+off,none⟩)):=by simp[d6,h]
theorem O5{b off len cap:Nat}{lim:Bool}{r:RB}(h:ρ.loc b=some r):d6 ρ (.slice b off len cap lim)=some (.slice (some ⟨r.blk,r.sh+off,none⟩) len (if lim then cap else cap+r.ext)):=by simp[d6,h]
theorem G1{x:AV}{k:IntKind}{i:Int}{v:Value}(h:toI x=some (k,i))(hv:d6 ρ x=some v):v= .int k i:=by
  unfold toI at h
  split at h
  · cases h;rw[F3] at hv;cases hv;rfl
  · cases h;rw[U6] at hv;cases hv;rfl
  · cases h;rw[l7 rfl] at hv;cases hv;rfl
  · cases h
theorem J5{x:AV}{s:ByteArray}{v:Value}(h:toS x=some s)(hv:d6 ρ x=some v):v= .string s:=by
  unfold toS at h
  split at h
  · cases h;rw[l7 rfl] at hv;cases hv;rfl
  · cases h
theorem f9x{op:BinOp}{k:IntKind}{a b:Int}{z:AV}(h:F4 op k a b=some z)(t:TypeId)(hs:op≠ .shl)(hs':op≠ .shr):
    ∃u,(binOp op t (.int k a) (.int k b)).run P w= .ok u w∧d6 ρ z=some u:=by
  cases op
  case quo=>
    simp only[F4] at h
    split at h
    · cases h
    · rename_i hb;cases h;refine⟨.int k (k.wrap (a.tdiv b)),by simp[binOp,Op.intDiv,hb],G0 ρ _ _⟩
  case rem=>
    simp only[F4] at h
    split at h
    · cases h
    · rename_i hb;cases h;refine⟨.int k (a.tmod b),by simp[binOp,Op.intDiv,hb],G0 ρ _ _⟩
  case shl=>exact absurd rfl hs
  case shr=>exact absurd rfl hs'
  case add=>simp only[F4,Option.some.injEq] at h;subst h;exact⟨.int k (k.wrap (a+b)),by simp[binOp,Op.intArith],G0 ρ _ _⟩
  case sub=>simp only[F4,Option.some.injEq] at h;subst h;exact⟨.int k (k.wrap (a-b)),by simp[binOp,Op.intArith],G0 ρ _ _⟩
  case mul=>simp only[F4,Option.some.injEq] at h;subst h;exact⟨.int k (k.wrap (a*b)),by simp[binOp,Op.intArith],G0 ρ _ _⟩
  case and=>simp only[F4,Option.some.injEq] at h;subst h;exact⟨_,by simp only[binOp,Op.intBits,ne_eq,not_true_eq_false,if_false,Sem.run_pure],G0 ρ _ _⟩
  case or=>simp only[F4,Option.some.injEq] at h;subst h;exact⟨_,by simp only[binOp,Op.intBits,ne_eq,not_true_eq_false,if_false,Sem.run_pure],G0 ρ _ _⟩
  case xor=>simp only[F4,Option.some.injEq] at h;subst h;exact⟨_,by simp only[binOp,Op.intBits,ne_eq,not_true_eq_false,if_false,Sem.run_pure],G0 ρ _ _⟩
  case andNot=>simp only[F4,Option.some.injEq] at h;subst h;exact⟨_,by simp only[binOp,Op.intBits,ne_eq,not_true_eq_false,if_false,Sem.run_pure],G0 ρ _ _⟩
  case eql=>simp only[F4,Option.some.injEq] at h;subst h;exact⟨_,by simp only[binOp,Op.intCmp,ne_eq,not_true_eq_false,if_false,Sem.run_pure],C2 _⟩
  case neq=>simp only[F4,Option.some.injEq] at h;subst h;exact⟨_,by simp only[binOp,Op.intCmp,ne_eq,not_true_eq_false,if_false,Sem.run_pure],C2 _⟩
  case lss=>simp only[F4,Option.some.injEq] at h;subst h;exact⟨_,by simp only[binOp,Op.intCmp,ne_eq,not_true_eq_false,if_false,Sem.run_pure],C2 _⟩
  case leq=>simp only[F4,Option.some.injEq] at h;subst h;exact⟨_,by simp only[binOp,Op.intCmp,ne_eq,not_true_eq_false,if_false,Sem.run_pure],C2 _⟩
  case gtr=>simp only[F4,Option.some.injEq] at h;subst h;exact⟨_,by simp only[binOp,Op.intCmp,ne_eq,not_true_eq_false,if_false,Sem.run_pure],C2 _⟩
  case geq=>simp only[F4,Option.some.injEq] at h;subst h;exact⟨_,by simp only[binOp,Op.intCmp,ne_eq,not_true_eq_false,if_false,Sem.run_pure],C2 _⟩
  all_goals (simp[F4] at h;done)
theorem f7z{op:BinOp}{k k':IntKind}{a b:Int}{z:AV}(h:a3e op k a k' b=some z)(t:TypeId):
    ∃u,(binOp op t (.int k a) (.int k' b)).run P w= .ok u w∧d6 ρ z=some u:=by
  unfold a3e at h
  split at h
  · simp only[a7C] at h
    split at h
    · cases h
    · rename_i hb
      cases h
      exact⟨_,by simp only[binOp,Op.shift,hb,if_false,Sem.run_pure],G0 ρ _ _⟩
  · simp only[a7C] at h
    split at h
    · cases h
    · rename_i hb
      cases h
      exact⟨_,by simp only[binOp,Op.shift,hb,if_false,Sem.run_pure],G0 ρ _ _⟩
  · rename_i h1 h2
    split at h
    · rename_i hk;subst hk;exact f9x h t (fun e=>h1 e) (fun e=>h2 e)
    · cases h
theorem a2V:∀(a b:List UInt8),F8 a b=(a==b)
  | [],[] =>rfl
  | [],_::_=>rfl
  |_::_,[] =>rfl
  | x::a,y::b=>by
    simp only[F8,A4,a2V a b,List.cons_beq_cons]
    congr 1
    rw[Bool.eq_iff_iff];simp[UInt8.toNat_inj]
theorem c4b:∀(a b:List UInt8),u6 a b=Op.bytesLess a b
  | [],[] =>rfl
  | [],_::_=>rfl
  |_::_,[] =>by simp[u6,Op.bytesLess]
  | x::a,y::b=>by
    simp only[u6,Op.bytesLess,A4,A1,c4b a b]
    congr 1
    rw[Bool.eq_iff_iff];simp[UInt8.toNat_inj]
theorem f9j{op:BinOp}{a b:ByteArray}{z:AV}(h:a7i op a b=some z)(t:TypeId):
    ∃u,(binOp op t (.string a) (.string b)).run P w= .ok u w∧d6 ρ z=some u:=by
  cases op<;>simp only[a7i,reduceCtorEq,Option.some.injEq] at h
  case add=>
    obtain⟨h1,h2⟩:=l4 h
    cases h2
    have h1:a.data.size+b.data.size≤9223372036854775807:=Nat.le_of_ble_eq_true h1
    have h3:¬(IntKind.i64.max<(a.size:Int)+(b.size:Int)):=by
      have:(IntKind.i64.max:Int)=9223372036854775807:=by decide
      rw[this];show ¬((9223372036854775807:Int)<(a.data.size:Int)+(b.data.size:Int));omega
    refine⟨.string (a++b),by simp only[binOp,Op.stringOp,gt_iff_lt,Int.natCast_add,h3,if_false,Sem.run_pure],?_⟩
    rw[l7 rfl,show(⟨(a.data.toList++b.data.toList).toArray⟩:ByteArray)=a++b from ByteArray.ext (by simp)]
  all_goals
    subst h
    exact⟨_,by simp[binOp,Op.stringOp,ByteArray.toList_eq];rfl,by rw[C2];simp[a2V,c4b]⟩
theorem f6L{t:TypeId}{x y:AV}{vx vy:Value}{c:Bool}(he:R3 P (P.underlying t) x y=some c)(hx:d6 ρ x=some vx)(hy:d6 ρ y=some vy)(d:Nat):
    (Op.equalIn (d+1) t vx vy).run P w= .ok c w:=by
  unfold R3 at he
  split at he
  · rename_i hu
    split at he<;>cases he
    rw[C2] at hx hy
    cases hx;cases hy
    simp[Op.equalIn,run_underlying hu]
  · rename_i e hu
    split at he
    · cases he;rw[l7 rfl] at hx hy;cases hx;cases hy;simp[Op.equalIn,run_underlying hu]
    · cases he;rw[l7 rfl] at hx;cases hx;obtain⟨r,_,rfl⟩:=E5 hy;simp[Op.equalIn,run_underlying hu]
    · cases he;rw[l7 rfl] at hy;cases hy;obtain⟨r,_,rfl⟩:=E5 hx;simp[Op.equalIn,run_underlying hu]
    · rename_i b i b' j
      obtain⟨r,hr,rfl⟩:=E5 hx
      obtain⟨r',hr',rfl⟩:=E5 hy
      split at he
      · rename_i n hs
        obtain⟨h1,he2⟩:=l4 he
        clear he
        simp only[Bool.and_eq_true,Bool.not_eq_true'] at h1
        have hbb:=Nat.eq_of_beq_eq_true h1.2
        subst hbb
        rw[hr] at hr';cases hr'
        have hn:n≠0:=fun e=>by subst e;simp at h1
        unfold tsize at hs
        cases hi:P.info? e with
        |none=>rw[hi] at hs;cases hs
        | some q=>
          rw[hi] at hs
          simp only[Option.map_some,Option.some.injEq] at hs
          have he3:=Option.some.inj he2
          subst he3
          have hsz:q.size≠0:=by omega
          have h2:Nat.beq i j=((⟨r.blk,r.sh+i,none⟩:Addr)==⟨r.blk,r.sh+j,none⟩):=by
            rw[A4,Bool.eq_iff_iff];simp
          simp[Op.equalIn,run_underlying hu,sizeOf,typeInfo,hi,hsz,sameAddr,h2]
      · cases he
    · cases he
  · rename_i e hu
    split at he<;>cases he
    · rw[l7 rfl] at hx hy;cases hx;cases hy;simp[Op.equalIn,run_underlying hu]
    · rw[l7 rfl] at hx;cases hx;obtain⟨r,_,rfl⟩:=G2 hy;simp[Op.equalIn,run_underlying hu]
    · rw[l7 rfl] at hy;cases hy;obtain⟨r,_,rfl⟩:=G2 hx;simp[Op.equalIn,run_underlying hu]
    · rw[l7 rfl] at hx;cases hx;obtain⟨r,_,rfl⟩:=N0 hy;simp[Op.equalIn,run_underlying hu]
    · rw[l7 rfl] at hy;cases hy;obtain⟨r,_,rfl⟩:=N0 hx;simp[Op.equalIn,run_underlying hu]
  · rename_i k e hu
    split at he<;>cases he
    · rw[l7 rfl] at hx hy;cases hx;cases hy;simp[Op.equalIn,run_underlying hu]
    · rw[l7 rfl] at hx;cases hx
      simp only[d6,Option.map_eq_some_iff] at hy
      obtain⟨r,_,rfl⟩:=hy;simp[Op.equalIn,run_underlying hu]
    · rw[l7 rfl] at hy;cases hy
      simp only[d6,Option.map_eq_some_iff] at hx
      obtain⟨r,_,rfl⟩:=hx;simp[Op.equalIn,run_underlying hu]
  · rename_i a b c' hu
    split at he<;>cases he
    · rw[l7 rfl] at hx hy;cases hx;cases hy;simp[Op.equalIn,run_underlying hu]
    · rw[l7 rfl] at hx;cases hx
      simp only[d6,Option.map_eq_some_iff] at hy
      obtain⟨r,_,rfl⟩:=hy;simp[Op.equalIn,run_underlying hu]
    · rw[l7 rfl] at hy;cases hy
      simp only[d6,Option.map_eq_some_iff] at hx
      obtain⟨r,_,rfl⟩:=hx;simp[Op.equalIn,run_underlying hu]
  · cases he
theorem b95{t:TypeId}{x y:AV}{vx vy:Value}{c:Bool}(he:R3 P (P.underlying t) x y=some c)(hx:d6 ρ x=some vx)(hy:d6 ρ y=some vy):
    (Op.equal t vx vy).run P w= .ok c w:=f6L he hx hy 9999
theorem b74{d:Option TypeDesc}{x y:AV}{vx vy:Value}{c:Bool}(he:R3 P d x y=some c)(hx:d6 ρ x=some vx)(hy:d6 ρ y=some vy):
    (∃a b,vx= .bool a∧vy= .bool b)∨(∃a b,vx= .pointer a∧vy= .pointer b)∨(∃a b c a' b' c',vx= .slice a b c∧vy= .slice a' b' c')∨(∃a b,vx= .map a∧vy= .map b)∨
      ((vx= .nilFunc∨∃f a b,vx= .func f a b)∧(vy= .nilFunc∨∃f a b,vy= .func f a b)):=by
  unfold R3 at he
  split at he<;>first|(cases he;done)|(split at he<;>first|(cases he;done)|skip)
  all_goals simp only[d6,Option.map_eq_some_iff,Option.some.injEq,Value.oneCell',if_true] at hx hy
  all_goals first
    |(cases hx;cases hy;simp;done)
    |(cases hx;obtain⟨_,_,rfl⟩:=hy;simp;done)
    |(cases hy;obtain⟨_,_,rfl⟩:=hx;simp;done)
    |(obtain⟨_,_,rfl⟩:=hy;obtain⟨_,_,rfl⟩:=hx;simp;done)
theorem g4K{k:Nat}{x y:AV}{u v:Value}{r:Bool}(h:ceq k x y=some r)(hx:d6 ρ x=some u)(hy:d6 ρ y=some v):W7 k u v=some r:=by
  unfold ceq at h
  split at h
  · split at h
    · rename_i k a k' b h1 h2
      rw[G1 h1 hx,G1 h2 hy]
      split at h
      · rename_i hk
        cases h
        simp only[W7,hk,if_true,Option.some.injEq]
        by_cases hab:a=b
        · simp[hab]
        · simp[hab]
      · cases h
    · cases h
  · split at h
    · rename_i a b h1 h2
      rw[J5 h1 hx,J5 h2 hy]
      cases h
      simp only[W7,Option.some.injEq]
      rw[beq_toListBytes,ByteArray.toList_eq,ByteArray.toList_eq,a2V]
    · cases h
  · obtain⟨a,rfl,h1⟩:=a9I h
    obtain⟨b,rfl,h2⟩:=a9I h1
    cases h2
    rw[C2] at hx hy
    cases hx;cases hy
    rfl
  · split at h
    · rename_i k a b k' c d
      rw[l7 rfl] at hx hy
      cases hx;cases hy
      exact h
    · cases h
  · cases h
theorem c5y{xs ys:List AV}{us vs:List Value}(hx:i8 ρ xs=some us)(hy:i8 ρ ys=some vs):∀{l:List (Nat×Nat)} {r:Bool},b33 xs ys l=some r→M2 us.toArray vs.toArray l=some r
  | [],r,h=>h
  | q::l,r,h=>by
    obtain⟨u,h1,h⟩:=d9 h
    obtain⟨v,h2,h⟩:=d9 h
    obtain⟨r0,h3,h⟩:=d9 h
    obtain⟨s,h4,h⟩:=d9 h
    cases h
    obtain⟨a,h5,h6⟩:=S9 hx q.1 u h1
    obtain⟨b,h7,h8⟩:=S9 hy q.1 v h2
    simp only[M2,List.getElem?_toArray,h5,h7,Option.bind_some,g4K h3 h6 h8,c5y hx hy h4,Option.map_some]
theorem b9F{xs:List AV}{v:Value}(h:d6 ρ (.agg xs)=some v):∃us,i8 ρ xs=some us∧v= .agg us.toArray:=by
  simp only[d6,Option.bind_eq_some_iff] at h
  obtain⟨us,h1,h2⟩:=h
  split at h2
  · cases h2;exact⟨us,h1,rfl⟩
  · cases h2
theorem b9r{t:TypeId}{x y:AV}{vx vy:Value}{c:Bool}(h:b3u P t x y=some c)(hx:d6 ρ x=some vx)(hy:d6 ρ y=some vy):
    ∃us vs,vx= .agg us∧vy= .agg vs∧P.eqGuardType P.depth t=false∧(Op.equalIn 10000 t vx vy).run P w= .ok c w:=by
  obtain⟨xs,rfl,h1⟩:=a4I h
  obtain⟨ys,rfl,h2⟩:=a4I h1
  obtain⟨hg,h3⟩:=l4 h2
  obtain⟨s,hs,h4⟩:=d9 h3
  obtain⟨hl,h5⟩:=l4 h4
  obtain⟨l,hlv,h6⟩:=d9 h5
  simp only[Bool.and_eq_true,beq_iff_eq] at hl
  have hl1:=Nat.eq_of_beq_eq_true hl.1
  have hl2:=Nat.eq_of_beq_eq_true hl.2.1
  have ha:=hl.2.2
  obtain⟨us,hu,rfl⟩:=b9F hx
  obtain⟨vs,hv,rfl⟩:=b9F hy
  have n1:=I0 hu
  have n2:=I0 hv
  have whole:∀(a:Array Value),a.size=s→IsPart P t a 0 (.agg a):=fun a h=> .inl ⟨ha,s,hs,by rw[←h];simp,by omega⟩
  exact⟨_,_,rfl,rfl,by simpa using hg,a9n 40 t 0 l hlv 9960 us.toArray vs.toArray _ _ c (whole _ (by simp;omega)) (whole _ (by simp;omega)) (c5y hu hv h6)⟩
theorem b0m:∀{l k:List AV} {us vs:List Value},a39 l k=true→i8 ρ l=some us→i8 ρ k=some vs→us=vs
  | [],[],us,vs,_,hx,hy=>by rw[o0] at hx hy;cases hx;cases hy;rfl
  | x::l,y::k,us,vs,h,hx,hy=>by
    obtain⟨u,us,h1,h2,rfl⟩:=o9.1 hx
    obtain⟨v,vs,h3,h4,rfl⟩:=o9.1 hy
    cases x<;>cases y<;>simp only[a39,Bool.and_eq_true,Bool.false_eq_true] at h
    · have:=Nat.eq_of_beq_eq_true h.1
      subst this
      rw[h1] at h3;cases h3
      rw[b0m h.2 h2 h4]
    · have:=Nat.eq_of_beq_eq_true h.1
      subst this
      rw[h1] at h3;cases h3
      rw[b0m h.2 h2 h4]
  | [],_::_,_,_,h,_,_=>by cases h
  |x::_,[],_,_,h,_,_=>by cases x<;>cases h
theorem c0m{x y:AV}{vx vy:Value}{c:Bool}(h:a7d x y=some c)(hx:d6 ρ x=some vx)(hy:d6 ρ y=some vy):∃s,vx= .string s∧vy= .string s∧c=true:=by
  unfold a7d at h
  split at h
  · obtain⟨h1,h2⟩:=l4 h
    cases h2
    obtain⟨us,s,a1,a2,rfl⟩:=a9u hx
    obtain⟨vs,t,b1,b2,rfl⟩:=a9u hy
    have:=b0m h1 a1 b1
    subst this
    rw[a2] at b2;cases b2
    exact⟨_,rfl,rfl,rfl⟩
  · cases h
theorem f8d{op:BinOp}{x y:AV}{vx vy:Value}{c:Bool}(h:b1E op x y=some c)(hx:d6 ρ x=some vx)(hy:d6 ρ y=some vy)(t:TypeId):
    (∃u,(binOp op t vx vy).run P w= .ok u w∧d6 ρ (.b c)=some u)∧∀a b,(eqGuard op t a b vx vy).run P w= .ok () w:=by
  unfold b1E at h
  split at h
  · rename_i i a
    obtain⟨h1,h2⟩:=l4 h
    have h1:a≤i/4:=Nat.le_of_ble_eq_true h1
    obtain⟨hs,_⟩:=a9C hx
    rw[F3] at hy
    cases hy
    have hform:(i % 4=1∧∃k,vx= .int .i64 (.negSucc k))∨(i % 4=2∧∃k,vx= .int .i64 (.ofNat k)∧i/4<k)∨(i % 4≠1∧i % 4≠2):=by
      clear hx
      unfold a1T at hs
      by_cases c1:i % 4=1
      · refine .inl ⟨c1,?_⟩
        rw[c1] at hs
        split at hs<;>first|exact⟨_,rfl⟩|(rename_i h0 _;omega)|(rename_i h0;omega)|cases hs
      · by_cases c2:i % 4=2
        · refine .inr (.inl ⟨c2,?_⟩)
          rw[c2] at hs
          split at hs<;>first|exact⟨_,rfl,of_decide_eq_true hs⟩|(rename_i h0 _;omega)|(rename_i h0;omega)|cases hs
        · exact .inr (.inr ⟨c1,c2⟩)
    rcases hform with⟨h0,k,rfl⟩|⟨h0,k,rfl,hk⟩|⟨h0,h0'⟩
    · rw[h0] at h2
      refine⟨⟨.bool c,?_,C2 c⟩,fun x y=>by simp only[eqGuard];split<;>rfl⟩
      cases op<;>first
        |(cases h2;done)
        | (cases h2
           simp only[binOp,Op.intCmp,ne_eq,not_true_eq_false,if_false,Sem.run_pure,Result.ok.injEq,Value.bool.injEq,and_true]
           simp;try omega)
    · rw[h0] at h2
      refine⟨⟨.bool c,?_,C2 c⟩,fun x y=>by simp only[eqGuard];split<;>rfl⟩
      cases op<;>first
        |(cases h2;done)
        | (cases h2
           simp only[binOp,Op.intCmp,ne_eq,not_true_eq_false,if_false,Sem.run_pure,Result.ok.injEq,Value.bool.injEq,and_true]
           simp;try omega)
    · split at h2<;>first|(exfalso;omega)|cases h2
  · cases h
theorem a5o{α:Type}{a b:Option α}{c:α}(h:a.or b=some c):a=some c∨b=some c:=by
  cases a with
  |none=>exact .inr h
  |some x=>exact .inl h
theorem a43{α:Type}{s:Sem α}{a:α}(h:a0p s=some a):s.run P w= .ok a w:=by
  cases s<;>simp only[a0p,reduceCtorEq] at h
  cases h
  rfl
theorem g0U{op:BinOp}{x y z:AV}{vx vy:Value}(h:b4e op x y=some z)(hx:d6 ρ x=some vx)(hy:d6 ρ y=some vy)(t:TypeId):
    (∃u,(binOp op t vx vy).run P w= .ok u w∧d6 ρ z=some u)∧∀a b,(eqGuard op t a b vx vy).run P w= .ok () w:=by
  unfold b4e at h
  split at h
  · rename_i k a k' b
    obtain⟨hk,h1⟩:=l4 h
    have hk:=of_decide_eq_true hk
    subst hk
    rw[l7 rfl] at hx hy
    cases hx;cases hy
    refine⟨?_,fun x y=>by simp only[eqGuard];split<;>rfl⟩
    split at h1
    all_goals
      obtain⟨v,h2,h3⟩:=d9 h1
      obtain⟨h4,h5⟩:=l4 h3
      cases h5
      have h6:=a43 (P:=P) (w:=w) h2
      refine⟨v,?_,M9 ρ v h4⟩
      first
        |(simp only[binOp,ne_eq,not_true_eq_false,if_false];exact h6)
        |(cases op<;>first|contradiction|(simp only[binOp,ne_eq,not_true_eq_false,if_false];exact h6))
  · rename_i k a b k' c d
    obtain⟨hk,h1⟩:=l4 h
    have hk:=of_decide_eq_true hk
    subst hk
    rw[l7 rfl] at hx hy
    cases hx;cases hy
    refine⟨?_,fun x y=>by simp only[eqGuard];split<;>rfl⟩
    obtain⟨v,h2,h3⟩:=d9 h1
    obtain⟨h4,h5⟩:=l4 h3
    cases h5
    have h6:=a43 (P:=P) (w:=w) h2
    refine⟨v,?_,M9 ρ v h4⟩
    cases op<;>(simp only[binOp,ne_eq,not_true_eq_false,if_false];exact h6)
  · cases h
theorem c7b{op:BinOp}{t:TypeId}{x y z:AV}{vx vy:Value}(h:d8 P op t x y=some z)(hx:d6 ρ x=some vx)(hy:d6 ρ y=some vy):
    (∃u,(binOp op t vx vy).run P w= .ok u w∧d6 ρ z=some u)∧∀a b,(eqGuard op t a b vx vy).run P w= .ok () w:=by
  unfold d8 at h
  split at h
  · rename_i k a k' b h1 h2
    have:=G1 h1 hx;subst this
    have:=G1 h2 hy;subst this
    exact⟨f7z h t,fun a b=>by simp only[eqGuard];split<;>rfl⟩
  · split at h
    · rename_i a b h1 h2
      have:=J5 h1 hx;subst this
      have:=J5 h2 hy;subst this
      exact⟨f9j h t,fun a b=>by simp only[eqGuard];split<;>rfl⟩
    · split at h
      · rename_i z' hz
        cases h
        exact g0U hz hx hy t
      · split at h
        · simp only[Option.map_eq_some_iff] at h
          obtain⟨c,hc,rfl⟩:=h
          refine(a5o hc).elim (fun hc0=> ?_) (fun hc=> ?_)
          rotate_left
          · obtain⟨s,rfl,rfl,rfl⟩:=c0m hc hx hy
            exact⟨⟨_,by simp[binOp,Op.stringOp],C2 _⟩,fun a b=>by simp only[eqGuard];split<;>rfl⟩
          refine(a5o hc0).elim (fun hc=> ?_) (fun hc=> ?_)
          rotate_left
          · obtain⟨us,vs,rfl,rfl,hg,he⟩:=b9r (w:=w) hc hx hy
            exact⟨⟨.bool c,by simp only[binOp,Sem.run_bind,Op.equal,Op.maxDepth,he,Result.andThen_ok,Sem.run_pure],C2 _⟩,fun a b=>run_eqGuard_agg w _ _ _ _ _ _ hg⟩
          have he:=b95 (w:=w) hc hx hy
          have hk:=b74 hc hx hy
          refine⟨⟨.bool c,?_,C2 c⟩,?_⟩
          · rcases hk with⟨a,b,rfl,rfl⟩|⟨a,b,rfl,rfl⟩|⟨a,b,c,a',b',c',rfl,rfl⟩|⟨a,b,rfl,rfl⟩|⟨rfl|⟨f,a,b,rfl⟩,rfl|⟨f',a',b',rfl⟩⟩<;>simp only[binOp,Sem.run_bind,he,Result.andThen_ok,Sem.run_pure]
          · intro a b
            rcases hk with⟨a,b,rfl,rfl⟩|⟨a,b,rfl,rfl⟩|⟨a,b,c,a',b',c',rfl,rfl⟩|⟨a,b,rfl,rfl⟩|⟨rfl|⟨f,a,b,rfl⟩,rfl|⟨f',a',b',rfl⟩⟩<;>simp[eqGuard]
        · simp only[Option.map_eq_some_iff] at h
          obtain⟨c,hc,rfl⟩:=h
          refine(a5o hc).elim (fun hc0=> ?_) (fun hc=> ?_)
          rotate_left
          · obtain⟨s,rfl,rfl,rfl⟩:=c0m hc hx hy
            exact⟨⟨_,by simp[binOp,Op.stringOp],C2 _⟩,fun a b=>by simp only[eqGuard];split<;>rfl⟩
          refine(a5o hc0).elim (fun hc=> ?_) (fun hc=> ?_)
          rotate_left
          · obtain⟨us,vs,rfl,rfl,hg,he⟩:=b9r (w:=w) hc hx hy
            exact⟨⟨.bool (!c),by simp only[binOp,Sem.run_bind,Op.equal,Op.maxDepth,he,Result.andThen_ok,Sem.run_pure],C2 _⟩,fun a b=>run_eqGuard_agg w _ _ _ _ _ _ hg⟩
          have he:=b95 (w:=w) hc hx hy
          have hk:=b74 hc hx hy
          refine⟨⟨.bool (!c),?_,C2 _⟩,?_⟩
          · rcases hk with⟨a,b,rfl,rfl⟩|⟨a,b,rfl,rfl⟩|⟨a,b,c,a',b',c',rfl,rfl⟩|⟨a,b,rfl,rfl⟩|⟨rfl|⟨f,a,b,rfl⟩,rfl|⟨f',a',b',rfl⟩⟩<;>simp only[binOp,Sem.run_bind,he,Result.andThen_ok,Sem.run_pure]
          · intro a b
            rcases hk with⟨a,b,rfl,rfl⟩|⟨a,b,rfl,rfl⟩|⟨a,b,c,a',b',c',rfl,rfl⟩|⟨a,b,rfl,rfl⟩|⟨rfl|⟨f,a,b,rfl⟩,rfl|⟨f',a',b',rfl⟩⟩<;>simp[eqGuard]
        · simp only[Option.map_eq_some_iff] at h
          obtain⟨c,hc,rfl⟩:=h
          exact f8d hc hx hy t
theorem a2C{n:Nat}(h:n≤9223372036854775807):IntKind.i64.wrap (n:Int)=(n:Int):=IntWalk.i64_in _ (by omega)
theorem a1J{s:Nat}{slow:R}{z:Option AV}(hs:slow=rto m z)(h:s≤9223372036854775807→z=some (.n s)):rtn m s slow=rto m z:=by
  unfold rtn
  rw[z7,A6]
  by_cases hb:s≤9223372036854775807
  · rw[if_pos (by rw[A1];simpa using hb),h hb];rfl
  · rw[if_neg (by rw[A1];simpa using hb),hs]
theorem M1{x y:RO}{fr:Fr}{slow r:R}{k:Nat→Nat→R}(hs:slow=r)(hk:∀a b,ev x fr= .n a→ev y fr= .n b→k a b=r):q2 x y fr slow k=r:=by
  unfold q2
  cases hx:ev x fr<;>simp only[elN] <;>try exact hs
  cases hy:ev y fr<;>simp only[] <;>try exact hs
  exact hk _ _ hx hy
theorem I6(op:BinOp)(t:TypeId)(a b:Nat):d8 P op t (.n a) (.n b)=a3e op .i64 (Int.ofNat a) .i64 (Int.ofNat b):=rfl
theorem a3j(c:Bool):rtb m c=rto m (some (.b c)):=by cases c<;>rfl
theorem b80{t:TypeId}{x y:RO}{fr:Fr}:a7M (d8 P .add t) x y fr m=rto m (d8 P .add t (ev x fr) (ev y fr)):=
  M1 rfl fun a b hx hy=>a1J rfl fun h=>by
    rw[hx,hy,I6]
    show some (ofI .i64 (IntKind.i64.wrap (Int.ofNat a+Int.ofNat b)))=_
    rw[show Int.ofNat a+Int.ofNat b=((Nat.add a b:Nat):Int) from rfl,a2C h];rfl
theorem b83{t:TypeId}{x y:RO}{fr:Fr}:a7S (d8 P .mul t) x y fr m=rto m (d8 P .mul t (ev x fr) (ev y fr)):=
  M1 rfl fun a b hx hy=>a1J rfl fun h=>by
    rw[hx,hy,I6]
    show some (ofI .i64 (IntKind.i64.wrap (Int.ofNat a*Int.ofNat b)))=_
    rw[show Int.ofNat a*Int.ofNat b=((Nat.mul a b:Nat):Int) from rfl,a2C h];rfl
theorem b8U{t:TypeId}{x y:RO}{fr:Fr}:a7R (d8 P .sub t) x y fr m=rto m (d8 P .sub t (ev x fr) (ev y fr)):=
  M1 rfl fun a b hx hy=>by
    rw[A6]
    split
    · rename_i hb
      have hb:b≤a:=Nat.le_of_ble_eq_true hb
      refine a1J rfl fun h=> ?_
      rw[hx,hy,I6]
      show some (ofI .i64 (IntKind.i64.wrap (Int.ofNat a-Int.ofNat b)))=_
      rw[show Int.ofNat a-Int.ofNat b=((Nat.sub a b:Nat):Int) from by
        have:(Nat.sub a b)=a-b:=rfl
        rw[this];simp only[Int.ofNat_eq_natCast];omega,a2C h];rfl
    · rfl
theorem b8w{t:TypeId}{x y:RO}{fr:Fr}:a7H (d8 P .quo t) x y fr m=rto m (d8 P .quo t (ev x fr) (ev y fr)):=
  M1 rfl fun a b hx hy=>by
    rw[A6,A4]
    by_cases hb:b=0
    · subst hb;rw[hx,hy,I6];rfl
    · rw[if_neg (by simpa using hb)]
      refine a1J rfl fun h=> ?_
      rw[hx,hy,I6]
      show(if Int.ofNat b=0 then none else some (ofI .i64 (IntKind.i64.wrap ((Int.ofNat a).tdiv (Int.ofNat b)))))=_
      rw[if_neg (by simp only[Int.ofNat_eq_natCast];omega),show(Int.ofNat a).tdiv (Int.ofNat b)=((Nat.div a b:Nat):Int) from rfl,a2C h];rfl
theorem b8N{t:TypeId}{x y:RO}{fr:Fr}:a7v (d8 P .rem t) x y fr m=rto m (d8 P .rem t (ev x fr) (ev y fr)):=
  M1 rfl fun a b hx hy=>by
    rw[A6,A4]
    by_cases hb:b=0
    · subst hb;rw[hx,hy,I6];rfl
    · rw[if_neg (by simpa using hb)]
      refine a1J rfl fun _=> ?_
      rw[hx,hy,I6]
      show(if Int.ofNat b=0 then none else some (ofI .i64 ((Int.ofNat a).tmod (Int.ofNat b))))=_
      rw[if_neg (by simp only[Int.ofNat_eq_natCast];omega)];rfl
theorem b9t{t:TypeId}{x y:RO}{fr:Fr}:rLt (d8 P .lss t) x y fr m=rto m (d8 P .lss t (ev x fr) (ev y fr)):=
  M1 rfl fun a b hx hy=>by
    rw[a3j,hx,hy,I6]
    show rto m (some (.b _))=rto m (some (.b (decide (Int.ofNat a<Int.ofNat b))))
    rw[A1];congr 3;rw[Bool.eq_iff_iff];simp only[decide_eq_true_eq,Int.ofNat_eq_natCast];omega
theorem b9G{t:TypeId}{x y:RO}{fr:Fr}:rLe (d8 P .leq t) x y fr m=rto m (d8 P .leq t (ev x fr) (ev y fr)):=
  M1 rfl fun a b hx hy=>by
    rw[a3j,hx,hy,I6]
    show rto m (some (.b _))=rto m (some (.b (decide (Int.ofNat a≤Int.ofNat b))))
    rw[A1];congr 3;rw[Bool.eq_iff_iff];simp only[decide_eq_true_eq,Int.ofNat_eq_natCast];omega
theorem b9A{t:TypeId}{x y:RO}{fr:Fr}:rGt (d8 P .gtr t) x y fr m=rto m (d8 P .gtr t (ev x fr) (ev y fr)):=
  M1 rfl fun a b hx hy=>by
    rw[a3j,hx,hy,I6]
    show rto m (some (.b _))=rto m (some (.b (decide (Int.ofNat a>Int.ofNat b))))
    rw[A1];congr 3;rw[Bool.eq_iff_iff];simp only[decide_eq_true_eq,Int.ofNat_eq_natCast];omega
theorem b9y{t:TypeId}{x y:RO}{fr:Fr}:rGe (d8 P .geq t) x y fr m=rto m (d8 P .geq t (ev x fr) (ev y fr)):=
  M1 rfl fun a b hx hy=>by
    rw[a3j,hx,hy,I6]
    show rto m (some (.b _))=rto m (some (.b (decide (Int.ofNat a≥Int.ofNat b))))
    rw[A1];congr 3;rw[Bool.eq_iff_iff];simp only[decide_eq_true_eq,Int.ofNat_eq_natCast];omega
theorem c0l{t:TypeId}{x y:RO}{fr:Fr}:rEq (d8 P .eql t) x y fr m=rto m (d8 P .eql t (ev x fr) (ev y fr)):=
  M1 rfl fun a b hx hy=>by
    rw[a3j,hx,hy,I6]
    show rto m (some (.b _))=rto m (some (.b (Int.ofNat a==Int.ofNat b)))
    rw[A4];congr 3;rw[Bool.eq_iff_iff];simp only[decide_eq_true_eq,Int.ofNat_eq_natCast,beq_iff_eq];omega
theorem b98{t:TypeId}{x y:RO}{fr:Fr}:rNe (d8 P .neq t) x y fr m=rto m (d8 P .neq t (ev x fr) (ev y fr)):=
  M1 rfl fun a b hx hy=>by
    rw[hx,hy,I6]
    show bc (Nat.beq a b) _ _=rto m (some (.b (Int.ofNat a !=Int.ofNat b)))
    have e:bc (Nat.beq a b) (some (AV.b false,m)) (some (AV.b true,m))=rto m (some (.b (!Nat.beq a b))):=by cases Nat.beq a b<;>rfl
    rw[e,A4];congr 3;rw[Bool.eq_iff_iff];simp only[Bool.not_eq_true',decide_eq_false_iff_not,Int.ofNat_eq_natCast,bne_iff_ne,ne_eq];omega
end
end Go.Am
