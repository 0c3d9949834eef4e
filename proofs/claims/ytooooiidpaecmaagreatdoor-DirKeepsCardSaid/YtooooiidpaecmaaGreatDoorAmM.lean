import Derived.Test.YtooooiidpaecmaaGreatDoorAmL
/- The abstract machine: what hangs on memory, and what changes it. -/
namespace Go.Am
open Go Go.RowKit
section
variable {P:Program}
def Ind(f:M→R):Prop:=∀m m2 x m',f m=some (x,m')→m'=m∧f m2=some (x,m2)
theorem Ind.ret(a:AV):Ind fun m=>some (a,m):=by
 intro m m2 x m' h
 simp only[Option.some.injEq,Prod.mk.injEq] at h
 exact⟨h.2.symm,by rw[h.1]⟩
theorem Ind.none:Ind fun _=>Option.none:=by intro m m2 x m' h;cases h
theorem Ind.ob{α:Type}(y:Option α){k:M→α→R}(h:∀a,Ind fun m=>k m a):Ind fun m=>ob y (k m):=by
 cases y with
 |none=>exact Ind.none
 |some a=>exact h a
theorem Ind.bc(c:Bool){f g:M→R}(hf:Ind f)(hg:Ind g):Ind fun m=>bc c (f m) (g m):=by cases c;exact hg;exact hf
theorem Ind.fc(n:Nat){k:M→Nat→R}(h:∀a,Ind fun m=>k m a):Ind fun m=>fc n (k m):=by
 have e:(fun m=>Am.fc n (k m))=fun m=>k m n:=by funext m;exact v6 n (k m)
 rw[e]
 exact h n
theorem Ind.rto(y:Option AV):Ind fun m=>rto m y:=by
 cases y with
 |none=>exact Ind.none
 |some a=>exact Ind.ret a
theorem Ind.rtb(c:Bool):Ind fun m=>rtb m c:=by cases c;exact Ind.ret _;exact Ind.ret _
theorem Ind.rtn(n:Nat){f:M→R}(hf:Ind f):Ind fun m=>rtn m n (f m):=Ind.fc n fun _a=>Ind.bc _ (Ind.ret _) hf
theorem Ind.elN{f:M→R}{k:M→Nat→R}(hf:Ind f)(hk:∀a,Ind fun m=>k m a)(x:AV):Ind fun m=>elN (f m) (k m) x:=by cases x<;>first|exact hf|exact hk _
theorem Ind.elB{f:M→R}{k:M→Bool→R}(hf:Ind f)(hk:∀a,Ind fun m=>k m a)(x:AV):Ind fun m=>elB (f m) (k m) x:=by cases x<;>first|exact hf|exact hk _
theorem Ind.elPtr{f:M→R}{k:M→Nat→Nat→R}(hf:Ind f)(hk:∀a b,Ind fun m=>k m a b)(x:AV):Ind fun m=>elPtr (f m) (k m) x:=by cases x<;>first|exact hf|exact hk _ _
theorem Ind.elSl{f:M→R}{k:M→Nat→Nat→Nat→Nat→Bool→R}(hf:Ind f)(hk:∀a b c d e,Ind fun m=>k m a b c d e)(x:AV):Ind fun m=>elSl (f m) (k m) x:=by cases x<;>first|exact hf|exact hk _ _ _ _ _
theorem Ind.elFunc{f:M→R}{k:M→FuncId→List AV→R}(hf:Ind f)(hk:∀a b,Ind fun m=>k m a b)(x:AV):Ind fun m=>elFunc (f m) (k m) x:=by cases x<;>first|exact hf|exact hk _ _
theorem Ind.elBnd{f:M→R}{k:M→FuncId→List AV→R}(hf:Ind f)(hk:∀a b,Ind fun m=>k m a b)(x:AV):Ind fun m=>elBnd (f m) (k m) x:=by cases x<;>first|exact hf|exact hk _ _
theorem Ind.elAgg{f:M→R}{k:M→List AV→R}(hf:Ind f)(hk:∀a,Ind fun m=>k m a)(x:AV):Ind fun m=>elAgg (f m) (k m) x:=by cases x<;>first|exact hf|exact hk _
theorem Ind.elTup{f:M→R}{k:M→List AV→R}(hf:Ind f)(hk:∀a,Ind fun m=>k m a)(x:AV):Ind fun m=>elTup (f m) (k m) x:=by cases x<;>first|exact hf|exact hk _
theorem Ind.elIf{f:M→R}{k:M→TypeId→AV→R}(hf:Ind f)(hk:∀a b,Ind fun m=>k m a b)(x:AV):Ind fun m=>elIf (f m) (k m) x:=by cases x<;>first|exact hf|exact hk _ _
theorem Ind.q2(x y:RO)(fr:Fr){f:M→R}{k:M→Nat→Nat→R}(hf:Ind f)(hk:∀a b,Ind fun m=>k m a b):Ind fun m=>q2 x y fr (f m) (k m):=
 Ind.elN hf (fun a=>Ind.elN hf (fun b=>hk a b) _) _
theorem f2g{o:OP}(h0:o.cls=0)(fr:Fr):Ind (run o fr):=by
 cases o<;>try exact absurd h0 (by unfold OP.cls;exact Nat.succ_ne_zero _)
 case none=>exact Ind.none
 all_goals first
  |(show Ind (rMv _ fr);unfold rMv)
  |(show Ind (b0s _ _ _ fr);unfold b0s)
  |(show Ind (a1Q _ _ fr);unfold a1Q)
  |(show Ind (a2z _ fr);unfold a2z)
  |(show Ind (b0v _ _ _ fr);unfold b0v)
  |(show Ind (a5F _ _ _ fr);unfold a5F)
  |(show Ind (a5H _ _ _ fr);unfold a5H)
  |(show Ind (a5x _ _ _ fr);unfold a5x)
  |(show Ind (a5D _ _ _ fr);unfold a5D)
  |(show Ind (a5I _ _ _ fr);unfold a5I)
  |(show Ind (a5w _ _ _ fr);unfold a5w)
  |(show Ind (rLt _ _ _ fr);unfold rLt)
  |(show Ind (rLe _ _ _ fr);unfold rLe)
  |(show Ind (rGt _ _ _ fr);unfold rGt)
  |(show Ind (rGe _ _ _ fr);unfold rGe)
  |(show Ind (rEq _ _ _ fr);unfold rEq)
  |(show Ind (rNe _ _ _ fr);unfold rNe)
  |(show Ind (rUn _ _ fr);unfold rUn)
  |(show Ind (Z1 _ _ fr);unfold Z1)
  |(show Ind (a4h _ _ fr);unfold a4h)
  |(show Ind (a1F _ _ fr);unfold a1F)
  |(show Ind (a2a _ _ fr);unfold a2a)
  |(show Ind (a2s _ fr);unfold a2s)
  |(show Ind (a2f _ fr);unfold a2f)
  |(show Ind (a5N _ _ _ fr);unfold a5N)
  |(show Ind (rFa _ _ fr);unfold rFa)
  |(show Ind (a5G _ _ fr);unfold a5G)
  |(show Ind (a5i _ _ _ fr);unfold a5i)
  |(show Ind (a1f _ _ _ fr);unfold a1f)
  |(show Ind (a05 _ _ _ _ fr);unfold a05)
  |(show Ind (Q5 _ _ fr);unfold Q5)
  |(show Ind (a5Q _ _ fr);unfold a5Q)
  |(show Ind (rFn _ _ fr);unfold rFn)
  |(show Ind (b1d _ _ fr);unfold b1d)
  |(show Ind (a07 _ _ _ _ _ _ fr);unfold a07)
  |(show Ind (a5P _ _ fr);unfold a5P)
  |(show Ind (a1c _ _ fr);unfold a1c)
  |(show Ind (a1d _ _ fr);unfold a1d)
  |(show Ind (a1a _ fr);unfold a1a)
  |(show Ind (a5E _ _ fr);unfold a5E)
  |(show Ind (a5z _ _ _ fr);unfold a5z)
 all_goals repeat' first
  |exact Ind.none
  |exact Ind.ret _
  |exact Ind.rto _
  |exact Ind.rtb _
  |apply Ind.q2
  |apply Ind.rtn
  |apply Ind.ob
  |apply Ind.bc
  |apply Ind.fc
  |apply Ind.elN
  |apply Ind.elB
  |apply Ind.elPtr
  |apply Ind.elSl
  |apply Ind.elFunc
  |apply Ind.elBnd
  |apply Ind.elAgg
  |apply Ind.elTup
  |apply Ind.elIf
  |split
  |(intro _)
def Kp(m:M)(r:R):Prop:=∀x m',r=some (x,m')→m'=m
theorem Kp.ret{m:M}(a:AV):Kp m (some (a,m)):=by
 intro x m' h
 simp only[Option.some.injEq,Prod.mk.injEq] at h
 exact h.2.symm
theorem Kp.none{m:M}:Kp m Option.none:=by intro x m' h;cases h
theorem Kp.ob{m:M}{α:Type}(y:Option α){k:α→R}(h:∀a,Kp m (k a)):Kp m (ob y k):=by
 cases y with
 |none=>exact Kp.none
 |some a=>exact h a
theorem Kp.orec{m:M}{α:Type}{f:R}{k:α→R}(hf:Kp m f)(hk:∀a,Kp m (k a))(y:Option α):Kp m (Option.rec (motive:=fun _=>R) f k y):=by
 cases y with
 |none=>exact hf
 |some a=>exact hk a
theorem Kp.bc{m:M}(c:Bool){f g:R}(hf:Kp m f)(hg:Kp m g):Kp m (bc c f g):=by cases c;exact hg;exact hf
theorem Kp.fc{m:M}(n:Nat){k:Nat→R}(h:∀a,Kp m (k a)):Kp m (fc n k):=by rw[v6];exact h n
theorem Kp.rto{m:M}(y:Option AV):Kp m (rto m y):=by
 cases y with
 |none=>exact Kp.none
 |some a=>exact Kp.ret a
theorem Kp.elPtr{m:M}{f:R}{k:Nat→Nat→R}(hf:Kp m f)(hk:∀a b,Kp m (k a b))(x:AV):Kp m (elPtr f k x):=by cases x<;>first|exact hf|exact hk _ _
theorem Kp.elSl{m:M}{f:R}{k:Nat→Nat→Nat→Nat→Bool→R}(hf:Kp m f)(hk:∀a b c d e,Kp m (k a b c d e))(x:AV):Kp m (elSl f k x):=by cases x<;>first|exact hf|exact hk _ _ _ _ _
theorem Kp.slEnd{m:M}(b off adv:Nat)(lim:Bool):Kp m (slEnd m b off adv lim):=by
 unfold Am.slEnd
 exact Kp.bc _ (Kp.ret _) (Kp.ob _ fun _=>Kp.bc _ (Kp.bc _ (Kp.ret _) (Kp.ret _)) Kp.none)
theorem f0o{o:OP}(h1:o.cls=1)(fr:Fr)(m:M):Kp m (run o fr m):=by
 cases o<;>try exact absurd h1 (by unfold OP.cls;first|exact Nat.zero_ne_one|exact(by decide:¬2=1))
 all_goals first
  |(show Kp m (M3 _ _ _ _ _ fr m);unfold M3)
  |(show Kp m (a2k _ fr m);unfold a2k)
  |(show Kp m (U8 _ fr m);unfold U8)
  |(show Kp m (U1 _ _ fr m);unfold U1)
  |(show Kp m (W4 _ fr m);unfold W4)
  |(show Kp m (rSl _ _ _ _ _ _ fr m);unfold rSl)
  |(show Kp m (a2D _ fr m);unfold a2D)
  |(show Kp m (a2H _ fr m);unfold a2H)
  |(show Kp m (J3 _ _ _ _ fr m);unfold J3)
  |(show Kp m (a2F _ _ _ fr m);unfold a2F)
 all_goals repeat' first
  |exact Kp.none
  |exact Kp.ret _
  |exact Kp.rto _
  |exact Kp.slEnd _ _ _ _
  |apply Kp.orec
  |apply Kp.ob
  |apply Kp.bc
  |apply Kp.fc
  |apply Kp.elPtr
  |apply Kp.elSl
  |split
  |(intro _)
theorem b48{cf:CF}{co:CO}(h0:co.cls=0){fr:Fr}:Ind fun m=>F9 cf co fr m:=by
 cases co with
 |op d g o=>
  simp only[a3l]
  exact Ind.ob _ fun t=>Ind.bc t (f2g h0 fr) (Ind.ret _)
 |call d g f args=>cases h0
theorem b5h{cf:CF}{co:CO}(h0:co.cls=1){fr:Fr}{m:M}:Kp m (F9 cf co fr m):=by
 cases co with
 |op d g o=>
  simp only[a3l]
  exact Kp.ob _ fun t=>Kp.bc t (f0o h0 fr m) (Kp.ret _)
 |call d g f args=>cases h0
theorem b8z:∀{a b:List UInt8},E1 a b=true→a=b
 | [],[],_=>rfl
 |a::l,b::k,h=>by
  simp only[E1,Bool.and_eq_true,Nat.beq_eq] at h
  rw[UInt8.toNat_inj.1 h.1,b8z h.2]
 | [],_::_,h=>by cases h
 |_::_,[],h=>by cases h
theorem f0x{x y:Value}(h:veq x y=true):x=y:=by
 unfold veq at h
 split at h<;>try simp only[Bool.and_eq_true,decide_eq_true_eq,beq_iff_eq,Nat.beq_eq,Bool.false_eq_true] at h
 ·rw[h.1,h.2]
 ·rw[h]
 ·rename_i a b
  have:=b8z h
  cases a;cases b
  simp only[Array.toList_inj] at this
  simpa using this
 ·rfl
 ·rw[h.1,h.2]
 ·rw[h.1,h.2.1,h.2.2]
 ·rfl
 ·rfl
 ·rfl
theorem a1p{f:AV→AV→Bool}(hf:∀x y,f x y=true→x=y):∀{l k:List AV},Z6 f l k=true→l=k
 | [],[],_=>rfl
 |x::l,y::k,h=>by
  simp only[Z6,Bool.and_eq_true] at h
  rw[hf _ _ h.1,a1p hf h.2]
 | [],_::_,h=>by cases h
 |_::_,[],h=>by cases h
theorem K0:∀{n:Nat} {x y:AV},t8 n x y=true→x=y
 |0,_,_,h=>by cases h
 |n+1,x,y,h=>by
  unfold t8 at h
  split at h<;>try simp only[Bool.and_eq_true,beq_iff_eq,Nat.beq_eq,Bool.false_eq_true] at h
  ·rw[h]
  ·rw[h]
  ·rw[h]
  ·rw[f0x h]
  ·rw[h.1,h.2]
  ·obtain⟨h1,h2,h3,h4,h5⟩:=h;rw[h1,h2,h3,h4,h5]
  ·obtain⟨h1,h2,h3⟩:=h;rw[h1,h2,h3]
  ·rw[h]
  ·rw[h]
  ·rw[a1p (fun _ _=>K0) h]
  ·rw[a1p (fun _ _=>K0) h]
  ·rw[a1p (fun _ _=>K0) h]
  ·rw[h.1,a1p (fun _ _=>K0) h.2]
end
end Go.Am
